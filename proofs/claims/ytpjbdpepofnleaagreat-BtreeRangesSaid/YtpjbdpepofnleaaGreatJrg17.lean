/-
  Joined by join.py: Qi Qj
-/
import Derived.Test.YtpjbdpepofnleaaGreatJrg16
section
namespace Go.Proofs.YtpjbdpepofnleaaGreat
open Go.RowKit Go.ChangeMaps Go.MapKept Go.Maps Go.Sort Go.Shelf
theorem tail3 {α β γ : Type} {G : Prop} {H P : α → β → γ → Prop} (main : (∀ a b c, H a b c → P a b c) → G) (tail : ∀ a b c, H a b c → P a b c) : G := main tail
theorem chC_root (c : CD) (g bn bs : Nat) {t : Nat} (ht : t < 8) : (chC c g bn bs)[2 + t]? = some (.int .i64 ((c.roots t : Nat) : Int)) := by
  match t, ht with
  | 0, _ | 1, _ | 2, _ | 3, _ | 4, _ | 5, _ | 6, _ | 7, _ => rfl
theorem chC_set (c : CD) (g bn bs : Nat) {t : Nat} (ht : t < 8) (v : Nat) : (chC c g bn bs).set (2 + t) (.int .i64 ((v : Nat) : Int)) = chC (c.root t v) g bn bs := by
  match t, ht with
  | 0, _ | 1, _ | 2, _ | 3, _ | 4, _ | 5, _ | 6, _ | 7, _ => rfl
theorem WfW.root {c : CD} (h : WfW c) {t v : Nat} (hv : v < 65536) : WfW (c.root t v) := ⟨h.n, h.next, h.head, h.pg, h.rM, h.rS, h.mM, h.mS, fun k => by show (if k = t then v else c.roots k) < 65536; split; exact hv; exact h.roots k⟩
theorem enter_alloc (vs : Array Value) (w : World) : (callFunc 33 vs).run Tryz.prog w = .ok (.enter 33 vs) w := by kernel_rfl
theorem enter_write (vs : Array Value) (w : World) : (callFunc 34 vs).run Tryz.prog w = .ok (.enter 34 vs) w := by kernel_rfl
section
variable {w0 wS w w1 w2 : World} {dk g bc bn bs : Nat} {s : PS} {X D : Nat → Prop} {L : List LB} {N : List NP} {Kl : List Kq} {c c' : CD}
theorem ChAt.root (h : ChAt wS w g bc bn bs D c) {t v : Nat} (ht : t < 8) (hv : v < 65536) : ChAt wS (w.setCell ⟨bc, 2 + t, none⟩ (.int .i64 ((v : Nat) : Int))) g bc bn bs D (c.root t v) ∧ Fr [bc] w (w.setCell ⟨bc, 2 + t, none⟩ (.int .i64 ((v : Nat) : Int))) := by
  have hf : Fr [bc] w (w.setCell ⟨bc, 2 + t, none⟩ (.int .i64 ((v : Nat) : Int))) := (Fr.refl [bc] w).setCell (.inl (by simp)) _
  exact ⟨h.set (c' := c.root t v) (_cs := []) (by rw [← chC_set c g bn bs ht v]; exact h.blk.set_ (2 + t) _) hf rfl rfl (h.wf.root hv), hf⟩
theorem Sx.row1 (h : Sx wS w g bc bn bs D L N Kl c w1) {x : It} {kv vv av : Value} {n : Nd} (hx : ItC (Off D L N) w1 x kv vv av) (hf : Fr [] w1 w2) {p : Nat} (hb : Blk w2 p 77 [kv, vv, av]) (hp : w1.heap.size ≤ p) (hn : n.l = [x]) :
    NdV (Off D L N) w2 0 (.agg #[.int .i64 (kindOf n), .int .i64 (n.first : Int), .slice (some ⟨p, 0, none⟩) 1 1]) n := by
  have hz := hf.size
  have hz1 := h.fr.size
  have hlt := hb.lt
  refine ⟨.slice (some ⟨p, 0, none⟩) 1 1, [kv, vv, av], rfl, ?_, ?_, fun q hq => ?_⟩
  · rw [hn]
    exact ⟨rfl, .inr ⟨p, 1, #[kv, vv, av], rfl, Nat.zero_le _, hb, Nat.le_refl _, by unfold maxLen; omega, rfl, rfl⟩⟩
  · rw [hn]
    have h1 : ItC (fun q => Off D L N q ∧ (Value.slice (some ⟨p, 0, none⟩) 1 1).ownBlock ≠ some q) w1 x kv vv av :=
      hx.re (fun q hq hl => ⟨hq, fun e => by have : p = q := Option.some.inj e; omega⟩) ⟨w2.heap.size, h.offD _ hz, fun e => by have : p = _ := Option.some.inj e; omega⟩
    exact ⟨h1.fr hf (by simp), trivial⟩
  · obtain rfl : p = q := Option.some.inj hq
    exact h.offD _ hp
set_option maxRecDepth 100000 in
set_option maxHeartbeats 8000000 in
/-- A new root, if the old one has to lay something. -/
theorem grow_ch {t : Nat} {u : Ky × Nat} {uv : Value} (hp : PgC w0 wS dk g s X c) (h : ChAt wS w g bc bn bs D c) (hu : UpV D w uv u) (hD : ∀ q, w.heap.size ≤ q → D q) (ht : t < 8)
    (hok : u.2 ≠ 0 → 1 ≤ u.1.length ∧ u.1.length ≤ 96 ∧ u.2 < 65536 ∧ c.e = 0 ∧ 0 < c.n ∧ (c.head ≠ 0 → c.head < c.n ∧ ∃ j, c.nx c.head = some j)) :
    Calls Tryz.prog 36 #[.pointer (some ⟨bc, 0, none⟩), .int .i64 (t : Int), uv] w fun e w' => e = .returned (.tuple #[]) ∧ ChAt wS w' g bc bn bs D (growC c t u) ∧ Fr [bc, bn, bs] w w' := by
  obtain ⟨Au, cu, rfl, hbu⟩ := hu.open_
  obtain ⟨wb, hwb⟩ : ∃ wb, wb = w.alloc (.cells #[.slice Au u.1.length cu, .int .i64 ((u.2 : Nat) : Int)] 91) := ⟨_, rfl⟩
  have hf0 : Fr [] w wb := by rw [hwb]; exact (Fr.refl [] w).alloc _
  have hb5 : Blk wb w.heap.size 91 [.slice Au u.1.length cu, .int .i64 ((u.2 : Nat) : Int)] := by rw [hwb]; exact Blk.new w _ [.slice Au u.1.length cu, .int .i64 ((u.2 : Nat) : Int)]
  have hO : ∀ q, D q → Off D [] [] q := fun q hq => ⟨hq, fun _ h => by simp at h, fun _ h => by simp at h⟩
  have S1 := Lib.hid (((Sx.start h hD).key (hbu.imp fun q hq => ⟨hq.1, hO q hq.2⟩)).new1 hf0 hb5 (Nat.le_refl _))
  have ht8 : ((t : Nat) : Int) < 8 := by omega
  refine calls_post fun R HQ => ?_
  by_cases hu0 : u.2 = 0
  · have eg : growC c t u = c := by unfold growC; rw [if_pos hu0]
    rw [eg] at HQ
    have HX := Lib.hid (HQ.out _ _ ⟨rfl, S1.out.fin⟩)
    have v1 := S1.out.fin
    have b1 := (S1.out.loc _ (.head _)).1.at_ (i := 1) rfl
    simp only at b1
    rw [hu0] at b1
    have HU0 := Lib.hid hu0
    clear h hp hbu hf0 hb5 hO S1 eg v1 hok hu hu0
    go_enter Tryz.func36, Tryz.ntmps36
    go_upto_region 1 with fail
    rw [← hwb]
    clear hwb
    go_wp2_with fail
    go_end0
    exact HX.out
  · obtain ⟨k1, k2, k3, he, hn0, hh⟩ := hok hu0
    have hu0i : ¬ ((u.2 : Nat) : Int) = 0 := by omega
    have eg : growC c t u = (c.alloc.1.root t c.alloc.2).write c.alloc.2 ⟨false, c.roots t, [⟨u.1, [], u.2⟩]⟩ := by unfold growC; rw [if_neg hu0]
    rw [eg] at HQ
    obtain ⟨nr, hnr⟩ : ∃ nr : Nd, nr = ⟨false, c.roots t, [⟨u.1, [], u.2⟩]⟩ := ⟨_, rfl⟩
    rw [← hnr] at HQ
    have nok : nr.ok ∧ nr.size ≤ 512 := by
      rw [hnr]
      refine ⟨⟨by show 1 < 65536; omega, fun x hx => ?_, h.wf.roots t, fun e => by cases e⟩, ?_⟩
      · obtain rfl := List.mem_singleton.1 hx
        exact ⟨k1, k2, Nat.zero_le _, k3, rfl⟩
      · show 5 + (3 + u.1.length + 0) ≤ 512; omega
    have ha2 : c.alloc.2 < c.n := by
      unfold CD.alloc
      split
      · rename_i h; exact (hh h).1
      · split
        · assumption
        · exact hn0
    have ha1 : c.alloc.1.n = c.n := alloc_n c
    have hn4 := h.wf.n
    have HNOK := Lib.hid nok; have HA2 := Lib.hid ha2; have HA1 := Lib.hid ha1; have HE := Lib.hid he; have HHH := Lib.hid hh; have HP := Lib.hid hp; have HNR := Lib.hid hnr; have HN4 := Lib.hid hn4
    have b0 := (S1.out.loc _ (.head _)).1.at_ (i := 0) rfl
    have b1 := (S1.out.loc _ (.head _)).1.at_ (i := 1) rfl
    have cr := (S1.out.ch.blk).at_ (chC_root c g bn bs ht)
    clear h hp hbu hf0 hb5 hO eg hok hu nok ha2 ha1 he hh hnr k1 k2 k3 hn0 hn4
    go_enter Tryz.func36, Tryz.ntmps36
    go_upto_region 1 with fail
    rw [← hwb]
    clear hwb
    go_upto_region 2 with fail
    have S2 := Lib.hid (S1.out.quiet ((Fr.refl [] wb).drew))
    clear S1
    apply tail3 (H := fun p13 p6 W => Hid (Sx wS w g bc bn bs D ((p6, 88, [.int .i64 2, .int .i64 (c.roots t : Int), .slice (some ⟨p13, 0, none⟩) 1 1]) :: (w.heap.size, 91, [.slice Au u.1.length cu, .int .i64 ((u.2 : Nat) : Int)]) :: []) [] (.nd (.agg #[.int .i64 2, .int .i64 (c.roots t : Int), .slice (some ⟨p13, 0, none⟩) 1 1]) nr :: .by_ (.slice Au u.1.length cu) u.1 :: []) c W))
    case main =>
      intro TAIL
      refine wp_region_K (fun W => W.cell? ⟨bc, 2 + t, none⟩ = some (.int .i64 ((c.roots t : Nat) : Int)) ∧ W.cell? ⟨w.heap.size, 0, none⟩ = some (.slice Au u.1.length cu) ∧ W.cell? ⟨w.heap.size, 1, none⟩ = some (.int .i64 ((u.2 : Nat) : Int))) [0, 1, 2, 3, 4, 5, 6, 7, 8, 9, 10, 11, 12, 14] (by kernel_rfl) ?_
      refine wpAnyK_take (i := 0) (some 10) ?vq1_0 rfl rfl (by kernel_rfl) (fun _ _ _ h => h) ⟨cr, b0, b1⟩ (.inl ⟨rfl, fun W hW => ?yq1_0⟩) ?_
      case yq1_0 => (obtain ⟨q0, q1, q2⟩ := hW; go_simp) <;> with_reducible rfl
      simp only [nrm]
      refine wpAnyK_take (i := 1) (some 11) ?vq1_1 rfl rfl (by kernel_rfl) (fun _ _ _ h => h) ⟨cr, b0, b1⟩ (.inl ⟨rfl, fun W hW => ?yq1_1⟩) ?_
      case yq1_1 => (obtain ⟨q0, q1, q2⟩ := hW; go_simp) <;> with_reducible rfl
      simp only [nrm]
      refine wpAnyK_take (i := 2) (some 12) ?vq1_2 rfl rfl (by kernel_rfl) (fun _ _ _ h => h) ⟨cr, b0, b1⟩ (.inl ⟨rfl, fun W hW => ?yq1_2⟩) ?_
      case yq1_2 => (obtain ⟨q0, q1, q2⟩ := hW; go_simp) <;> with_reducible rfl
      simp only [nrm]
      refine wpAnyK_take (i := 3) (some 13) ?vq1_3 rfl rfl (by kernel_rfl) (fun _ _ _ h => h) ⟨cr, b0, b1⟩ (.inl ⟨rfl, fun W hW => ?yq1_3⟩) ?_
      case yq1_3 => (obtain ⟨q0, q1, q2⟩ := hW; go_simp) <;> with_reducible rfl
      simp only [nrm]
      refine wpAnyK_take (i := 4) (some 14) ?vq1_4 rfl rfl (by kernel_rfl) (fun _ _ _ h => h) ⟨cr, b0, b1⟩ (.inl ⟨rfl, fun W hW => ?yq1_4⟩) ?_
      case yq1_4 => (obtain ⟨q0, q1, q2⟩ := hW; go_simp) <;> with_reducible rfl
      simp only [nrm]
      refine wpAnyK_take (i := 5) (some 15) ?vq1_5 rfl rfl (by kernel_rfl) (fun _ _ _ h => h) ⟨cr, b0, b1⟩ (.inl ⟨rfl, fun W hW => ?yq1_5⟩) ?_
      case yq1_5 => (obtain ⟨q0, q1, q2⟩ := hW; go_simp) <;> with_reducible rfl
      simp only [nrm]
      refine wpAnyK_take (i := 6) (some 16) ?vq1_6 rfl rfl (by kernel_rfl) (fun _ _ _ h => h) ⟨cr, b0, b1⟩ (.inl ⟨rfl, fun W hW => ?yq1_6⟩) ?_
      case yq1_6 => (obtain ⟨q0, q1, q2⟩ := hW; go_simp) <;> with_reducible rfl
      simp only [nrm]
      refine wpAnyK_take (i := 7) (some 17) ?vq1_7 rfl rfl (by kernel_rfl) (fun _ _ _ h => h) ⟨cr, b0, b1⟩ (.inl ⟨rfl, fun W hW => ?yq1_7⟩) ?_
      case yq1_7 => (obtain ⟨q0, q1, q2⟩ := hW; go_simp) <;> with_reducible rfl
      simp only [nrm]
      refine wpAnyK_take (i := 8) (some 18) ?vq1_8 rfl rfl (by kernel_rfl) (fun _ _ _ h => h) ⟨cr, b0, b1⟩ (.inl ⟨rfl, fun W hW => ?yq1_8⟩) ?_
      case yq1_8 => (obtain ⟨q0, q1, q2⟩ := hW; go_simp) <;> with_reducible rfl
      simp only [nrm]
      refine wpAnyK_take (i := 9) (some 19) ?vq1_9 rfl rfl (by kernel_rfl) (fun _ _ _ h => h) ⟨cr, b0, b1⟩ (.inl ⟨rfl, fun W hW => ?yq1_9⟩) ?_
      case yq1_9 => (obtain ⟨q0, q1, q2⟩ := hW; go_simp) <;> with_reducible rfl
      simp only [nrm]
      refine wpAnyK_take (i := 10) (some 20) ?vq1_10 rfl rfl (by kernel_rfl) (fun _ _ _ h => h) ⟨cr, b0, b1⟩ (.inl ⟨rfl, fun W hW => ?yq1_10⟩) ?_
      case yq1_10 => (obtain ⟨q0, q1, q2⟩ := hW; go_simp) <;> with_reducible rfl
      simp only [nrm]
      refine wpAnyK_take (i := 11) (some 21) ?vq1_11 rfl rfl (by kernel_rfl) (fun _ _ _ h => h) ⟨cr, b0, b1⟩ (.inl ⟨rfl, fun W hW => ?yq1_11⟩) ?_
      case yq1_11 => (obtain ⟨q0, q1, q2⟩ := hW; go_simp) <;> with_reducible rfl
      simp only [nrm]
      refine wpAnyK_take (i := 12) (some 22) ?vq1_12 rfl rfl (by kernel_rfl) (fun _ _ _ h => h) ⟨cr, b0, b1⟩ (.inl ⟨rfl, fun W hW => ?yq1_12⟩) ?_
      case yq1_12 => (obtain ⟨q0, q1, q2⟩ := hW; go_simp) <;> with_reducible rfl
      simp only [nrm]
      refine wpAnyK_two (i := 13) (j := 15) (some 23) (some 6) rfl rfl rfl rfl (by kernel_rfl) rfl rfl (fun K hK => ?_) (fun K hK => ?_)
      ·
        obtain ⟨wx, hwx⟩ : ∃ wx, wx = wb.drew.alloc (.cells ([.slice Au u.1.length cu, .slice none 0 0, .int .i64 ((u.2 : Nat) : Int)] : List Value).toArray 77) := ⟨_, rfl⟩
        have hfx : Fr [] wb.drew wx := by rw [hwx]; exact (Fr.refl [] wb.drew).alloc _
        have hbx : Blk wx wb.drew.heap.size 77 [.slice Au u.1.length cu, .slice none 0 0, .int .i64 ((u.2 : Nat) : Int)] := by rw [hwx]; exact Blk.new wb.drew _ [.slice Au u.1.length cu, .slice none 0 0, .int .i64 ((u.2 : Nat) : Int)]
        replace b0 := fr_keep hfx b0
        replace b1 := fr_keep hfx b1
        replace cr := fr_keep hfx cr
        obtain ⟨ti, hti, hz', hsz', hby⟩ := info_get info_it
        refine wp_build_one (.tmp 22) rfl Tryz.underlying86 hti hz' [.slice Au u.1.length cu, .slice none 0 0, .int .i64 ((u.2 : Nat) : Int)] rfl hsz' rfl (by simp) (by simp) (hK _ _ (fun _ => by rw [hwx] at cr b0 b1; exact ⟨cr, b0, b1⟩) ?_)
        simp only [nrm]
        rw [← hwx]
        clear hK hti hz' hsz' hby
        obtain ⟨p13, hp13⟩ : ∃ p13, p13 = wb.drew.heap.size := ⟨_, rfl⟩
        rw [← hp13] at hbx ⊢
        have HND0 := S2.out.row1 (n := nr) (x := ⟨u.1, [], u.2⟩) ⟨S2.out.kb (.head _), S2.out.nil_key, rfl⟩ hfx hbx (Nat.le_of_eq hp13.symm) (by rw [HNR.out])
        rw [show kindOf nr = 2 by rw [HNR.out]; rfl, show nr.first = c.roots t by rw [HNR.out]] at HND0
        have S3 := Lib.hid ((S2.out.quiet hfx).nd HND0)
        clear HND0 hfx hbx hwx hp13
        refine wpAnyK_take (i := 14) (some 24) (.agg #[.int .i64 2, .int .i64 (c.roots t : Int), .slice (some ⟨p13, 0, none⟩) 1 1]) rfl rfl (by kernel_rfl) (fun _ _ _ h => h) ⟨cr, b0, b1⟩ (.inl ⟨rfl, fun W hW => by go_simp⟩) ?_
        simp only [nrm]
        refine wpAnyK_step (j := 15) (some 6) rfl rfl (by kernel_rfl) rfl fun K hK => ?_
        refine wp_alloc_blk 88 rfl (.agg #[.int .i64 0, .int .i64 0, .slice none 0 0]) znd zero_nd rfl fun w15 hb15 hf15 hz15 => ?_
        replace b0 := fr_keep hf15 b0
        replace b1 := fr_keep hf15 b1
        replace cr := fr_keep hf15 cr
        refine hK _ _ (fun _ => ⟨cr, b0, b1⟩) ?_
        simp only [nrm]
        clear hK
        obtain ⟨p6, hp6⟩ : ∃ p6, p6 = wx.heap.size := ⟨_, rfl⟩
        rw [← hp6] at hb15 ⊢
        have S4 := Lib.hid (S3.out.new1 hf15 hb15 (Nat.le_of_eq hp6.symm))
        clear hb15 hf15 hz15 hp6
        have hb15 := (S4.out.loc _ (.head _)).1
        refine wpAnyK_step (j := 16) none rfl rfl (by kernel_rfl) rfl fun K hK => ?_
        refine wp_store_blk 88 (.tmp 6) (.tmp 24) rfl [.int .i64 2, .int .i64 (c.roots t : Int), .slice (some ⟨p13, 0, none⟩) 1 1] rfl rfl hb15 size_nd rfl three_cells fun w16 hb16 hf16 hz16 => hK _ _ (fun h => absurd h (by decide +kernel)) ?_
        simp only [Act.put]
        clear hK
        refine wpAnyK_done (by kernel_rfl) ?_ _
        exact TAIL p13 p6 w16 (Lib.hid (S4.out.set_ hf16 hb16))
      ·
        refine wp_alloc_blk 88 rfl (.agg #[.int .i64 0, .int .i64 0, .slice none 0 0]) znd zero_nd rfl fun w15 hb15 hf15 hz15 => ?_
        replace b0 := fr_keep hf15 b0
        replace b1 := fr_keep hf15 b1
        replace cr := fr_keep hf15 cr
        refine hK _ _ (fun _ => ⟨cr, b0, b1⟩) ?_
        simp only [nrm]
        clear hK
        obtain ⟨p6, hp6⟩ : ∃ p6, p6 = wb.drew.heap.size := ⟨_, rfl⟩
        rw [← hp6] at hb15 ⊢
        have S3 := Lib.hid (S2.out.new1 hf15 hb15 (Nat.le_of_eq hp6.symm))
        clear hb15 hf15 hz15 hp6
        refine wpAnyK_step (j := 13) (some 23) rfl rfl (by kernel_rfl) rfl fun K hK => ?_
        obtain ⟨wx, hwx⟩ : ∃ wx, wx = w15.alloc (.cells ([.slice Au u.1.length cu, .slice none 0 0, .int .i64 ((u.2 : Nat) : Int)] : List Value).toArray 77) := ⟨_, rfl⟩
        have hfx : Fr [] w15 wx := by rw [hwx]; exact (Fr.refl [] w15).alloc _
        have hbx : Blk wx w15.heap.size 77 [.slice Au u.1.length cu, .slice none 0 0, .int .i64 ((u.2 : Nat) : Int)] := by rw [hwx]; exact Blk.new w15 _ [.slice Au u.1.length cu, .slice none 0 0, .int .i64 ((u.2 : Nat) : Int)]
        replace b0 := fr_keep hfx b0
        replace b1 := fr_keep hfx b1
        replace cr := fr_keep hfx cr
        obtain ⟨ti, hti, hz', hsz', hby⟩ := info_get info_it
        refine wp_build_one (.tmp 22) rfl Tryz.underlying86 hti hz' [.slice Au u.1.length cu, .slice none 0 0, .int .i64 ((u.2 : Nat) : Int)] rfl hsz' rfl (by simp) (by simp) (hK _ _ (fun _ => by rw [hwx] at cr b0 b1; exact ⟨cr, b0, b1⟩) ?_)
        simp only [nrm]
        rw [← hwx]
        clear hK hti hz' hsz' hby
        obtain ⟨p13, hp13⟩ : ∃ p13, p13 = w15.heap.size := ⟨_, rfl⟩
        rw [← hp13] at hbx ⊢
        have HND0 := S3.out.row1 (n := nr) (x := ⟨u.1, [], u.2⟩) ⟨S3.out.kb (.head _), S3.out.nil_key, rfl⟩ hfx hbx (Nat.le_of_eq hp13.symm) (by rw [HNR.out])
        rw [show kindOf nr = 2 by rw [HNR.out]; rfl, show nr.first = c.roots t by rw [HNR.out]] at HND0
        have S4 := Lib.hid ((S3.out.quiet hfx).nd HND0)
        clear HND0 hfx hbx hwx hp13
        refine wpAnyK_take (i := 14) (some 24) (.agg #[.int .i64 2, .int .i64 (c.roots t : Int), .slice (some ⟨p13, 0, none⟩) 1 1]) rfl rfl (by kernel_rfl) (fun _ _ _ h => h) ⟨cr, b0, b1⟩ (.inl ⟨rfl, fun W hW => by go_simp⟩) ?_
        simp only [nrm]
        have hb15 := (S4.out.loc _ (.head _)).1
        refine wpAnyK_step (j := 16) none rfl rfl (by kernel_rfl) rfl fun K hK => ?_
        refine wp_store_blk 88 (.tmp 6) (.tmp 24) rfl [.int .i64 2, .int .i64 (c.roots t : Int), .slice (some ⟨p13, 0, none⟩) 1 1] rfl rfl hb15 size_nd rfl three_cells fun w16 hb16 hf16 hz16 => hK _ _ (fun h => absurd h (by decide +kernel)) ?_
        simp only [Act.put]
        clear hK
        refine wpAnyK_done (by kernel_rfl) ?_ _
        exact TAIL p13 p6 w16 (Lib.hid (S4.out.set_ hf16 hb16))
    intro p13 p6 w2 S3
    clear b0 b1 cr S2
    have S4 := Lib.hid (S3.out.quiet ((Fr.refl [] w2).drew))
    clear S3
    have hlow := S4.out.low
    have hp6l := (S4.out.loc _ (.head _)).2
    have HAL := Lib.hid (alloc_ch HP.out S4.out.ch HE.out HHH.out)
    go_upto_region 3 with fail
    apply tail1 (H := fun W => Hid (Sx wS w g bc bn bs D ((p6, 88, [.int .i64 2, .int .i64 (c.roots t : Int), .slice (some ⟨p13, 0, none⟩) 1 1]) :: []) [] (.nd (.agg #[.int .i64 2, .int .i64 (c.roots t : Int), .slice (some ⟨p13, 0, none⟩) 1 1]) nr :: []) (c.alloc.1.root t c.alloc.2) W))
    case main =>
      intro TAIL
      refine wp_region_K (fun _ => True) [0, 1, 2, 4, 5, 6, 7] (by kernel_rfl) ?_
      refine wpAnyK_take (i := 0) (some 25) ?vq2_0 rfl rfl (by kernel_rfl) (fun _ _ _ h => h) trivial (.inl ⟨rfl, fun W hW => ?yq2_0⟩) ?_
      case yq2_0 => go_simp <;> with_reducible rfl
      simp only [nrm]
      refine wpAnyK_take (i := 1) (some 26) ?vq2_1 rfl rfl (by kernel_rfl) (fun _ _ _ h => h) trivial (.inl ⟨rfl, fun W hW => ?yq2_1⟩) ?_
      case yq2_1 => go_simp <;> with_reducible rfl
      simp only [nrm]
      refine wpAnyK_take (i := 2) (some 27) ?vq2_2 rfl rfl (by kernel_rfl) (fun _ _ _ h => h) trivial (.inl ⟨rfl, fun W hW => ?yq2_2⟩) ?_
      case yq2_2 => go_simp <;> with_reducible rfl
      simp only [nrm]
      refine wpAnyK_take (i := 4) (some 29) ?vq2_4 rfl rfl (by kernel_rfl) (fun _ _ _ h => h) trivial (.inl ⟨rfl, fun W hW => ?yq2_4⟩) ?_
      case yq2_4 => go_simp <;> with_reducible rfl
      simp only [nrm]
      refine wpAnyK_take (i := 5) (some 30) ?vq2_5 rfl rfl (by kernel_rfl) (fun _ _ _ h => h) trivial (.inl ⟨rfl, fun W hW => ?yq2_5⟩) ?_
      case yq2_5 => go_simp <;> with_reducible rfl
      simp only [nrm]
      refine wpAnyK_take (i := 6) (some 31) ?vq2_6 rfl rfl (by kernel_rfl) (fun _ _ _ h => h) trivial (.inl ⟨rfl, fun W hW => ?yq2_6⟩) ?_
      case yq2_6 => go_simp <;> with_reducible rfl
      simp only [nrm]
      refine wpAnyK_step (j := 3) (some 28) rfl rfl (by kernel_rfl) rfl fun K hK => ?_
      refine wp_call_f (l := [.tmp 27]) rfl [.pointer (some ⟨bc, 0, none⟩)] rfl (enter_alloc _) (HAL.out.mono ?_)
      rintro e w3 ⟨rfl, hc3, hf3⟩
      refine ⟨_, rfl, hK _ _ (fun _ => trivial) ?_⟩
      simp only [nrm]
      have S5 := Lib.hid (S4.out.call hf3 (by simp) hc3)
      clear hK hc3 hf3
      have hroot := S5.out.ch.root ht (v := c.alloc.2) (by have := HA2.out; have := HN4.out; omega)
      have hfz := S5.out.ch.blk.free (2 + t)
      have hcl := S5.out.ch.blk.at_ (chC_root _ g bn bs ht)
      refine wpAnyK_take (i := 7) (some 32) ?vq2_7 rfl rfl (by kernel_rfl) (fun _ _ _ h => h) trivial (.inl ⟨rfl, fun W hW => ?yq2_7⟩) ?_
      case yq2_7 => go_simp <;> with_reducible rfl
      simp only [nrm]
      refine wpAnyK_step (j := 8) none rfl rfl (by kernel_rfl) rfl fun K hK => ?_
      refine wp_run_skip (w' := w3.setCell ⟨bc, 2 + t, none⟩ (.int .i64 ((c.alloc.2 : Nat) : Int))) (by go_simp) (hK _ _ (fun _ => trivial) ?_)
      simp only [Act.put]
      clear hK
      refine wpAnyK_done (by kernel_rfl) ?_ _
      exact TAIL _ (Lib.hid ((S5.out.call hroot.2 (by simp) hroot.1).less (L' := _) (.cons_cons _ (List.nil_sublist _)) (List.Sublist.refl _) fun k hk => by simp only [List.mem_cons] at hk ⊢; rcases hk with h | h <;> simp [h]))
    intro w4 S5
    clear S4 HAL
    have S6 := Lib.hid (S5.out.quiet ((Fr.refl [] w4).drew))
    clear S5
    have d0 := (S6.out.loc _ (.head _)).1.at_ (i := 0) rfl
    have d1 := (S6.out.loc _ (.head _)).1.at_ (i := 1) rfl
    have d2 := (S6.out.loc _ (.head _)).1.at_ (i := 2) rfl
    have cr := S6.out.ch.blk.at_ (chC_root _ g bn bs ht)
    rw [show (c.alloc.1.root t c.alloc.2).roots t = c.alloc.2 by show (if t = t then _ else _) = _; rw [if_pos rfl]] at cr
    have HWR := Lib.hid (write_ch S6.out.ch (S6.out.kn (n := nr) (.head _)) (k := c.alloc.2) (by have := HA2.out; have := HA1.out; show _ < c.alloc.1.n; omega) HNOK.out.1 HNOK.out.2)
    go_upto_region 4 with fail
    apply tail1 (H := fun W => Hid (Sx wS w g bc bn bs D [] [] [] ((c.alloc.1.root t c.alloc.2).write c.alloc.2 nr) W))
    case main =>
      intro TAIL
      refine wp_region_K (fun W => W.cell? ⟨bc, 2 + t, none⟩ = some (.int .i64 ((c.alloc.2 : Nat) : Int)) ∧ W.cell? ⟨p6, 0, none⟩ = some (.int .i64 2) ∧ W.cell? ⟨p6, 1, none⟩ = some (.int .i64 (c.roots t : Int)) ∧ W.cell? ⟨p6, 2, none⟩ = some (.slice (some ⟨p13, 0, none⟩) 1 1)) [0, 1, 2, 3, 4, 5, 6, 7, 8] (by kernel_rfl) ?_
      refine wpAnyK_take (i := 0) (some 33) ?vq3_0 rfl rfl (by kernel_rfl) (fun _ _ _ h => h) ⟨cr, d0, d1, d2⟩ (.inl ⟨rfl, fun W hW => ?yq3_0⟩) ?_
      case yq3_0 => (obtain ⟨q0, q1, q2, q3⟩ := hW; go_simp) <;> with_reducible rfl
      simp only [nrm]
      refine wpAnyK_take (i := 1) (some 34) ?vq3_1 rfl rfl (by kernel_rfl) (fun _ _ _ h => h) ⟨cr, d0, d1, d2⟩ (.inl ⟨rfl, fun W hW => ?yq3_1⟩) ?_
      case yq3_1 => (obtain ⟨q0, q1, q2, q3⟩ := hW; go_simp) <;> with_reducible rfl
      simp only [nrm]
      refine wpAnyK_take (i := 2) (some 35) ?vq3_2 rfl rfl (by kernel_rfl) (fun _ _ _ h => h) ⟨cr, d0, d1, d2⟩ (.inl ⟨rfl, fun W hW => ?yq3_2⟩) ?_
      case yq3_2 => (obtain ⟨q0, q1, q2, q3⟩ := hW; go_simp) <;> with_reducible rfl
      simp only [nrm]
      refine wpAnyK_take (i := 3) (some 36) ?vq3_3 rfl rfl (by kernel_rfl) (fun _ _ _ h => h) ⟨cr, d0, d1, d2⟩ (.inl ⟨rfl, fun W hW => ?yq3_3⟩) ?_
      case yq3_3 => (obtain ⟨q0, q1, q2, q3⟩ := hW; go_simp) <;> with_reducible rfl
      simp only [nrm]
      refine wpAnyK_take (i := 4) (some 37) ?vq3_4 rfl rfl (by kernel_rfl) (fun _ _ _ h => h) ⟨cr, d0, d1, d2⟩ (.inl ⟨rfl, fun W hW => ?yq3_4⟩) ?_
      case yq3_4 => (obtain ⟨q0, q1, q2, q3⟩ := hW; go_simp) <;> with_reducible rfl
      simp only [nrm]
      refine wpAnyK_take (i := 5) (some 38) ?vq3_5 rfl rfl (by kernel_rfl) (fun _ _ _ h => h) ⟨cr, d0, d1, d2⟩ (.inl ⟨rfl, fun W hW => ?yq3_5⟩) ?_
      case yq3_5 => (obtain ⟨q0, q1, q2, q3⟩ := hW; go_simp) <;> with_reducible rfl
      simp only [nrm]
      refine wpAnyK_take (i := 6) (some 39) ?vq3_6 rfl rfl (by kernel_rfl) (fun _ _ _ h => h) ⟨cr, d0, d1, d2⟩ (.inl ⟨rfl, fun W hW => ?yq3_6⟩) ?_
      case yq3_6 => (obtain ⟨q0, q1, q2, q3⟩ := hW; go_simp) <;> with_reducible rfl
      simp only [nrm]
      refine wpAnyK_take (i := 7) (some 40) ?vq3_7 rfl rfl (by kernel_rfl) (fun _ _ _ h => h) ⟨cr, d0, d1, d2⟩ (.inl ⟨rfl, fun W hW => ?yq3_7⟩) ?_
      case yq3_7 => (obtain ⟨q0, q1, q2, q3⟩ := hW; go_simp) <;> with_reducible rfl
      simp only [nrm]
      refine wpAnyK_take (i := 8) (some 41) ?vq3_8 rfl rfl (by kernel_rfl) (fun _ _ _ h => h) ⟨cr, d0, d1, d2⟩ (.inl ⟨rfl, fun W hW => ?yq3_8⟩) ?_
      case yq3_8 => (obtain ⟨q0, q1, q2, q3⟩ := hW; go_simp) <;> with_reducible rfl
      simp only [nrm]
      refine wpAnyK_step (j := 9) (some 42) rfl rfl (by kernel_rfl) rfl fun K hK => ?_
      refine wp_call_f (l := [.tmp 33, .tmp 40, .tmp 41]) rfl [.pointer (some ⟨bc, 0, none⟩), .int .i64 ((c.alloc.2 : Nat) : Int), .agg #[.int .i64 2, .int .i64 (c.roots t : Int), .slice (some ⟨p13, 0, none⟩) 1 1]] rfl (enter_write _) (HWR.out.mono ?_)
      rintro e w5 ⟨rfl, hc5, hf5⟩
      have S6b := Lib.hid (S6.out.call hf5 (by simp) hc5)
      have cr' := S6b.out.ch.blk.at_ (chC_root _ g bn bs ht)
      rw [show ((c.alloc.1.root t c.alloc.2).write c.alloc.2 nr).roots t = c.alloc.2 by show (if t = t then _ else _) = _; rw [if_pos rfl]] at cr'
      have S7 := Lib.hid ((S6.out.call hf5 (by simp) hc5).less (L' := []) (N' := []) (K' := []) (List.nil_sublist _) (List.Sublist.refl _) (by simp))
      refine ⟨_, rfl, hK _ _ (fun _ => ⟨cr', (S6b.out.loc _ (.head _)).1.at_ (i := 0) rfl, (S6b.out.loc _ (.head _)).1.at_ (i := 1) rfl, (S6b.out.loc _ (.head _)).1.at_ (i := 2) rfl⟩) ?_⟩
      simp only [nrm]
      clear hK hc5 hf5 S6b cr'
      refine wpAnyK_done (by kernel_rfl) ?_ _
      exact TAIL _ S7
    intro w5 S7
    have HX := Lib.hid (HQ.out _ _ ⟨rfl, S7.out.fin⟩)
    clear S6 d0 d1 d2 cr HWR S7
    go_wp2_with fail
    go_end0
    exact HX.out
theorem fail0 (c : CD) : c.fail 0 = c := by
  unfold CD.fail
  split
  · rename_i h; cases c; simp only at h; rw [h]
  · rfl
set_option maxRecDepth 100000 in
set_option maxHeartbeats 8000000 in
/-- A root let go that has no entry. -/
theorem lower_ch {t : Nat} {n : Nd} (hp : PgC w0 wS dk g s X c) (h : ChAt wS w g bc bn bs D c) (hD : ∀ q, w.heap.size ≤ q → D q) (ht : t < 8) (hN : c.N (c.roots t) = some n) (hc : lowerC c t = some c') :
    Calls Tryz.prog 42 #[.pointer (some ⟨bc, 0, none⟩), .int .i64 (t : Int)] w fun e w' => e = .returned (.tuple #[]) ∧ ChAt wS w' g bc bn bs D c' ∧ Fr [bc, bn, bs] w w' := by
  have S1 := Lib.hid (Sx.start h hD)
  obtain ⟨hkn, hok, hsz⟩ := h.wf.N_ok hN
  have hfew := items_few hsz
  have hfirst := hok.first
  have HNC := Lib.hid (node_ch hp S1.out.ch hN S1.out.offD)
  have hc' : (if c.e ≠ 0 ∨ n.l ≠ [] then some c else some ((c.free (c.roots t)).root t n.first)) = some c' := by
    unfold lowerC at hc
    rw [hN] at hc
    exact hc
  have ht8 : ((t : Nat) : Int) < 8 := by omega
  have cr := S1.out.ch.blk.at_ (chC_root c g bn bs ht)
  have HKN := Lib.hid hkn; have HFEW := Lib.hid hfew; have HFI := Lib.hid hfirst; have HC := Lib.hid hc'
  clear h hp hD hN hc hc' hok hsz hkn hfew hfirst
  refine calls_post fun R HQ => ?_
  go_enter Tryz.func42, Tryz.ntmps42
  go_wp2_with fail
  refine HNC.out.mono ?_
  rintro e w1 ⟨nv, rfl, hnv, hf1⟩
  obtain ⟨A, ca, rfl, S2'⟩ := S1.out.node_r hf1 hnv
  have S2 := Lib.hid S2'
  clear hnv hf1 S2' S1 HNC cr
  go_wp2_with (first
    | (with_reducible refine wpList_alloc_z rfl 88 rfl (.agg #[.int .i64 0, .int .i64 0, .slice none 0 0]) znd.toArray zero_nd rfl ?_)
    | (refine wpList_store_z (W := w1) rfl 88 (.tmp 4) (.tmp 16) rfl [.int .i64 (kindOf n), .int .i64 (n.first : Int), .slice A n.l.length ca] rfl rfl rfl size_nd rfl three_cells ?_))
  intro w2 hb2 hf2 hz2
  obtain ⟨p4, hp4⟩ : ∃ p4, p4 = w1.heap.size := ⟨_, rfl⟩
  rw [← hp4] at hb2 ⊢
  have S3 := Lib.hid (S2.out.new1 hf2 hb2 (by omega))
  clear hf2 hb2 hz2 hp4 S2
  go_wp2_with fail
  refine (fail_ch S3.out.ch 0).mono ?_
  rintro e w3 ⟨rfl, hc3, hf3, hz3⟩
  rw [fail0] at hc3 ⊢
  have S4 := Lib.hid (S3.out.call hf3 (by simp) hc3)
  clear hc3 hf3 hz3 S3
  have d2 := (S4.out.loc _ (.head _)).1.at_ (i := 2) rfl
  by_cases he : c.e = 0
  · have hd : decide (c.e ≠ 0) = false := by rw [he]; rfl
    rw [hd]
    have HE := Lib.hid he
    clear hd he
    by_cases hl : n.l.length = 0
    · have hgt : ¬ (0 : Int) < ((n.l.length : Nat) : Int) := by omega
      have hnil : n.l = [] := List.length_eq_zero_iff.1 hl
      have hcc : c' = (c.free (c.roots t)).root t n.first := by
        have := HC.out
        rw [if_neg (by rw [HE.out, hnil]; simp)] at this
        exact (Option.some.inj this).symm
      subst hcc
      have HL := Lib.hid hl; have HNIL := Lib.hid hnil
      clear hl hnil HC
      have cr := S4.out.ch.blk.at_ (chC_root c g bn bs ht)
      have HFREE := Lib.hid (free_ch S4.out.ch (k := c.roots t) HKN.out)
      go_wp2_with fail
      refine HFREE.out.mono ?_
      rintro e w4 ⟨rfl, hc4, hf4⟩
      have S5 := Lib.hid ((S4.out.call hf4 (by simp) hc4).quiet ((Fr.refl [] w4).drew))
      clear hc4 hf4 HFREE S4 cr d2
      have d1 := (S5.out.loc _ (.head _)).1.at_ (i := 1) rfl
      have hroot := S5.out.ch.root ht (v := n.first) HFI.out
      have hfz := S5.out.ch.blk.free (2 + t)
      have hcl := S5.out.ch.blk.at_ (chC_root _ g bn bs ht)
      go_upto_region 3 with fail
      apply tail1 (H := fun W => Hid (Sx wS w g bc bn bs D [] [] [] ((c.free (c.roots t)).root t n.first) W))
      case main =>
        intro TAIL
        refine wp_region_K (fun W => W.cell? ⟨p4, 1, none⟩ = some (.int .i64 (n.first : Int)) ∧ True) [0, 1, 2, 3, 4, 5, 6, 7] (by kernel_rfl) ?_
        refine wpAnyK_take (i := 0) (some 36) ?vq4_0 rfl rfl (by kernel_rfl) (fun _ _ _ h => h) ⟨d1, trivial⟩ (.inl ⟨rfl, fun W hW => ?yq4_0⟩) ?_
        case yq4_0 => (obtain ⟨q0, _⟩ := hW; go_simp) <;> with_reducible rfl
        simp only [nrm]
        refine wpAnyK_take (i := 1) (some 37) ?vq4_1 rfl rfl (by kernel_rfl) (fun _ _ _ h => h) ⟨d1, trivial⟩ (.inl ⟨rfl, fun W hW => ?yq4_1⟩) ?_
        case yq4_1 => (obtain ⟨q0, _⟩ := hW; go_simp) <;> with_reducible rfl
        simp only [nrm]
        refine wpAnyK_take (i := 2) (some 38) ?vq4_2 rfl rfl (by kernel_rfl) (fun _ _ _ h => h) ⟨d1, trivial⟩ (.inl ⟨rfl, fun W hW => ?yq4_2⟩) ?_
        case yq4_2 => (obtain ⟨q0, _⟩ := hW; go_simp) <;> with_reducible rfl
        simp only [nrm]
        refine wpAnyK_take (i := 3) (some 39) ?vq4_3 rfl rfl (by kernel_rfl) (fun _ _ _ h => h) ⟨d1, trivial⟩ (.inl ⟨rfl, fun W hW => ?yq4_3⟩) ?_
        case yq4_3 => (obtain ⟨q0, _⟩ := hW; go_simp) <;> with_reducible rfl
        simp only [nrm]
        refine wpAnyK_take (i := 4) (some 40) ?vq4_4 rfl rfl (by kernel_rfl) (fun _ _ _ h => h) ⟨d1, trivial⟩ (.inl ⟨rfl, fun W hW => ?yq4_4⟩) ?_
        case yq4_4 => (obtain ⟨q0, _⟩ := hW; go_simp) <;> with_reducible rfl
        simp only [nrm]
        refine wpAnyK_take (i := 5) (some 41) ?vq4_5 rfl rfl (by kernel_rfl) (fun _ _ _ h => h) ⟨d1, trivial⟩ (.inl ⟨rfl, fun W hW => ?yq4_5⟩) ?_
        case yq4_5 => (obtain ⟨q0, _⟩ := hW; go_simp) <;> with_reducible rfl
        simp only [nrm]
        refine wpAnyK_take (i := 6) (some 42) ?vq4_6 rfl rfl (by kernel_rfl) (fun _ _ _ h => h) ⟨d1, trivial⟩ (.inl ⟨rfl, fun W hW => ?yq4_6⟩) ?_
        case yq4_6 => (obtain ⟨q0, _⟩ := hW; go_simp) <;> with_reducible rfl
        simp only [nrm]
        refine wpAnyK_take (i := 7) (some 43) ?vq4_7 rfl rfl (by kernel_rfl) (fun _ _ _ h => h) ⟨d1, trivial⟩ (.inl ⟨rfl, fun W hW => ?yq4_7⟩) ?_
        case yq4_7 => (obtain ⟨q0, _⟩ := hW; go_simp) <;> with_reducible rfl
        simp only [nrm]
        refine wpAnyK_step (j := 8) none rfl rfl (by kernel_rfl) rfl fun K hK => ?_
        have hp4l := (S5.out.loc _ (.head _)).2
        have hlow := S5.out.low
        have d1' := fr_keepS hroot.2 (by simp only at hp4l; simp; omega) d1
        refine wp_run_skip (w' := w4.drew.setCell ⟨bc, 2 + t, none⟩ (.int .i64 (n.first : Int))) (by go_simp) (hK _ _ (fun _ => ⟨d1', trivial⟩) ?_)
        simp only [Act.put]
        clear hK
        refine wpAnyK_done (by kernel_rfl) ?_ _
        exact TAIL _ (Lib.hid ((S5.out.call hroot.2 (by simp) hroot.1).less (L' := []) (N' := []) (K' := []) (List.nil_sublist _) (List.Sublist.refl _) (by simp)))
      intro w5 S6
      have HX := Lib.hid (HQ.out _ _ ⟨rfl, S6.out.fin⟩)
      clear S5 S6 d1 hroot hfz hcl
      go_wp2_with fail
      go_end0
      exact HX.out
    · have hgt : (0 : Int) < ((n.l.length : Nat) : Int) := by omega
      have hcc : c' = c := by
        have := HC.out
        rw [if_pos (.inr fun e => hl (by rw [e]; rfl))] at this
        exact (Option.some.inj this).symm
      subst hcc
      have HX := Lib.hid (HQ.out _ _ ⟨rfl, S4.out.fin⟩)
      have HL := Lib.hid hl
      clear hl
      go_wp2_with fail
      go_end0
      exact HX.out
  · have hd : decide (c.e ≠ 0) = true := by simpa using he
    rw [hd]
    have hcc : c' = c := by
      have := HC.out
      rw [if_pos (.inl he)] at this
      exact (Option.some.inj this).symm
    subst hcc
    have HX := Lib.hid (HQ.out _ _ ⟨rfl, S4.out.fin⟩)
    have HE := Lib.hid he
    clear hd he
    go_wp2_with fail
    go_end0
    exact HX.out
end
end Go.Proofs.YtpjbdpepofnleaaGreat
end
section
namespace Go.Proofs.YtpjbdpepofnleaaGreat
open Go.RowKit Go.ChangeMaps Go.MapKept Go.Maps Go.Sort Go.Shelf
def spaceK (c : CD) : Nat → List UInt8
  | 0 => [79, 82] ++ b16 c.next ++ b16 c.head
  | k + 1 => spaceK c k ++ b16 (c.roots k)
theorem spaceK_len (c : CD) : ∀ k, (spaceK c k).length = 6 + 2 * k
  | 0 => rfl
  | k + 1 => by
    show (spaceK c k ++ b16 (c.roots k)).length = _
    rw [List.length_append, spaceK_len c k]
    show 6 + 2 * k + 2 = _
    omega
theorem spaceK_8 (c : CD) : spaceK c 8 = spaceB c := rfl
def spC (c : CD) : List Value := [.int .i64 (c.next : Int), .int .i64 (c.head : Int), .int .i64 (c.roots 0 : Int), .int .i64 (c.roots 1 : Int), .int .i64 (c.roots 2 : Int), .int .i64 (c.roots 3 : Int), .int .i64 (c.roots 4 : Int), .int .i64 (c.roots 5 : Int), .int .i64 (c.roots 6 : Int), .int .i64 (c.roots 7 : Int)]
def SpRel (c : CD) (wb : World) (v3 v15 : Value) (wr : World) : Prop := ∃ k : Nat, k ≤ 8 ∧ v15 = .int .i64 (k : Int) ∧ Buf wr wb.heap.size v3 (spaceK c k) ∧ Fr [] wb wr
set_option maxRecDepth 100000 in
set_option maxHeartbeats 4000000 in
/-- Page 0 as bytes. -/
theorem written_sp (c : CD) {w : World} (hn : c.next < 65536) (hh : c.head < 65536) (hr : ∀ t, c.roots t < 65536) :
    Calls Tryz.prog 70 #[.agg (spC c).toArray] w fun e w' => ∃ v', e = .returned v' ∧ (∃ g, BytesAt w' v' (spaceB c) g ∧ w.heap.size ≤ g) ∧ Fr [] w w' := by
  obtain ⟨wb, hwb⟩ : ∃ wb, wb = w.alloc (.cells (spC c).toArray 80) := ⟨_, rfl⟩
  have hf0 : Fr [] w wb := by rw [hwb]; exact (Fr.refl [] w).alloc _
  have hb : Blk wb w.heap.size 80 (spC c) := by rw [hwb]; exact Blk.new w _ (spC c)
  have HB := Lib.hid hb
  have HF0 := Lib.hid hf0
  have c0 := hb.at_ (i := 0) rfl
  have c1 := hb.at_ (i := 1) rfl
  clear hb hf0
  unfold spC at hwb ⊢
  refine calls_post fun R HQ => ?_
  go_enter Tryz.func70, Tryz.ntmps70
  go_upto_region 1 with fail
  rw [← hwb]
  clear hwb
  refine wp_region_K (fun W => W.cell? ⟨w.heap.size, 0, none⟩ = some (.int .i64 (c.next : Int)) ∧ W.cell? ⟨w.heap.size, 1, none⟩ = some (.int .i64 (c.head : Int))) [1, 2, 4, 5] (by kernel_rfl) ?_
  refine wpAnyK_take (i := 1) (some 7) ?vq1_1 rfl rfl (by kernel_rfl) (fun _ _ _ h => h) ⟨c0, c1⟩ (.inl ⟨rfl, fun W hW => ?yq1_1⟩) ?_
  case yq1_1 => (obtain ⟨q0, q1⟩ := hW; go_simp) <;> with_reducible rfl
  simp only [nrm]
  refine wpAnyK_take (i := 2) (some 8) ?vq1_2 rfl rfl (by kernel_rfl) (fun _ _ _ h => h) ⟨c0, c1⟩ (.inl ⟨rfl, fun W hW => ?yq1_2⟩) ?_
  case yq1_2 => (obtain ⟨q0, q1⟩ := hW; go_simp) <;> with_reducible rfl
  simp only [nrm]
  refine wpAnyK_take (i := 4) (some 10) ?vq1_4 rfl rfl (by kernel_rfl) (fun _ _ _ h => h) ⟨c0, c1⟩ (.inl ⟨rfl, fun W hW => ?yq1_4⟩) ?_
  case yq1_4 => (obtain ⟨q0, q1⟩ := hW; go_simp) <;> with_reducible rfl
  simp only [nrm]
  refine wpAnyK_take (i := 5) (some 11) ?vq1_5 rfl rfl (by kernel_rfl) (fun _ _ _ h => h) ⟨c0, c1⟩ (.inl ⟨rfl, fun W hW => ?yq1_5⟩) ?_
  case yq1_5 => (obtain ⟨q0, q1⟩ := hW; go_simp) <;> with_reducible rfl
  simp only [nrm]
  obtain ⟨wx, hwx⟩ : ∃ wx, wx = wb.drew.alloc (.cells #[.int .u8 79, .int .u8 82] 5) := ⟨_, rfl⟩
  have hfx : Fr [] wb wx := by rw [hwx]; exact ((Fr.refl [] wb).drew).alloc _
  have hbx : Blk wx wb.heap.size 5 (bcells [79, 82]) := by rw [hwx]; exact Blk.new wb.drew 5 (bcells [79, 82])
  have c0 := fr_keep hfx c0
  have c1 := fr_keep hfx c1
  refine wpAnyK_step (j := 0) (some 6) rfl rfl (by kernel_rfl) rfl fun K hK => ?_
  refine wp_run_value (v := .slice (some ⟨wb.heap.size, 0, none⟩) 2 2) (w' := wx) (by rw [hwx]; simp [execOp, Act.eval, build_two, Result.andThen]) (hK _ _ (fun _ => ⟨c0, c1⟩) ?_)
  simp only [nrm]
  clear hK hwx
  have HB0 : Hid (Buf wx wb.heap.size (.slice (some ⟨wb.heap.size, 0, none⟩) 2 2) [79, 82]) := Lib.hid (own_of_blk hbx rfl (Nat.le_refl _) (by omega))
  have HP := Lib.hid (put16_any HB0.out c.next hn (by simp) hfx.size)
  refine wpAnyK_step (j := 3) (some 9) rfl rfl (by kernel_rfl) rfl fun K hK => ?_
  refine wp_call_f (l := [.tmp 6, .tmp 8]) rfl [.slice (some ⟨wb.heap.size, 0, none⟩) 2 2, .int .i64 (c.next : Int)] rfl (enter_put16 _) (HP.out.mono ?_)
  rintro e w1 ⟨v1, rfl, ha1⟩
  have hf1 : Fr [] wb w1 := hfx.trans ha1.fr (fun q hq => .inr (HB0.out.lt q (by simpa using hq)).1)
  have c0 := (HB.out.fr hf1 (by simp)).at_ (i := 0) rfl
  have c1 := (HB.out.fr hf1 (by simp)).at_ (i := 1) rfl
  refine ⟨_, rfl, hK _ _ (fun _ => ⟨c0, c1⟩) ?_⟩
  simp only [nrm]
  clear hK HP
  have HP := Lib.hid (put16_any ha1.buf c.head hh (by simp [b16]) hf1.size)
  refine wpAnyK_step (j := 6) (some 12) rfl rfl (by kernel_rfl) rfl fun K hK => ?_
  refine wp_call_f (l := [.tmp 9, .tmp 11]) rfl [v1, .int .i64 (c.head : Int)] rfl (enter_put16 _) (HP.out.mono ?_)
  rintro e w2 ⟨v2, rfl, ha2⟩
  have hf2 : Fr [] wb w2 := hf1.trans ha2.fr (fun q hq => .inr (ha1.buf.lt q (by simpa using hq)).1)
  have c0 := (HB.out.fr hf2 (by simp)).at_ (i := 0) rfl
  have c1 := (HB.out.fr hf2 (by simp)).at_ (i := 1) rfl
  refine ⟨_, rfl, hK _ _ (fun _ => ⟨c0, c1⟩) ?_⟩
  simp only [nrm]
  clear hK HP
  refine wpAnyK_step (j := 7) (some 3) rfl rfl (by kernel_rfl) rfl fun K hK => ?_
  refine wp_run_same (v := ?aq1_7) ?yq1_7 (hK _ _ (fun _ => ⟨c0, c1⟩) ?_)
  case yq1_7 => go_simp <;> with_reducible rfl
  simp only [nrm]
  refine wpAnyK_done (by kernel_rfl) ?_ _
  have HBUF0 : Hid (Buf w2 wb.heap.size v2 (spaceK c 0)) := Lib.hid ha2.buf
  have HF2 := Lib.hid hf2
  clear c0 c1 ha1 ha2 hf1 hf2 hfx hbx HB0
  have r0 := (HB.out.fr HF2.out (by simp)).at_ (i := 2) rfl
  have r1 := (HB.out.fr HF2.out (by simp)).at_ (i := 3) rfl
  have r2 := (HB.out.fr HF2.out (by simp)).at_ (i := 4) rfl
  have r3 := (HB.out.fr HF2.out (by simp)).at_ (i := 5) rfl
  have r4 := (HB.out.fr HF2.out (by simp)).at_ (i := 6) rfl
  have r5 := (HB.out.fr HF2.out (by simp)).at_ (i := 7) rfl
  have r6 := (HB.out.fr HF2.out (by simp)).at_ (i := 8) rfl
  have r7 := (HB.out.fr HF2.out (by simp)).at_ (i := 9) rfl
  go_wp2_with fail
  go_loopw [3, 15] (SpRel c wb) (fun _ v _ => 8 - (intOf v).toNat)
  case atStart => exact ⟨0, by omega, rfl, HBUF0.out, HF2.out⟩
  case round =>
    obtain ⟨k, hk, rfl, hbuf, hfr⟩ := hrel
    have HBUF := Lib.hid hbuf; have HFR := Lib.hid hfr
    clear hbuf hfr r0 r1 r2 r3 r4 r5 r6 r7
    by_cases hk8 : k < 8
    · match k, hk8 with
      | 0, _ =>
        -- root 0
        rw [show (((0 : Nat)) : Int) = (0 : Int) from rfl]
        have hix : ∀ w, (Instr.index 78 (.agg #[.int .i64 (c.roots 0 : Int), .int .i64 (c.roots 1 : Int), .int .i64 (c.roots 2 : Int), .int .i64 (c.roots 3 : Int), .int .i64 (c.roots 4 : Int), .int .i64 (c.roots 5 : Int), .int .i64 (c.roots 6 : Int), .int .i64 (c.roots 7 : Int)]) (.int .i64 0)).run Tryz.prog w = .ok (.int .i64 (c.roots 0 : Int)) w := fun _ => by kernel_rfl
        have HP := Lib.hid (put16_any HBUF.out (c.roots 0) (hr 0) (by rw [spaceK_len]; omega) HFR.out.size)
        go_wp2_with fail
        refine HP.out.mono ?_
        rintro e w4 ⟨v4, rfl, hap⟩
        have HX : Hid (SpRel c wb v4 (.int .i64 ((0 : Nat) + 1 : Nat)) w4) := Lib.hid ⟨0 + 1, by omega, rfl, hap.buf, HFR.out.trans hap.fr (fun q hq => .inr (HBUF.out.lt q (by simpa using hq)).1)⟩
        clear hap HP
        go_wp2_with fail
        go_roundw
        case rel => exact HX.out
        case measure => simp [intOf]
      | 1, _ =>
        -- root 1
        rw [show (((1 : Nat)) : Int) = (1 : Int) from rfl]
        have hix : ∀ w, (Instr.index 78 (.agg #[.int .i64 (c.roots 0 : Int), .int .i64 (c.roots 1 : Int), .int .i64 (c.roots 2 : Int), .int .i64 (c.roots 3 : Int), .int .i64 (c.roots 4 : Int), .int .i64 (c.roots 5 : Int), .int .i64 (c.roots 6 : Int), .int .i64 (c.roots 7 : Int)]) (.int .i64 1)).run Tryz.prog w = .ok (.int .i64 (c.roots 1 : Int)) w := fun _ => by kernel_rfl
        have HP := Lib.hid (put16_any HBUF.out (c.roots 1) (hr 1) (by rw [spaceK_len]; omega) HFR.out.size)
        go_wp2_with fail
        refine HP.out.mono ?_
        rintro e w4 ⟨v4, rfl, hap⟩
        have HX : Hid (SpRel c wb v4 (.int .i64 ((1 : Nat) + 1 : Nat)) w4) := Lib.hid ⟨1 + 1, by omega, rfl, hap.buf, HFR.out.trans hap.fr (fun q hq => .inr (HBUF.out.lt q (by simpa using hq)).1)⟩
        clear hap HP
        go_wp2_with fail
        go_roundw
        case rel => exact HX.out
        case measure => simp [intOf]
      | 2, _ =>
        -- root 2
        rw [show (((2 : Nat)) : Int) = (2 : Int) from rfl]
        have hix : ∀ w, (Instr.index 78 (.agg #[.int .i64 (c.roots 0 : Int), .int .i64 (c.roots 1 : Int), .int .i64 (c.roots 2 : Int), .int .i64 (c.roots 3 : Int), .int .i64 (c.roots 4 : Int), .int .i64 (c.roots 5 : Int), .int .i64 (c.roots 6 : Int), .int .i64 (c.roots 7 : Int)]) (.int .i64 2)).run Tryz.prog w = .ok (.int .i64 (c.roots 2 : Int)) w := fun _ => by kernel_rfl
        have HP := Lib.hid (put16_any HBUF.out (c.roots 2) (hr 2) (by rw [spaceK_len]; omega) HFR.out.size)
        go_wp2_with fail
        refine HP.out.mono ?_
        rintro e w4 ⟨v4, rfl, hap⟩
        have HX : Hid (SpRel c wb v4 (.int .i64 ((2 : Nat) + 1 : Nat)) w4) := Lib.hid ⟨2 + 1, by omega, rfl, hap.buf, HFR.out.trans hap.fr (fun q hq => .inr (HBUF.out.lt q (by simpa using hq)).1)⟩
        clear hap HP
        go_wp2_with fail
        go_roundw
        case rel => exact HX.out
        case measure => simp [intOf]
      | 3, _ =>
        -- root 3
        rw [show (((3 : Nat)) : Int) = (3 : Int) from rfl]
        have hix : ∀ w, (Instr.index 78 (.agg #[.int .i64 (c.roots 0 : Int), .int .i64 (c.roots 1 : Int), .int .i64 (c.roots 2 : Int), .int .i64 (c.roots 3 : Int), .int .i64 (c.roots 4 : Int), .int .i64 (c.roots 5 : Int), .int .i64 (c.roots 6 : Int), .int .i64 (c.roots 7 : Int)]) (.int .i64 3)).run Tryz.prog w = .ok (.int .i64 (c.roots 3 : Int)) w := fun _ => by kernel_rfl
        have HP := Lib.hid (put16_any HBUF.out (c.roots 3) (hr 3) (by rw [spaceK_len]; omega) HFR.out.size)
        go_wp2_with fail
        refine HP.out.mono ?_
        rintro e w4 ⟨v4, rfl, hap⟩
        have HX : Hid (SpRel c wb v4 (.int .i64 ((3 : Nat) + 1 : Nat)) w4) := Lib.hid ⟨3 + 1, by omega, rfl, hap.buf, HFR.out.trans hap.fr (fun q hq => .inr (HBUF.out.lt q (by simpa using hq)).1)⟩
        clear hap HP
        go_wp2_with fail
        go_roundw
        case rel => exact HX.out
        case measure => simp [intOf]
      | 4, _ =>
        -- root 4
        rw [show (((4 : Nat)) : Int) = (4 : Int) from rfl]
        have hix : ∀ w, (Instr.index 78 (.agg #[.int .i64 (c.roots 0 : Int), .int .i64 (c.roots 1 : Int), .int .i64 (c.roots 2 : Int), .int .i64 (c.roots 3 : Int), .int .i64 (c.roots 4 : Int), .int .i64 (c.roots 5 : Int), .int .i64 (c.roots 6 : Int), .int .i64 (c.roots 7 : Int)]) (.int .i64 4)).run Tryz.prog w = .ok (.int .i64 (c.roots 4 : Int)) w := fun _ => by kernel_rfl
        have HP := Lib.hid (put16_any HBUF.out (c.roots 4) (hr 4) (by rw [spaceK_len]; omega) HFR.out.size)
        go_wp2_with fail
        refine HP.out.mono ?_
        rintro e w4 ⟨v4, rfl, hap⟩
        have HX : Hid (SpRel c wb v4 (.int .i64 ((4 : Nat) + 1 : Nat)) w4) := Lib.hid ⟨4 + 1, by omega, rfl, hap.buf, HFR.out.trans hap.fr (fun q hq => .inr (HBUF.out.lt q (by simpa using hq)).1)⟩
        clear hap HP
        go_wp2_with fail
        go_roundw
        case rel => exact HX.out
        case measure => simp [intOf]
      | 5, _ =>
        -- root 5
        rw [show (((5 : Nat)) : Int) = (5 : Int) from rfl]
        have hix : ∀ w, (Instr.index 78 (.agg #[.int .i64 (c.roots 0 : Int), .int .i64 (c.roots 1 : Int), .int .i64 (c.roots 2 : Int), .int .i64 (c.roots 3 : Int), .int .i64 (c.roots 4 : Int), .int .i64 (c.roots 5 : Int), .int .i64 (c.roots 6 : Int), .int .i64 (c.roots 7 : Int)]) (.int .i64 5)).run Tryz.prog w = .ok (.int .i64 (c.roots 5 : Int)) w := fun _ => by kernel_rfl
        have HP := Lib.hid (put16_any HBUF.out (c.roots 5) (hr 5) (by rw [spaceK_len]; omega) HFR.out.size)
        go_wp2_with fail
        refine HP.out.mono ?_
        rintro e w4 ⟨v4, rfl, hap⟩
        have HX : Hid (SpRel c wb v4 (.int .i64 ((5 : Nat) + 1 : Nat)) w4) := Lib.hid ⟨5 + 1, by omega, rfl, hap.buf, HFR.out.trans hap.fr (fun q hq => .inr (HBUF.out.lt q (by simpa using hq)).1)⟩
        clear hap HP
        go_wp2_with fail
        go_roundw
        case rel => exact HX.out
        case measure => simp [intOf]
      | 6, _ =>
        -- root 6
        rw [show (((6 : Nat)) : Int) = (6 : Int) from rfl]
        have hix : ∀ w, (Instr.index 78 (.agg #[.int .i64 (c.roots 0 : Int), .int .i64 (c.roots 1 : Int), .int .i64 (c.roots 2 : Int), .int .i64 (c.roots 3 : Int), .int .i64 (c.roots 4 : Int), .int .i64 (c.roots 5 : Int), .int .i64 (c.roots 6 : Int), .int .i64 (c.roots 7 : Int)]) (.int .i64 6)).run Tryz.prog w = .ok (.int .i64 (c.roots 6 : Int)) w := fun _ => by kernel_rfl
        have HP := Lib.hid (put16_any HBUF.out (c.roots 6) (hr 6) (by rw [spaceK_len]; omega) HFR.out.size)
        go_wp2_with fail
        refine HP.out.mono ?_
        rintro e w4 ⟨v4, rfl, hap⟩
        have HX : Hid (SpRel c wb v4 (.int .i64 ((6 : Nat) + 1 : Nat)) w4) := Lib.hid ⟨6 + 1, by omega, rfl, hap.buf, HFR.out.trans hap.fr (fun q hq => .inr (HBUF.out.lt q (by simpa using hq)).1)⟩
        clear hap HP
        go_wp2_with fail
        go_roundw
        case rel => exact HX.out
        case measure => simp [intOf]
      | 7, _ =>
        -- root 7
        rw [show (((7 : Nat)) : Int) = (7 : Int) from rfl]
        have hix : ∀ w, (Instr.index 78 (.agg #[.int .i64 (c.roots 0 : Int), .int .i64 (c.roots 1 : Int), .int .i64 (c.roots 2 : Int), .int .i64 (c.roots 3 : Int), .int .i64 (c.roots 4 : Int), .int .i64 (c.roots 5 : Int), .int .i64 (c.roots 6 : Int), .int .i64 (c.roots 7 : Int)]) (.int .i64 7)).run Tryz.prog w = .ok (.int .i64 (c.roots 7 : Int)) w := fun _ => by kernel_rfl
        have HP := Lib.hid (put16_any HBUF.out (c.roots 7) (hr 7) (by rw [spaceK_len]; omega) HFR.out.size)
        go_wp2_with fail
        refine HP.out.mono ?_
        rintro e w4 ⟨v4, rfl, hap⟩
        have HX : Hid (SpRel c wb v4 (.int .i64 ((7 : Nat) + 1 : Nat)) w4) := Lib.hid ⟨7 + 1, by omega, rfl, hap.buf, HFR.out.trans hap.fr (fun q hq => .inr (HBUF.out.lt q (by simpa using hq)).1)⟩
        clear hap HP
        go_wp2_with fail
        go_roundw
        case rel => exact HX.out
        case measure => simp [intOf]
    · obtain rfl : k = 8 := by omega
      obtain ⟨gb, hgb, hgg⟩ := BytesAt.of_row rfl HBUF.out HFR.out.size
      rw [spaceK_8] at hgb
      have HX : Hid (R (.returned u3) wr) := Lib.hid (HQ.out _ _ ⟨_, rfl, ⟨gb, hgb, by have := HF0.out.size; omega⟩, HF0.out.trans HFR.out (by simp)⟩)
      clear hgb hgg
      go_wp2_with fail
      exact HX.out
end Go.Proofs.YtpjbdpepofnleaaGreat
end
