/-
  Joined by join.py: Qi Qj Qk
-/
import Derived.Test.YtpjbdpepofnleaaGreatJpl20
set_option maxRecDepth 100000
set_option maxHeartbeats 32000000
namespace Go.Proofs.YtpjbdpepofnleaaGreat
section
open Go.RowKit Go.ChangeMaps Go.MapKept Go.Maps Go.Sort Go.Shelf
theorem tail3 {α β γ : Type} {G : Prop} {H P : α -> β -> γ -> Prop} (main : (∀ a b c, H a b c -> P a b c) -> G) (tail : ∀ a b c, H a b c -> P a b c) : G := main tail
theorem chC_root (c : CD) (g bn bs : Nat) {t : Nat} (ht : t < 8) : (chC c g bn bs)[2 + t]? = some (.int .i64 ((c.roots t : Nat) : Int)) := by
 match t, ht with
 | 0, _ | 1, _ | 2, _ | 3, _ | 4, _ | 5, _ | 6, _ | 7, _ => rfl
theorem chC_set (c : CD) (g bn bs : Nat) {t : Nat} (ht : t < 8) (v : Nat) : (chC c g bn bs).set (2 + t) (.int .i64 ((v : Nat) : Int)) = chC (c.root t v) g bn bs := by
 match t, ht with
 | 0, _ | 1, _ | 2, _ | 3, _ | 4, _ | 5, _ | 6, _ | 7, _ => rfl
theorem WfW.root {c : CD} (h : WfW c) {t v : Nat} (hv : v < 65536) : WfW (c.root t v) := ⟨h.n, h.next, h.head, h.pg, h.rM, h.rS, h.mM, h.mS, fun k => by show (if k = t then v else c.roots k) < 65536; split; exact hv; exact h.roots k⟩
theorem enter_alloc (vs : Array Value) (w : World) : (callFunc 33 vs).run Tryz.prog w = .ok (.enter 33 vs) w := by kernel_rfl
theorem enter_write (vs : Array Value) (w : World) : (callFunc 34 vs).run Tryz.prog w = .ok (.enter 34 vs) w := by kernel_rfl
section
variable {w0 wS w w1 w2 : World} {dk g bc bn bs : Nat} {s : PS} {X D : Nat -> Prop} {L : List LB} {N : List NP} {Kl : List Kq} {c c' : CD}
theorem ChAt.root (h : ChAt wS w g bc bn bs D c) {t v : Nat} (ht : t < 8) (hv : v < 65536) : ChAt wS (w.setCell ⟨bc, 2 + t, none⟩ (.int .i64 ((v : Nat) : Int))) g bc bn bs D (c.root t v) /\ Fr [bc] w (w.setCell ⟨bc, 2 + t, none⟩ (.int .i64 ((v : Nat) : Int))) := by
 have hf : Fr [bc] w (w.setCell ⟨bc, 2 + t, none⟩ (.int .i64 ((v : Nat) : Int))) := (Fr.refl [bc] w).setCell (.inl (by simp)) _; exact ⟨h.set (c' := c.root t v) (_cs := []) (by rw [<- chC_set c g bn bs ht v]; exact h.blk.set_ (2 + t) _) hf rfl rfl (h.wf.root hv), hf⟩
theorem Sx.row1 (h : Sx wS w g bc bn bs D L N Kl c w1) {x : It} {kv vv av : Value} {n : Nd} (hx : ItC (Off D L N) w1 x kv vv av) (hf : Fr [] w1 w2) {p : Nat} (hb : Blk w2 p 77 [kv, vv, av]) (hp : w1.heap.size <= p) (hn : n.l = [x]) :
  NdV (Off D L N) w2 0 (.agg #[.int .i64 (kindOf n), .int .i64 (n.first : Int), .slice (some ⟨p, 0, none⟩) 1 1]) n := by
 have hz := hf.size; have hz1 := h.fr.size; have hlt := hb.lt; refine ⟨.slice (some ⟨p, 0, none⟩) 1 1, [kv, vv, av], rfl, ?_, ?_, fun q hq => ?_⟩
 ·rw [hn]; exact ⟨rfl, .inr ⟨p, 1, #[kv, vv, av], rfl, Nat.zero_le _, hb, Nat.le_refl _, by unfold maxLen; omega, rfl, rfl⟩⟩
 ·rw [hn]
  have h1 : ItC (fun q => Off D L N q /\ (Value.slice (some ⟨p, 0, none⟩) 1 1).ownBlock ≠ some q) w1 x kv vv av :=
   hx.re (fun q hq hl => ⟨hq, fun e => by have : p = q := Option.some.inj e; omega⟩) ⟨w2.heap.size, h.offD _ hz, fun e => by have : p = _ := Option.some.inj e; omega⟩
  exact ⟨h1.fr hf (by simp), trivial⟩
 ·obtain rfl : p = q := Option.some.inj hq; exact h.offD _ hp
/-- A new root, if the old one has to lay something. -/
theorem grow_ch {t : Nat} {u : Ky × Nat} {uv : Value} (hp : PgC w0 wS dk g s X c) (h : ChAt wS w g bc bn bs D c) (hu : UpV D w uv u) (hD : ∀ q, w.heap.size <= q -> D q) (ht : t < 8)
  (hok : u.2 ≠ 0 -> 1 <= u.1.length /\ u.1.length <= 96 /\ u.2 < 65536 /\ c.e = 0 /\ 0 < c.n /\ (c.head ≠ 0 -> c.head < c.n /\ ∃ j, c.nx c.head = some j)) :
  Calls Tryz.prog 36 #[.pointer (some ⟨bc, 0, none⟩), .int .i64 (t : Int), uv] w fun e w' => e = .returned (.tuple #[]) /\ ChAt wS w' g bc bn bs D (growC c t u) /\ Fr [bc, bn, bs] w w' := by
 obtain ⟨Au, cu, rfl, hbu⟩ := hu.open_; obtain ⟨wb, hwb⟩ := nm (w.alloc (.cells #[.slice Au u.1.length cu, .int .i64 ((u.2 : Nat) : Int)] 91)); have hf0 : Fr [] w wb := by rw [hwb]; exact (Fr.refl [] w).alloc _
 have hb5 : Blk wb w.heap.size 91 [.slice Au u.1.length cu, .int .i64 ((u.2 : Nat) : Int)] := by rw [hwb]; exact Blk.new w _ [.slice Au u.1.length cu, .int .i64 ((u.2 : Nat) : Int)]
 have hO : ∀ q, D q -> Off D [] [] q := fun q hq => ⟨hq, fun _ h => by simp at h, fun _ h => by simp at h⟩; have S1 := lh (((Sx.start h hD).key (hbu.imp fun q hq => ⟨hq.1, hO q hq.2⟩)).new1 hf0 hb5 (Nat.le_refl _)); have ht8 : ((t : Nat) : Int) < 8 := by omega
 refine calls_post fun R HQ => ?_
 by_cases hu0 : u.2 = 0
 ·have eg : growC c t u = c := by unfold growC; rw [if_pos hu0]
  rw [eg] at HQ; have HX := lh (HQ.out _ _ ⟨rfl, S1.out.fin⟩); have v1 := S1.out.fin; have b1 := (S1.out.loc _ (.head _)).1.at_ (i := 1) rfl
  simp only at b1
  rw [hu0] at b1; have HU0 := lh hu0; clear h hp hbu hf0 hb5 hO S1 eg v1 hok hu hu0
  go_enter Tryz.func36, Tryz.ntmps36
  go_upto_region 1 with fail
  rw [<- hwb]; clear hwb; go_wp2_with fail
  go_end0
  exact HX.out
 ·obtain ⟨k1, k2, k3, he, hn0, hh⟩ := hok hu0; have hu0i : ¬ ((u.2 : Nat) : Int) = 0 := by omega
  have eg : growC c t u = (c.alloc.1.root t c.alloc.2).write c.alloc.2 ⟨false, c.roots t, [⟨u.1, [], u.2⟩]⟩ := by unfold growC; rw [if_neg hu0]
  rw [eg] at HQ; obtain ⟨nr, hnr⟩ : ∃ nr : Nd, nr = ⟨false, c.roots t, [⟨u.1, [], u.2⟩]⟩ := ⟨_, rfl⟩; rw [<- hnr] at HQ
  have nok : nr.ok /\ nr.size <= 512 := by
   rw [hnr]; refine ⟨⟨by show 1 < 65536; omega, fun x hx => ?_, h.wf.roots t, fun e => by cases e⟩, ?_⟩
   ·obtain rfl := List.mem_singleton.1 hx; exact ⟨k1, k2, Nat.zero_le _, k3, rfl⟩
   ·show 5 + (3 + u.1.length + 0) <= 512; omega
  have ha2 : c.alloc.2 < c.n := by
   unfold CD.alloc
   split
   ·rename_i h; exact (hh h).1
   ·split
    ·assumption
    ·exact hn0
  have ha1 : c.alloc.1.n = c.n := alloc_n c; have hn4 := h.wf.n; have HNOK := lh nok; have HA2 := lh ha2; have HA1 := lh ha1; have HE := lh he; have HHH := lh hh; have HP := lh hp; have HNR := lh hnr; have HN4 := lh hn4; have b0 := (S1.out.loc _ (.head _)).1.at_ (i := 0) rfl; have b1 := (S1.out.loc _ (.head _)).1.at_ (i := 1) rfl; have cr := (S1.out.ch.blk).at_ (chC_root c g bn bs ht); clear h hp hbu hf0 hb5 hO eg hok hu nok ha2 ha1 he hh hnr k1 k2 k3 hn0 hn4
  go_enter Tryz.func36, Tryz.ntmps36
  go_upto_region 1 with fail
  rw [<- hwb]; clear hwb; go_upto_region 2 with fail
  have S2 := lh (S1.out.quiet ((Fr.refl [] wb).drew)); clear S1
  apply tail3 (H := fun p13 p6 W => Hid (Sx wS w g bc bn bs D ((p6, 88, [.int .i64 2, .int .i64 (c.roots t : Int), .slice (some ⟨p13, 0, none⟩) 1 1]) :: (w.heap.size, 91, [.slice Au u.1.length cu, .int .i64 ((u.2 : Nat) : Int)]) :: []) [] (.nd (.agg #[.int .i64 2, .int .i64 (c.roots t : Int), .slice (some ⟨p13, 0, none⟩) 1 1]) nr :: .by_ (.slice Au u.1.length cu) u.1 :: []) c W))
  case main =>
   intro TAIL; refine wp_region_K (fun W => W.cell? ⟨bc, 2 + t, none⟩ = some (.int .i64 ((c.roots t : Nat) : Int)) /\ W.cell? ⟨w.heap.size, 0, none⟩ = some (.slice Au u.1.length cu) /\ W.cell? ⟨w.heap.size, 1, none⟩ = some (.int .i64 ((u.2 : Nat) : Int))) [0, 1, 2, 3, 4, 5, 6, 7, 8, 9, 10, 11, 12, 14] (by kernel_rfl) ?_; refine tks [0, 1, 2, 3, 4, 5, 6, 7, 8, 9, 10, 11, 12] ?_
   iterate 13 (refine tk rfl rfl ⟨cr, b0, b1⟩ rfl (fun _ hW => by (obtain ⟨q0, q1, q2⟩ := hW; go_simp) <;> with_reducible rfl) ?_; simp only [nrm])
   refine tke ?_; refine wpAnyK_two (i := 13) (j := 15) (some 23) (some 6) rfl rfl rfl rfl (by kernel_rfl) rfl rfl (fun K hK => ?_) (fun K hK => ?_)
   ·
    obtain ⟨wx, hwx⟩ := nm (wb.drew.alloc (.cells ([.slice Au u.1.length cu, .slice none 0 0, .int .i64 ((u.2 : Nat) : Int)] : List Value).toArray 77)); have hfx : Fr [] wb.drew wx := by rw [hwx]; exact (Fr.refl [] wb.drew).alloc _
    have hbx : Blk wx wb.drew.heap.size 77 [.slice Au u.1.length cu, .slice none 0 0, .int .i64 ((u.2 : Nat) : Int)] := by rw [hwx]; exact Blk.new wb.drew _ [.slice Au u.1.length cu, .slice none 0 0, .int .i64 ((u.2 : Nat) : Int)]
    replace b0 := fr_keep hfx b0
    replace b1 := fr_keep hfx b1
    replace cr := fr_keep hfx cr
    obtain ⟨ti, hti, hz', hsz', hby⟩ := info_get info_it; refine wp_build_one (.tmp 22) rfl Tryz.underlying86 hti hz' [.slice Au u.1.length cu, .slice none 0 0, .int .i64 ((u.2 : Nat) : Int)] rfl hsz' rfl (by simp) (by simp) (hK _ _ (fun _ => by rw [hwx] at cr b0 b1; exact ⟨cr, b0, b1⟩) ?_); simp only [nrm]; rw [<- hwx]; clear hK hti hz' hsz' hby; obtain ⟨p13, hp13⟩ := nm (wb.drew.heap.size); rw [<- hp13] at hbx ⊢; have HND0 := S2.out.row1 (n := nr) (x := ⟨u.1, [], u.2⟩) ⟨S2.out.kb (.head _), S2.out.nil_key, rfl⟩ hfx hbx (Nat.le_of_eq hp13.symm) (by rw [HNR.out]); rw [show kindOf nr = 2 by rw [HNR.out]; rfl, show nr.first = c.roots t by rw [HNR.out]] at HND0; have S3 := lh ((S2.out.quiet hfx).nd HND0); clear HND0 hfx hbx hwx hp13; refine tv 14 (.agg #[.int .i64 2, .int .i64 (c.roots t : Int), .slice (some ⟨p13, 0, none⟩) 1 1]) rfl rfl ⟨cr, b0, b1⟩ (.inl ⟨rfl, fun W hW => by go_simp⟩) ?_; simp only [nrm]; refine sp 15 rfl rfl rfl fun K hK => ?_; refine wp_alloc_blk 88 rfl (.agg #[.int .i64 0, .int .i64 0, .slice none 0 0]) znd zero_nd rfl fun w15 hb15 hf15 hz15 => ?_
    replace b0 := fr_keep hf15 b0
    replace b1 := fr_keep hf15 b1
    replace cr := fr_keep hf15 cr
    refine hK _ _ (fun _ => ⟨cr, b0, b1⟩) ?_; simp only [nrm]; clear hK; obtain ⟨p6, hp6⟩ := nm (wx.heap.size); rw [<- hp6] at hb15 ⊢; have S4 := lh (S3.out.new1 hf15 hb15 (Nat.le_of_eq hp6.symm)); clear hb15 hf15 hz15 hp6; have hb15 := (S4.out.loc _ (.head _)).1; refine wpAnyK_step (j := 16) none rfl rfl (by kernel_rfl) rfl fun K hK => ?_; refine wp_store_blk 88 (.tmp 6) (.tmp 24) rfl [.int .i64 2, .int .i64 (c.roots t : Int), .slice (some ⟨p13, 0, none⟩) 1 1] rfl rfl hb15 size_nd rfl three_cells fun w16 hb16 hf16 hz16 => hK _ _ (fun h => absurd h (by decide +kernel)) ?_; simp only [Act.put]; clear hK; refine wd ?_ _; exact TAIL p13 p6 w16 (lh (S4.out.set_ hf16 hb16))
   ·
    refine wp_alloc_blk 88 rfl (.agg #[.int .i64 0, .int .i64 0, .slice none 0 0]) znd zero_nd rfl fun w15 hb15 hf15 hz15 => ?_
    replace b0 := fr_keep hf15 b0
    replace b1 := fr_keep hf15 b1
    replace cr := fr_keep hf15 cr
    refine hK _ _ (fun _ => ⟨cr, b0, b1⟩) ?_; simp only [nrm]; clear hK; obtain ⟨p6, hp6⟩ := nm (wb.drew.heap.size); rw [<- hp6] at hb15 ⊢; have S3 := lh (S2.out.new1 hf15 hb15 (Nat.le_of_eq hp6.symm)); clear hb15 hf15 hz15 hp6; refine sp 13 rfl rfl rfl fun K hK => ?_; obtain ⟨wx, hwx⟩ := nm (w15.alloc (.cells ([.slice Au u.1.length cu, .slice none 0 0, .int .i64 ((u.2 : Nat) : Int)] : List Value).toArray 77)); have hfx : Fr [] w15 wx := by rw [hwx]; exact (Fr.refl [] w15).alloc _
    have hbx : Blk wx w15.heap.size 77 [.slice Au u.1.length cu, .slice none 0 0, .int .i64 ((u.2 : Nat) : Int)] := by rw [hwx]; exact Blk.new w15 _ [.slice Au u.1.length cu, .slice none 0 0, .int .i64 ((u.2 : Nat) : Int)]
    replace b0 := fr_keep hfx b0
    replace b1 := fr_keep hfx b1
    replace cr := fr_keep hfx cr
    obtain ⟨ti, hti, hz', hsz', hby⟩ := info_get info_it; refine wp_build_one (.tmp 22) rfl Tryz.underlying86 hti hz' [.slice Au u.1.length cu, .slice none 0 0, .int .i64 ((u.2 : Nat) : Int)] rfl hsz' rfl (by simp) (by simp) (hK _ _ (fun _ => by rw [hwx] at cr b0 b1; exact ⟨cr, b0, b1⟩) ?_); simp only [nrm]; rw [<- hwx]; clear hK hti hz' hsz' hby; obtain ⟨p13, hp13⟩ := nm (w15.heap.size); rw [<- hp13] at hbx ⊢; have HND0 := S3.out.row1 (n := nr) (x := ⟨u.1, [], u.2⟩) ⟨S3.out.kb (.head _), S3.out.nil_key, rfl⟩ hfx hbx (Nat.le_of_eq hp13.symm) (by rw [HNR.out]); rw [show kindOf nr = 2 by rw [HNR.out]; rfl, show nr.first = c.roots t by rw [HNR.out]] at HND0; have S4 := lh ((S3.out.quiet hfx).nd HND0); clear HND0 hfx hbx hwx hp13; refine tv 14 (.agg #[.int .i64 2, .int .i64 (c.roots t : Int), .slice (some ⟨p13, 0, none⟩) 1 1]) rfl rfl ⟨cr, b0, b1⟩ (.inl ⟨rfl, fun W hW => by go_simp⟩) ?_; simp only [nrm]; have hb15 := (S4.out.loc _ (.head _)).1; refine wpAnyK_step (j := 16) none rfl rfl (by kernel_rfl) rfl fun K hK => ?_; refine wp_store_blk 88 (.tmp 6) (.tmp 24) rfl [.int .i64 2, .int .i64 (c.roots t : Int), .slice (some ⟨p13, 0, none⟩) 1 1] rfl rfl hb15 size_nd rfl three_cells fun w16 hb16 hf16 hz16 => hK _ _ (fun h => absurd h (by decide +kernel)) ?_; simp only [Act.put]; clear hK; refine wd ?_ _; exact TAIL p13 p6 w16 (lh (S4.out.set_ hf16 hb16))
  intro p13 p6 w2 S3; clear b0 b1 cr S2; have S4 := lh (S3.out.quiet ((Fr.refl [] w2).drew)); clear S3; have hlow := S4.out.low; have hp6l := (S4.out.loc _ (.head _)).2; have HAL := lh (alloc_ch HP.out S4.out.ch HE.out HHH.out); go_upto_region 3 with fail
  apply tail1 (H := fun W => Hid (Sx wS w g bc bn bs D ((p6, 88, [.int .i64 2, .int .i64 (c.roots t : Int), .slice (some ⟨p13, 0, none⟩) 1 1]) :: []) [] (.nd (.agg #[.int .i64 2, .int .i64 (c.roots t : Int), .slice (some ⟨p13, 0, none⟩) 1 1]) nr :: []) (c.alloc.1.root t c.alloc.2) W))
  case main =>
   intro TAIL; refine wp_region_K (fun _ => True) [0, 1, 2, 4, 5, 6, 7] (by kernel_rfl) ?_; refine tks [0, 1, 2, 4, 5, 6] ?_
   iterate 6 (refine tk rfl rfl trivial rfl (fun _ _ => by go_simp <;> with_reducible rfl) ?_; simp only [nrm])
   refine tke ?_; refine sp 3 rfl rfl rfl fun K hK => ?_; refine wp_call_f (l := [.tmp 27]) rfl [.pointer (some ⟨bc, 0, none⟩)] rfl (enter_alloc _) (HAL.out.mono ?_); rintro e w3 ⟨rfl, hc3, hf3⟩; refine ⟨_, rfl, hK _ _ (fun _ => trivial) ?_⟩; simp only [nrm]; have S5 := lh (S4.out.call hf3 (by simp) hc3); clear hK hc3 hf3; have hroot := S5.out.ch.root ht (v := c.alloc.2) (by have := HA2.out; have := HN4.out; omega); have hfz := S5.out.ch.blk.free (2 + t); have hcl := S5.out.ch.blk.at_ (chC_root _ g bn bs ht); refine tks [7] ?_; refine tk rfl rfl trivial rfl (fun _ _ => by go_simp <;> with_reducible rfl) ?_; simp only [nrm]; refine tke ?_; refine wpAnyK_step (j := 8) none rfl rfl (by kernel_rfl) rfl fun K hK => ?_; refine wp_run_skip (w' := w3.setCell ⟨bc, 2 + t, none⟩ (.int .i64 ((c.alloc.2 : Nat) : Int))) (by go_simp) (hK _ _ (fun _ => trivial) ?_); simp only [Act.put]; clear hK; refine wd ?_ _; exact TAIL _ (lh ((S5.out.call hroot.2 (by simp) hroot.1).less (L' := _) (.cons_cons _ (List.nil_sublist _)) (List.Sublist.refl _) fun k hk => by simp only [List.mem_cons] at hk ⊢; rcases hk with h | h <;> simp [h]))
  intro w4 S5; clear S4 HAL; have S6 := lh (S5.out.quiet ((Fr.refl [] w4).drew)); clear S5; have d0 := (S6.out.loc _ (.head _)).1.at_ (i := 0) rfl; have d1 := (S6.out.loc _ (.head _)).1.at_ (i := 1) rfl; have d2 := (S6.out.loc _ (.head _)).1.at_ (i := 2) rfl; have cr := S6.out.ch.blk.at_ (chC_root _ g bn bs ht); rw [show (c.alloc.1.root t c.alloc.2).roots t = c.alloc.2 by show (if t = t then _ else _) = _; rw [if_pos rfl]] at cr; have HWR := lh (write_ch S6.out.ch (S6.out.kn (n := nr) (.head _)) (k := c.alloc.2) (by have := HA2.out; have := HA1.out; show _ < c.alloc.1.n; omega) HNOK.out.1 HNOK.out.2); go_upto_region 4 with fail
  apply tail1 (H := fun W => Hid (Sx wS w g bc bn bs D [] [] [] ((c.alloc.1.root t c.alloc.2).write c.alloc.2 nr) W))
  case main =>
   intro TAIL; refine wp_region_K (fun W => W.cell? ⟨bc, 2 + t, none⟩ = some (.int .i64 ((c.alloc.2 : Nat) : Int)) /\ W.cell? ⟨p6, 0, none⟩ = some (.int .i64 2) /\ W.cell? ⟨p6, 1, none⟩ = some (.int .i64 (c.roots t : Int)) /\ W.cell? ⟨p6, 2, none⟩ = some (.slice (some ⟨p13, 0, none⟩) 1 1)) [0, 1, 2, 3, 4, 5, 6, 7, 8] (by kernel_rfl) ?_; refine tks [0, 1, 2, 3, 4, 5, 6, 7, 8] ?_
   iterate 9 (refine tk rfl rfl ⟨cr, d0, d1, d2⟩ rfl (fun _ hW => by (obtain ⟨q0, q1, q2, q3⟩ := hW; go_simp) <;> with_reducible rfl) ?_; simp only [nrm])
   refine tke ?_; refine sp 9 rfl rfl rfl fun K hK => ?_; refine wp_call_f (l := [.tmp 33, .tmp 40, .tmp 41]) rfl [.pointer (some ⟨bc, 0, none⟩), .int .i64 ((c.alloc.2 : Nat) : Int), .agg #[.int .i64 2, .int .i64 (c.roots t : Int), .slice (some ⟨p13, 0, none⟩) 1 1]] rfl (enter_write _) (HWR.out.mono ?_); rintro e w5 ⟨rfl, hc5, hf5⟩; have S6b := lh (S6.out.call hf5 (by simp) hc5); have cr' := S6b.out.ch.blk.at_ (chC_root _ g bn bs ht); rw [show ((c.alloc.1.root t c.alloc.2).write c.alloc.2 nr).roots t = c.alloc.2 by show (if t = t then _ else _) = _; rw [if_pos rfl]] at cr'; have S7 := lh ((S6.out.call hf5 (by simp) hc5).less (L' := []) (N' := []) (K' := []) (List.nil_sublist _) (List.Sublist.refl _) (by simp)); refine ⟨_, rfl, hK _ _ (fun _ => ⟨cr', (S6b.out.loc _ (.head _)).1.at_ (i := 0) rfl, (S6b.out.loc _ (.head _)).1.at_ (i := 1) rfl, (S6b.out.loc _ (.head _)).1.at_ (i := 2) rfl⟩) ?_⟩; simp only [nrm]; clear hK hc5 hf5 S6b cr'; refine wd ?_ _; exact TAIL _ S7
  intro w5 S7; have HX := lh (HQ.out _ _ ⟨rfl, S7.out.fin⟩); clear S6 d0 d1 d2 cr HWR S7; go_wp2_with fail
  go_end0
  exact HX.out
theorem fail0 (c : CD) : c.fail 0 = c := by
 unfold CD.fail
 split
 ·rename_i h; cases c; simp only at h; rw [h]
 ·rfl
/-- A root let go that has no entry. -/
theorem lower_ch {t : Nat} {n : Nd} (hp : PgC w0 wS dk g s X c) (h : ChAt wS w g bc bn bs D c) (hD : ∀ q, w.heap.size <= q -> D q) (ht : t < 8) (hN : c.N (c.roots t) = some n) (hc : lowerC c t = some c') :
  Calls Tryz.prog 42 #[.pointer (some ⟨bc, 0, none⟩), .int .i64 (t : Int)] w fun e w' => e = .returned (.tuple #[]) /\ ChAt wS w' g bc bn bs D c' /\ Fr [bc, bn, bs] w w' := by
 have S1 := lh (Sx.start h hD); obtain ⟨hkn, hok, hsz⟩ := h.wf.N_ok hN; have hfew := items_few hsz; have hfirst := hok.first; have HNC := lh (node_ch hp S1.out.ch hN S1.out.offD)
 have hc' : (if c.e ≠ 0 ∨ n.l ≠ [] then some c else some ((c.free (c.roots t)).root t n.first)) = some c' := by
  unfold lowerC at hc; rw [hN] at hc; exact hc
 have ht8 : ((t : Nat) : Int) < 8 := by omega
 have cr := S1.out.ch.blk.at_ (chC_root c g bn bs ht); have HKN := lh hkn; have HFEW := lh hfew; have HFI := lh hfirst; have HC := lh hc'; clear h hp hD hN hc hc' hok hsz hkn hfew hfirst; refine calls_post fun R HQ => ?_
 go_enter Tryz.func42, Tryz.ntmps42
 go_wp2_with fail; refine HNC.out.mono ?_; rintro e w1 ⟨nv, rfl, hnv, hf1⟩; obtain ⟨A, ca, rfl, S2'⟩ := S1.out.node_r hf1 hnv; have S2 := lh S2'; clear hnv hf1 S2' S1 HNC cr
 go_wp2_with (first
  | (with_reducible refine wpList_alloc_z rfl 88 rfl (.agg #[.int .i64 0, .int .i64 0, .slice none 0 0]) znd.toArray zero_nd rfl ?_)
  | (refine wpList_store_z (W := w1) rfl 88 (.tmp 4) (.tmp 16) rfl [.int .i64 (kindOf n), .int .i64 (n.first : Int), .slice A n.l.length ca] rfl rfl rfl size_nd rfl three_cells ?_))
 intro w2 hb2 hf2 hz2; obtain ⟨p4, hp4⟩ := nm (w1.heap.size); rw [<- hp4] at hb2 ⊢; have S3 := lh (S2.out.new1 hf2 hb2 (by omega)); clear hf2 hb2 hz2 hp4 S2; go_wp2_with fail; refine (fail_ch S3.out.ch 0).mono ?_; rintro e w3 ⟨rfl, hc3, hf3, hz3⟩; rw [fail0] at hc3 ⊢; have S4 := lh (S3.out.call hf3 (by simp) hc3); clear hc3 hf3 hz3 S3; have d2 := (S4.out.loc _ (.head _)).1.at_ (i := 2) rfl
 by_cases he : c.e = 0
 ·have hd : decide (c.e ≠ 0) = false := by rw [he]; rfl
  rw [hd]; have HE := lh he; clear hd he
  by_cases hl : n.l.length = 0
  ·have hgt : ¬ (0 : Int) < ((n.l.length : Nat) : Int) := by omega
   have hnil : n.l = [] := List.length_eq_zero_iff.1 hl
   have hcc : c' = (c.free (c.roots t)).root t n.first := by
    have := HC.out; rw [if_neg (by rw [HE.out, hnil]; simp)] at this; exact (Option.some.inj this).symm
   subst hcc; have HL := lh hl; have HNIL := lh hnil; clear hl hnil HC; have cr := S4.out.ch.blk.at_ (chC_root c g bn bs ht); have HFREE := lh (free_ch S4.out.ch (k := c.roots t) HKN.out); go_wp2_with fail; refine HFREE.out.mono ?_; rintro e w4 ⟨rfl, hc4, hf4⟩; have S5 := lh ((S4.out.call hf4 (by simp) hc4).quiet ((Fr.refl [] w4).drew)); clear hc4 hf4 HFREE S4 cr d2; have d1 := (S5.out.loc _ (.head _)).1.at_ (i := 1) rfl; have hroot := S5.out.ch.root ht (v := n.first) HFI.out; have hfz := S5.out.ch.blk.free (2 + t); have hcl := S5.out.ch.blk.at_ (chC_root _ g bn bs ht); go_upto_region 3 with fail
   apply tail1 (H := fun W => Hid (Sx wS w g bc bn bs D [] [] [] ((c.free (c.roots t)).root t n.first) W))
   case main =>
    intro TAIL; refine wp_region_K (fun W => W.cell? ⟨p4, 1, none⟩ = some (.int .i64 (n.first : Int)) /\ True) [0, 1, 2, 3, 4, 5, 6, 7] (by kernel_rfl) ?_; refine tks [0, 1, 2, 3, 4, 5, 6, 7] ?_
    iterate 8 (refine tk rfl rfl ⟨d1, trivial⟩ rfl (fun _ hW => by (obtain ⟨q0, _⟩ := hW; go_simp) <;> with_reducible rfl) ?_; simp only [nrm])
    refine tke ?_; refine wpAnyK_step (j := 8) none rfl rfl (by kernel_rfl) rfl fun K hK => ?_; have hp4l := (S5.out.loc _ (.head _)).2; have hlow := S5.out.low; have d1' := fr_keepS hroot.2 (by simp only at hp4l; simp; omega) d1; refine wp_run_skip (w' := w4.drew.setCell ⟨bc, 2 + t, none⟩ (.int .i64 (n.first : Int))) (by go_simp) (hK _ _ (fun _ => ⟨d1', trivial⟩) ?_); simp only [Act.put]; clear hK; refine wd ?_ _; exact TAIL _ (lh ((S5.out.call hroot.2 (by simp) hroot.1).less (L' := []) (N' := []) (K' := []) (List.nil_sublist _) (List.Sublist.refl _) (by simp)))
   intro w5 S6; have HX := lh (HQ.out _ _ ⟨rfl, S6.out.fin⟩); clear S5 S6 d1 hroot hfz hcl; go_wp2_with fail
   go_end0
   exact HX.out
  ·have hgt : (0 : Int) < ((n.l.length : Nat) : Int) := by omega
   have hcc : c' = c := by
    have := HC.out; rw [if_pos (.inr fun e => hl (by rw [e]; rfl))] at this; exact (Option.some.inj this).symm
   subst hcc; have HX := lh (HQ.out _ _ ⟨rfl, S4.out.fin⟩); have HL := lh hl; clear hl; go_wp2_with fail
   go_end0
   exact HX.out
 ·have hd : decide (c.e ≠ 0) = true := by simpa using he
  rw [hd]
  have hcc : c' = c := by
   have := HC.out; rw [if_pos (.inl he)] at this; exact (Option.some.inj this).symm
  subst hcc; have HX := lh (HQ.out _ _ ⟨rfl, S4.out.fin⟩); have HE := lh he; clear hd he; go_wp2_with fail
  go_end0
  exact HX.out
end
def spaceK (c : CD) : Nat -> List UInt8
 | 0 => [79, 82] ++ b16 c.next ++ b16 c.head
 | k + 1 => spaceK c k ++ b16 (c.roots k)
theorem spaceK_len (c : CD) : ∀ k, (spaceK c k).length = 6 + 2 * k
 | 0 => rfl
 | k + 1 => by
  show (spaceK c k ++ b16 (c.roots k)).length = _
  rw [List.length_append, spaceK_len c k]
  show 6 + 2 * k + 2 = _
  omega
theorem spaceK_8 (c : CD) : spaceK c 8 = spaceB c := rfl
def spC (c : CD) : List Value := [.int .i64 (c.next : Int), .int .i64 (c.head : Int), .int .i64 (c.roots 0 : Int), .int .i64 (c.roots 1 : Int), .int .i64 (c.roots 2 : Int), .int .i64 (c.roots 3 : Int), .int .i64 (c.roots 4 : Int), .int .i64 (c.roots 5 : Int), .int .i64 (c.roots 6 : Int), .int .i64 (c.roots 7 : Int)]
def SpRel (c : CD) (wb : World) (v3 v15 : Value) (wr : World) : Prop := ∃ k : Nat, k <= 8 /\ v15 = .int .i64 (k : Int) /\ Buf wr wb.heap.size v3 (spaceK c k) /\ Fr [] wb wr
/-- Page 0 as bytes. -/
theorem written_sp (c : CD) {w : World} (hn : c.next < 65536) (hh : c.head < 65536) (hr : ∀ t, c.roots t < 65536) :
  Calls Tryz.prog 70 #[.agg (spC c).toArray] w fun e w' => ∃ v', e = .returned v' /\ (∃ g, BytesAt w' v' (spaceB c) g /\ w.heap.size <= g) /\ Fr [] w w' := by
 obtain ⟨wb, hwb⟩ := nm (w.alloc (.cells (spC c).toArray 80)); have hf0 : Fr [] w wb := by rw [hwb]; exact (Fr.refl [] w).alloc _
 have hb : Blk wb w.heap.size 80 (spC c) := by rw [hwb]; exact Blk.new w _ (spC c)
 have HB := lh hb; have HF0 := lh hf0; have c0 := hb.at_ (i := 0) rfl; have c1 := hb.at_ (i := 1) rfl; clear hb hf0; unfold spC at hwb ⊢; refine calls_post fun R HQ => ?_
 go_enter Tryz.func70, Tryz.ntmps70
 go_upto_region 1 with fail
 rw [<- hwb]; clear hwb; refine wp_region_K (fun W => W.cell? ⟨w.heap.size, 0, none⟩ = some (.int .i64 (c.next : Int)) /\ W.cell? ⟨w.heap.size, 1, none⟩ = some (.int .i64 (c.head : Int))) [1, 2, 4, 5] (by kernel_rfl) ?_; refine tks [1, 2, 4, 5] ?_
 iterate 4 (refine tk rfl rfl ⟨c0, c1⟩ rfl (fun _ hW => by (obtain ⟨q0, q1⟩ := hW; go_simp) <;> with_reducible rfl) ?_; simp only [nrm])
 refine tke ?_; obtain ⟨wx, hwx⟩ := nm (wb.drew.alloc (.cells #[.int .u8 79, .int .u8 82] 5)); have hfx : Fr [] wb wx := by rw [hwx]; exact ((Fr.refl [] wb).drew).alloc _
 have hbx : Blk wx wb.heap.size 5 (bcells [79, 82]) := by rw [hwx]; exact Blk.new wb.drew 5 (bcells [79, 82])
 have c0 := fr_keep hfx c0; have c1 := fr_keep hfx c1; refine sp 0 rfl rfl rfl fun K hK => ?_; refine wp_run_value (v := .slice (some ⟨wb.heap.size, 0, none⟩) 2 2) (w' := wx) (by rw [hwx]; simp [execOp, Act.eval, build_two, Result.andThen]) (hK _ _ (fun _ => ⟨c0, c1⟩) ?_); simp only [nrm]; clear hK hwx; have HB0 : Hid (Buf wx wb.heap.size (.slice (some ⟨wb.heap.size, 0, none⟩) 2 2) [79, 82]) := lh (own_of_blk hbx rfl (Nat.le_refl _) (by omega)); have HP := lh (put16_any HB0.out c.next hn (by simp) hfx.size); refine sp 3 rfl rfl rfl fun K hK => ?_; refine wp_call_f (l := [.tmp 6, .tmp 8]) rfl [.slice (some ⟨wb.heap.size, 0, none⟩) 2 2, .int .i64 (c.next : Int)] rfl (enter_put16 _) (HP.out.mono ?_); rintro e w1 ⟨v1, rfl, ha1⟩; have hf1 : Fr [] wb w1 := hfx.trans ha1.fr (fun q hq => .inr (HB0.out.lt q (by simpa using hq)).1); have c0 := (HB.out.fr hf1 (by simp)).at_ (i := 0) rfl; have c1 := (HB.out.fr hf1 (by simp)).at_ (i := 1) rfl; refine ⟨_, rfl, hK _ _ (fun _ => ⟨c0, c1⟩) ?_⟩; simp only [nrm]; clear hK HP; have HP := lh (put16_any ha1.buf c.head hh (by simp [b16]) hf1.size); refine sp 6 rfl rfl rfl fun K hK => ?_; refine wp_call_f (l := [.tmp 9, .tmp 11]) rfl [v1, .int .i64 (c.head : Int)] rfl (enter_put16 _) (HP.out.mono ?_); rintro e w2 ⟨v2, rfl, ha2⟩; have hf2 : Fr [] wb w2 := hf1.trans ha2.fr (fun q hq => .inr (ha1.buf.lt q (by simpa using hq)).1); have c0 := (HB.out.fr hf2 (by simp)).at_ (i := 0) rfl; have c1 := (HB.out.fr hf2 (by simp)).at_ (i := 1) rfl; refine ⟨_, rfl, hK _ _ (fun _ => ⟨c0, c1⟩) ?_⟩; simp only [nrm]; clear hK HP; refine sp 7 rfl rfl rfl fun K hK => ?_; refine wp_run_same (v := ?aq1_7) ?yq1_7 (hK _ _ (fun _ => ⟨c0, c1⟩) ?_)
 case yq1_7 => go_simp <;> with_reducible rfl
 simp only [nrm]; refine wd ?_ _; have HBUF0 : Hid (Buf w2 wb.heap.size v2 (spaceK c 0)) := lh ha2.buf; have HF2 := lh hf2; clear c0 c1 ha1 ha2 hf1 hf2 hfx hbx HB0; have r0 := (HB.out.fr HF2.out (by simp)).at_ (i := 2) rfl; have r1 := (HB.out.fr HF2.out (by simp)).at_ (i := 3) rfl; have r2 := (HB.out.fr HF2.out (by simp)).at_ (i := 4) rfl; have r3 := (HB.out.fr HF2.out (by simp)).at_ (i := 5) rfl; have r4 := (HB.out.fr HF2.out (by simp)).at_ (i := 6) rfl; have r5 := (HB.out.fr HF2.out (by simp)).at_ (i := 7) rfl; have r6 := (HB.out.fr HF2.out (by simp)).at_ (i := 8) rfl; have r7 := (HB.out.fr HF2.out (by simp)).at_ (i := 9) rfl; go_wp2_with fail
 go_loopw [3, 15] (SpRel c wb) (fun _ v _ => 8 - (intOf v).toNat)
 case atStart => exact ⟨0, by omega, rfl, HBUF0.out, HF2.out⟩
 case round =>
  obtain ⟨k, hk, rfl, hbuf, hfr⟩ := hrel; have HBUF := lh hbuf; have HFR := lh hfr; clear hbuf hfr r0 r1 r2 r3 r4 r5 r6 r7
  by_cases hk8 : k < 8
  ·match k, hk8 with
   | 0, _ =>
    rw [show (((0 : Nat)) : Int) = (0 : Int) from rfl]; have hix : ∀ w, (Instr.index 78 (.agg #[.int .i64 (c.roots 0 : Int), .int .i64 (c.roots 1 : Int), .int .i64 (c.roots 2 : Int), .int .i64 (c.roots 3 : Int), .int .i64 (c.roots 4 : Int), .int .i64 (c.roots 5 : Int), .int .i64 (c.roots 6 : Int), .int .i64 (c.roots 7 : Int)]) (.int .i64 0)).run Tryz.prog w = .ok (.int .i64 (c.roots 0 : Int)) w := fun _ => by kernel_rfl
    have HP := lh (put16_any HBUF.out (c.roots 0) (hr 0) (by rw [spaceK_len]; omega) HFR.out.size); go_wp2_with fail; refine HP.out.mono ?_; rintro e w4 ⟨v4, rfl, hap⟩; have HX : Hid (SpRel c wb v4 (.int .i64 ((0 : Nat) + 1 : Nat)) w4) := lh ⟨0 + 1, by omega, rfl, hap.buf, HFR.out.trans hap.fr (fun q hq => .inr (HBUF.out.lt q (by simpa using hq)).1)⟩; clear hap HP; go_wp2_with fail
    go_roundw
    case rel => exact HX.out
    case measure => simp [intOf]
   | 1, _ =>
    rw [show (((1 : Nat)) : Int) = (1 : Int) from rfl]; have hix : ∀ w, (Instr.index 78 (.agg #[.int .i64 (c.roots 0 : Int), .int .i64 (c.roots 1 : Int), .int .i64 (c.roots 2 : Int), .int .i64 (c.roots 3 : Int), .int .i64 (c.roots 4 : Int), .int .i64 (c.roots 5 : Int), .int .i64 (c.roots 6 : Int), .int .i64 (c.roots 7 : Int)]) (.int .i64 1)).run Tryz.prog w = .ok (.int .i64 (c.roots 1 : Int)) w := fun _ => by kernel_rfl
    have HP := lh (put16_any HBUF.out (c.roots 1) (hr 1) (by rw [spaceK_len]; omega) HFR.out.size); go_wp2_with fail; refine HP.out.mono ?_; rintro e w4 ⟨v4, rfl, hap⟩; have HX : Hid (SpRel c wb v4 (.int .i64 ((1 : Nat) + 1 : Nat)) w4) := lh ⟨1 + 1, by omega, rfl, hap.buf, HFR.out.trans hap.fr (fun q hq => .inr (HBUF.out.lt q (by simpa using hq)).1)⟩; clear hap HP; go_wp2_with fail
    go_roundw
    case rel => exact HX.out
    case measure => simp [intOf]
   | 2, _ =>
    rw [show (((2 : Nat)) : Int) = (2 : Int) from rfl]; have hix : ∀ w, (Instr.index 78 (.agg #[.int .i64 (c.roots 0 : Int), .int .i64 (c.roots 1 : Int), .int .i64 (c.roots 2 : Int), .int .i64 (c.roots 3 : Int), .int .i64 (c.roots 4 : Int), .int .i64 (c.roots 5 : Int), .int .i64 (c.roots 6 : Int), .int .i64 (c.roots 7 : Int)]) (.int .i64 2)).run Tryz.prog w = .ok (.int .i64 (c.roots 2 : Int)) w := fun _ => by kernel_rfl
    have HP := lh (put16_any HBUF.out (c.roots 2) (hr 2) (by rw [spaceK_len]; omega) HFR.out.size); go_wp2_with fail; refine HP.out.mono ?_; rintro e w4 ⟨v4, rfl, hap⟩; have HX : Hid (SpRel c wb v4 (.int .i64 ((2 : Nat) + 1 : Nat)) w4) := lh ⟨2 + 1, by omega, rfl, hap.buf, HFR.out.trans hap.fr (fun q hq => .inr (HBUF.out.lt q (by simpa using hq)).1)⟩; clear hap HP; go_wp2_with fail
    go_roundw
    case rel => exact HX.out
    case measure => simp [intOf]
   | 3, _ =>
    rw [show (((3 : Nat)) : Int) = (3 : Int) from rfl]; have hix : ∀ w, (Instr.index 78 (.agg #[.int .i64 (c.roots 0 : Int), .int .i64 (c.roots 1 : Int), .int .i64 (c.roots 2 : Int), .int .i64 (c.roots 3 : Int), .int .i64 (c.roots 4 : Int), .int .i64 (c.roots 5 : Int), .int .i64 (c.roots 6 : Int), .int .i64 (c.roots 7 : Int)]) (.int .i64 3)).run Tryz.prog w = .ok (.int .i64 (c.roots 3 : Int)) w := fun _ => by kernel_rfl
    have HP := lh (put16_any HBUF.out (c.roots 3) (hr 3) (by rw [spaceK_len]; omega) HFR.out.size); go_wp2_with fail; refine HP.out.mono ?_; rintro e w4 ⟨v4, rfl, hap⟩; have HX : Hid (SpRel c wb v4 (.int .i64 ((3 : Nat) + 1 : Nat)) w4) := lh ⟨3 + 1, by omega, rfl, hap.buf, HFR.out.trans hap.fr (fun q hq => .inr (HBUF.out.lt q (by simpa using hq)).1)⟩; clear hap HP; go_wp2_with fail
    go_roundw
    case rel => exact HX.out
    case measure => simp [intOf]
   | 4, _ =>
    rw [show (((4 : Nat)) : Int) = (4 : Int) from rfl]; have hix : ∀ w, (Instr.index 78 (.agg #[.int .i64 (c.roots 0 : Int), .int .i64 (c.roots 1 : Int), .int .i64 (c.roots 2 : Int), .int .i64 (c.roots 3 : Int), .int .i64 (c.roots 4 : Int), .int .i64 (c.roots 5 : Int), .int .i64 (c.roots 6 : Int), .int .i64 (c.roots 7 : Int)]) (.int .i64 4)).run Tryz.prog w = .ok (.int .i64 (c.roots 4 : Int)) w := fun _ => by kernel_rfl
    have HP := lh (put16_any HBUF.out (c.roots 4) (hr 4) (by rw [spaceK_len]; omega) HFR.out.size); go_wp2_with fail; refine HP.out.mono ?_; rintro e w4 ⟨v4, rfl, hap⟩; have HX : Hid (SpRel c wb v4 (.int .i64 ((4 : Nat) + 1 : Nat)) w4) := lh ⟨4 + 1, by omega, rfl, hap.buf, HFR.out.trans hap.fr (fun q hq => .inr (HBUF.out.lt q (by simpa using hq)).1)⟩; clear hap HP; go_wp2_with fail
    go_roundw
    case rel => exact HX.out
    case measure => simp [intOf]
   | 5, _ =>
    rw [show (((5 : Nat)) : Int) = (5 : Int) from rfl]; have hix : ∀ w, (Instr.index 78 (.agg #[.int .i64 (c.roots 0 : Int), .int .i64 (c.roots 1 : Int), .int .i64 (c.roots 2 : Int), .int .i64 (c.roots 3 : Int), .int .i64 (c.roots 4 : Int), .int .i64 (c.roots 5 : Int), .int .i64 (c.roots 6 : Int), .int .i64 (c.roots 7 : Int)]) (.int .i64 5)).run Tryz.prog w = .ok (.int .i64 (c.roots 5 : Int)) w := fun _ => by kernel_rfl
    have HP := lh (put16_any HBUF.out (c.roots 5) (hr 5) (by rw [spaceK_len]; omega) HFR.out.size); go_wp2_with fail; refine HP.out.mono ?_; rintro e w4 ⟨v4, rfl, hap⟩; have HX : Hid (SpRel c wb v4 (.int .i64 ((5 : Nat) + 1 : Nat)) w4) := lh ⟨5 + 1, by omega, rfl, hap.buf, HFR.out.trans hap.fr (fun q hq => .inr (HBUF.out.lt q (by simpa using hq)).1)⟩; clear hap HP; go_wp2_with fail
    go_roundw
    case rel => exact HX.out
    case measure => simp [intOf]
   | 6, _ =>
    rw [show (((6 : Nat)) : Int) = (6 : Int) from rfl]; have hix : ∀ w, (Instr.index 78 (.agg #[.int .i64 (c.roots 0 : Int), .int .i64 (c.roots 1 : Int), .int .i64 (c.roots 2 : Int), .int .i64 (c.roots 3 : Int), .int .i64 (c.roots 4 : Int), .int .i64 (c.roots 5 : Int), .int .i64 (c.roots 6 : Int), .int .i64 (c.roots 7 : Int)]) (.int .i64 6)).run Tryz.prog w = .ok (.int .i64 (c.roots 6 : Int)) w := fun _ => by kernel_rfl
    have HP := lh (put16_any HBUF.out (c.roots 6) (hr 6) (by rw [spaceK_len]; omega) HFR.out.size); go_wp2_with fail; refine HP.out.mono ?_; rintro e w4 ⟨v4, rfl, hap⟩; have HX : Hid (SpRel c wb v4 (.int .i64 ((6 : Nat) + 1 : Nat)) w4) := lh ⟨6 + 1, by omega, rfl, hap.buf, HFR.out.trans hap.fr (fun q hq => .inr (HBUF.out.lt q (by simpa using hq)).1)⟩; clear hap HP; go_wp2_with fail
    go_roundw
    case rel => exact HX.out
    case measure => simp [intOf]
   | 7, _ =>
    rw [show (((7 : Nat)) : Int) = (7 : Int) from rfl]; have hix : ∀ w, (Instr.index 78 (.agg #[.int .i64 (c.roots 0 : Int), .int .i64 (c.roots 1 : Int), .int .i64 (c.roots 2 : Int), .int .i64 (c.roots 3 : Int), .int .i64 (c.roots 4 : Int), .int .i64 (c.roots 5 : Int), .int .i64 (c.roots 6 : Int), .int .i64 (c.roots 7 : Int)]) (.int .i64 7)).run Tryz.prog w = .ok (.int .i64 (c.roots 7 : Int)) w := fun _ => by kernel_rfl
    have HP := lh (put16_any HBUF.out (c.roots 7) (hr 7) (by rw [spaceK_len]; omega) HFR.out.size); go_wp2_with fail; refine HP.out.mono ?_; rintro e w4 ⟨v4, rfl, hap⟩; have HX : Hid (SpRel c wb v4 (.int .i64 ((7 : Nat) + 1 : Nat)) w4) := lh ⟨7 + 1, by omega, rfl, hap.buf, HFR.out.trans hap.fr (fun q hq => .inr (HBUF.out.lt q (by simpa using hq)).1)⟩; clear hap HP; go_wp2_with fail
    go_roundw
    case rel => exact HX.out
    case measure => simp [intOf]
  ·obtain rfl : k = 8 := by omega
   obtain ⟨gb, hgb, hgg⟩ := BytesAt.of_row rfl HBUF.out HFR.out.size; rw [spaceK_8] at hgb; have HX : Hid (R (.returned u3) wr) := lh (HQ.out _ _ ⟨_, rfl, ⟨gb, hgb, by have := HF0.out.size; omega⟩, HF0.out.trans HFR.out (by simp)⟩); clear hgb hgg; go_wp2_with fail; exact HX.out
def endM (s : PS) (m : List (Nat × Nd)) : PS := m.foldl (fun s p => s.write p.1 p.2.written) s
def endF (s : PS) (m : List (Nat × Nat)) : PS := m.foldl (fun s p => s.write p.1 (b16 p.2)) s
def endS (s : PS) (c : CD) : PS := (endF (endM s c.M) c.S).write 0 (spaceB c)
structure SameS (s s' : PS) : Prop where
 br : s'.br = s.br
 n : s'.n = s.n
 D : s'.D = s.D
 l : s'.l = s.l
 held : s'.held = s.held
theorem SameS.refl (s : PS) : SameS s s := ⟨rfl, rfl, rfl, rfl, rfl⟩
theorem SameS.write {s s' : PS} (h : SameS s s') (k : Nat) (b : List UInt8) : SameS s (s'.write k b) := ⟨h.br, h.n, h.D, h.l, h.held⟩
theorem SameS.calm {s s' : PS} (h : SameS s s') (hc : Calm s) : Calm s' := ⟨by rw [h.D]; exact hc.dead, by rw [h.D]; exact hc.pend, by have := hc.fit; rw [h.D, h.n, h.l] <;> exact this⟩
theorem page_write (s : PS) (k j : Nat) (b : List UInt8) : (s.write k b).page j = if j = k then pad512 b else s.page j := by
 unfold PS.page PS.write; simp only [getP_put]
 split <;> simp
theorem endM_same : ∀ (m : List (Nat × Nd)) {s s' : PS}, SameS s s' -> SameS s (endM s' m)
 | [], _, _, h => h
 | _ :: m, _, _, h => endM_same m (h.write _ _)
theorem endF_same : ∀ (m : List (Nat × Nat)) {s s' : PS}, SameS s s' -> SameS s (endF s' m)
 | [], _, _, h => h
 | _ :: m, _, _, h => endF_same m (h.write _ _)
theorem getA_first {α : Type} {p : Nat × α} {m : List (Nat × α)} (j : Nat) : getA (p :: m) j = if j = p.1 then some p.2 else getA m j := by
 unfold getA; rw [List.find?_cons]
 by_cases h : j = p.1
 ·rw [if_pos h, h]; simp
 ·rw [if_neg h]; have : ¬ p.1 = j := fun e => h e.symm
  simp [this]
theorem getA_none {α : Type} {m : List (Nat × α)} {j : Nat} (h : ∀ p ∈ m, j < p.1) : getA m j = none := by
 cases hg : getA m j with
 | none => rfl
 | some b => exact absurd (h _ (getA_mem hg)) (Nat.lt_irrefl _)
theorem endM_page : ∀ {m : List (Nat × Nd)} (s : PS) (j : Nat), RiseA m -> (endM s m).page j = match getA m j with | some n => pad512 n.written | none => s.page j
 | [], _, _, _ => rfl
 | p :: m, s, j, h => by
  obtain ⟨h1, h2⟩ := List.pairwise_cons.1 h
  show (endM (s.write p.1 p.2.written) m).page j = _
  rw [endM_page _ j h2, getA_first, page_write]
  by_cases hj : j = p.1
  ·rw [if_pos hj, getA_none (fun q hq => by rw [hj]; exact h1 q hq), if_pos hj]
  ·rw [if_neg hj, if_neg hj]
theorem endF_page : ∀ {m : List (Nat × Nat)} (s : PS) (j : Nat), RiseA m -> (endF s m).page j = match getA m j with | some n => pad512 (b16 n) | none => s.page j
 | [], _, _, _ => rfl
 | p :: m, s, j, h => by
  obtain ⟨h1, h2⟩ := List.pairwise_cons.1 h
  show (endF (s.write p.1 (b16 p.2)) m).page j = _
  rw [endF_page _ j h2, getA_first, page_write]
  by_cases hj : j = p.1
  ·rw [if_pos hj, getA_none (fun q hq => by rw [hj]; exact h1 q hq), if_pos hj]
  ·rw [if_neg hj, if_neg hj]
theorem endS_page {s : PS} {c : CD} (hM : RiseA c.M) (hS : RiseA c.S) (hp : c.pg = s.page) (j : Nat) : (endS s c).page j = endPg c j := by
 unfold endS endPg; rw [page_write]
 split
 ·rfl
 ·rw [endF_page _ j hS, endM_page _ j hM, hp]
  cases getA c.S j <;> rfl
theorem take_one {α : Type} {l : List α} {k : Nat} {x : α} (hx : l[k]? = some x) : l.take (k + 1) = l.take k ++ [x] := by rw [List.take_add_one, hx]; rfl
theorem endM_next {m : List (Nat × Nd)} {k : Nat} {p : Nat × Nd} (s : PS) (h : m[k]? = some p) : endM s (m.take (k + 1)) = (endM s (m.take k)).write p.1 p.2.written := by
 rw [take_one h]; unfold endM; rw [List.foldl_append]
 rfl
theorem endF_next {m : List (Nat × Nat)} {k : Nat} {p : Nat × Nat} (s : PS) (h : m[k]? = some p) : endF s (m.take (k + 1)) = (endF s (m.take k)).write p.1 (b16 p.2) := by
 rw [take_one h]; unfold endF; rw [List.foldl_append]
 rfl
theorem getA_at {α : Type} : ∀ {m : List (Nat × α)} {k : Nat} {p : Nat × α}, RiseA m -> m[k]? = some p -> getA m p.1 = some p.2
 | [], k, p, _, h => by simp at h
 | q :: m, 0, p, _, h => by
  simp only [List.getElem?_cons_zero, Option.some.injEq] at h; rw [getA_first, h, if_pos rfl]
 | q :: m, k + 1, p, hr, h => by
  obtain ⟨h1, h2⟩ := List.pairwise_cons.1 hr; simp only [List.getElem?_cons_succ] at h; have hm := h1 p (List.mem_of_getElem? h); rw [getA_first, if_neg (by omega), getA_at h2 h]
theorem exec_look {o : Oper} {a : Act} {w : World} {t : TypeId} {x y : Operand} {v vx vy : Value} (ho : o.op = .lookup t x y false) (hx : a.eval x = vx) (hy : a.eval y = vy) (h : (Instr.lookup t vx vy false).run Tryz.prog w = .ok v w) : (execOp a.eval o).run Tryz.prog w = .ok (.value v) w := by
 subst hx hy
 simp [execOp, ho, h, Result.andThen]
theorem enter_ndwritten (vs : Array Value) (w : World) : (callFunc 67 vs).run Tryz.prog w = .ok (.enter 67 vs) w := by kernel_rfl
theorem enter_spwritten (vs : Array Value) (w : World) : (callFunc 70 vs).run Tryz.prog w = .ok (.enter 70 vs) w := by kernel_rfl
theorem enter_pgwrite (vs : Array Value) (w : World) : (callFunc 66 vs).run Tryz.prog w = .ok (.enter 66 vs) w := by kernel_rfl
theorem Kp.more {Y : Nat -> Prop} {a b d : World} (h : Kp Y a b) (h' : Kp Y b d) : Kp Y a d := by
 obtain ⟨S, h1, h2⟩ := h; obtain ⟨T, h3, h4⟩ := h'; refine ⟨S ++ T, (h1.mono fun q hq => .inl (List.mem_append_left _ hq)).trans h3 fun q hq => .inl (List.mem_append_right _ hq), fun x hx => ?_⟩; rcases List.mem_append.1 hx with hx | hx
 ·exact h2 x hx
 ·exact h4 x hx
theorem Kp.less {X Y : Nat -> Prop} {a b : World} (h : Kp Y a b) (hx : ∀ q, X q -> Y q) : Kp X a b := by
 obtain ⟨S, h1, h2⟩ := h; exact ⟨S, h1, fun x hx' hX => h2 x hx' (hx x hX)⟩
theorem Kp.cell {Y : Nat -> Prop} {a b : World} (h : Kp Y a b) {q j : Nat} {v : Value} (hc : a.cell? ⟨q, j, none⟩ = some v) (hq : Y q) : b.cell? ⟨q, j, none⟩ = some v := by
 obtain ⟨S, h1, h2⟩ := h; exact fr_keepS h1 (fun hm => h2 _ hm hq) hc
def More (Y : Nat -> Prop) (w w' : World) : Nat -> Prop := fun q => Y q ∨ w.heap.size <= q /\ q < w'.heap.size
structure EndK (w0 : World) (g bc bn bs dk : Nat) (c : CD) (vs ss : List (Nat × Value)) (Y : Nat -> Prop) (s : PS) (w : World) : Prop where
 px : PgX w0 w dk g s Y
 blk : Blk w bc 84 (chC c g bn bs)
 nodes : VAt w bn vs
 spare : VAt w bs ss
 vals : Vals (fun v n => NdV (fun q => Y q ∨ w.heap.size <= q) w 0 v n) vs c.M
 yc : Y bc
 yn : Y bn
 ys : Y bs
section
variable {w0 wS w w1 w2 : World} {g bc bn bs dk : Nat} {Y D X : Nat -> Prop} {c : CD} {vs ss : List (Nat × Value)} {s s' : PS}
theorem EndK.keep (h : EndK w0 g bc bn bs dk c vs ss Y s w1) (hp : PgX w0 w2 dk g s' Y) (hk : Kp Y w1 w2) : EndK w0 g bc bn bs dk c vs ss Y s' w2 := by
 obtain ⟨S, hf, hS⟩ := hk; have hn : ∀ q, Y q -> q ∉ S := fun q hq hm => hS q hm hq; have hz := hf.size; refine ⟨hp, h.blk.fr hf (hn _ h.yc), h.nodes.fr hf (hn _ h.yn), h.spare.fr hf (hn _ h.ys), h.vals.mono fun v n k _ hv => ?_, h.yc, h.yn, h.ys⟩; have h1 : NdV (fun q => Y q ∨ w2.heap.size <= q) w1 0 v n := hv.re (fun q hq hl => .inl (by rcases hq with h | h; exact h; omega)) ⟨w2.heap.size, .inr (Nat.le_refl _), hz⟩
 exact h1.fr hf fun q hq hm => by
  rcases hq with hl | hl
  ·exact absurd hl (hS q hm)
  ·omega
theorem EndK.quiet (h : EndK w0 g bc bn bs dk c vs ss Y s w1) (hf : Fr [] w1 w2) : EndK w0 g bc bn bs dk c vs ss Y s w2 := h.keep (h.px.stay hf) (Kp.of hf)
theorem EndK.more (h : EndK w0 g bc bn bs dk c vs ss Y s w1) (hf : Fr [] w1 w2) : EndK w0 g bc bn bs dk c vs ss (More Y w1 w2) s w2 := by
 refine ⟨h.px.fr hf, h.blk.fr hf (by simp), h.nodes.fr hf (by simp), h.spare.fr hf (by simp), h.vals.mono fun v n k _ hv => ?_, .inl h.yc, .inl h.yn, .inl h.ys⟩; refine (hv.fr hf (by simp)).weak fun q hq => ?_; rcases hq with hq | hq
 ·exact .inl (.inl hq)
 ·rcases Nat.lt_or_ge q w2.heap.size with hl | hl
  ·exact .inl (.inr ⟨hq, hl⟩)
  ·exact .inr hl
theorem EndK.start (hp : PgC w0 wS dk g s X c) (h : ChAt wS w g bc bn bs D c) (hD : ∀ q, D q -> X q ∨ wS.heap.size <= q) : ∃ vs ss, EndK w0 g bc bn bs dk c vs ss (More X wS w) s w /\ Vals (fun v n => v = .int .i64 ((n : Nat) : Int)) ss c.S := by
 obtain ⟨vs, v1, v2⟩ := h.nodes; obtain ⟨ss, s1, s2⟩ := h.spare; refine ⟨vs, ss, ⟨hp.px.fr h.fr, h.blk, v1, s1, v2.mono fun v n k _ hv => ?_, .inr ⟨h.l1, h.blk.lt⟩, .inr ⟨h.l2, v1.lt⟩, .inr ⟨h.l3, s1.lt⟩⟩, s2⟩; refine hv.re (fun q hq hl => .inl ?_) ⟨w.heap.size, .inr (Nat.le_refl _), Nat.le_refl _⟩; rcases hD q hq with h1 | h1
 ·exact .inl h1
 ·exact .inr ⟨h1, hl⟩
theorem rise_vals {α : Type} {R : Value -> α -> Prop} {vs : List (Nat × Value)} {m : List (Nat × α)} (h : Vals R vs m) (hm : RiseA m) : RiseA vs := by
 have e := h.keys; have h1 : (m.map fun p => p.1).Pairwise (· < ·) := List.pairwise_map.2 hm; rw [<- e] at h1; exact List.pairwise_map.1 h1
theorem spC_at (c : CD) (g bn bs : Nat) {j : Nat} {v : Value} (h : (spC c)[j]? = some v) : (chC c g bn bs)[j]? = some v := by
 have hj : j < 10 := by
  have := (List.getElem?_eq_some_iff.1 h).1; exact this
 match j, hj with
 | 0, _ | 1, _ | 2, _ | 3, _ | 4, _ | 5, _ | 6, _ | 7, _ | 8, _ | 9, _ => exact h
/-- A change with an error is not laid down. -/
theorem end_err (h : ChAt wS w g bc bn bs D c) (he : c.e ≠ 0) : Calls Tryz.prog 35 #[.pointer (some ⟨bc, 0, none⟩)] w fun e w' => e = .returned (.int .i64 (c.e : Int)) /\ w = w' := by
 have c13 := h.blk.at_ (i := 13) rfl; have he' : ¬ ((c.e : Nat) : Int) = 0 := by omega
 refine calls_post fun R HQ => ?_; have HX := lh (HQ.out _ _ ⟨rfl, rfl⟩); have HE := lh he; clear he h
 go_enter Tryz.func35, Tryz.ntmps35
 go_wp2_with fail; exact HX.out
/-- A change laid down. -/
theorem end_ch (hp : PgC w0 wS dk g s X c) (h : ChAt wS w g bc bn bs D c) (hD : ∀ q, D q -> X q ∨ wS.heap.size <= q) (he : c.e = 0) (h0 : 0 < c.n) :
  Calls Tryz.prog 35 #[.pointer (some ⟨bc, 0, none⟩)] w fun e w' => e = .returned (.int .i64 0) /\ PgX w0 w' dk g (endS s c) X /\ Kp X w w' := by
 obtain ⟨vs, ss, hE, hss⟩ := EndK.start hp h hD; have hwf := h.wf; have hcn := hp.n; have hfm := hwf.fewM; have hfs := hwf.fewS; have hl1 := hE.vals.len; have hl2 := hss.len; have hr1 := rise_vals hE.vals hwf.rM; have hr2 := rise_vals hss hwf.rS; have hbr := hp.br; have c11 := hE.blk.at_ (i := 11) rfl; have c13 := hE.blk.at_ (i := 13) rfl; rw [he] at c13; have HWF := lh hwf; have HCN := lh hcn; have HE0 := lh hE; have HSS := lh hss; have HL1 := lh hl1; have HL2 := lh hl2; have HR1 := lh hr1; have HR2 := lh hr2; have HBR := lh hbr; have H0 := lh h0; have HN4 := lh hwf.n; have HFM := lh hfm; have HFS := lh hfs; clear hwf hcn hE hss hl1 hl2 hr1 hr2 hbr h0 he h hp hD hfm hfs; refine calls_post fun R HQ => ?_
 go_enter Tryz.func35, Tryz.ntmps35
 go_wp2_with fail; refine (keysN_any bn _).mono ?_; rintro e w1 ⟨rfl, hw1⟩; have HSO := lh (sortedN_any HE0.out.nodes HR1.out (by have := HL1.out; have := HFM.out; omega) w1 hw1); have HF1 : Hid (Fr [] w w1) := lh (by rw [hw1]; exact (Fr.refl [] w).alloc _); clear hw1 c11 c13; go_wp2_with fail; refine HSO.out.mono ?_; rintro e wE ⟨rv, rfl, hrow, hfE⟩; obtain ⟨A, ca, rfl, hca⟩ := own_shape hrow; have HROW := lh hrow; have HE1 := lh (HE0.out.more (HF1.out.trans hfE (by simp))); have HFE := lh (HF1.out.trans hfE (by simp)); clear hrow hfE HSO HE0; obtain ⟨Y1, hY1⟩ := nm (More (More X wS w) w wE); rw [<- hY1] at HE1; have HY1 := lh hY1; clear hY1; have hvl : vs.length = c.M.length := HL1.out; have HVL := lh hvl; clear hvl; go_wp2_with fail
 go_loopw [25] (fun v wr => ∃ k : Nat, k <= vs.length /\ v = .int .i64 (k : Int) /\ EndK w0 g bc bn bs dk c vs ss Y1 (endM s (c.M.take k)) wr /\ Kp Y1 wE wr) (fun v _ => vs.length - (intOf v).toNat)
 case atStart => exact ⟨0, Nat.zero_le _, rfl, HE1.out, Kp.of (Fr.refl _ _)⟩
 case round =>
  obtain ⟨k, hk, rfl, hek, hkp⟩ := hrel; have HKP := lh hkp; have HEK0 := lh hek; have HEK := lh (hek.quiet ((Fr.refl [] wr).drew)); clear hek hkp
  by_cases hkn : k < vs.length
  ·have hkM : k < c.M.length := by have := HVL.out; omega
   obtain ⟨p, hpk⟩ := gx hkM; obtain ⟨po1, po2, po3⟩ := HWF.out.mM p (List.mem_of_getElem? hpk); have hga := getA_at HWF.out.rM hpk
   obtain ⟨nv, hnv, hN⟩ : ∃ nv, getA vs p.1 = some nv /\ NdV (fun q => Y1 q ∨ wr.drew.heap.size <= q) wr.drew 0 nv p.2 := by
    rcases Vals.get p.1 HEK.out.vals with ⟨h1, _⟩ | ⟨n', v, h1, h2, h3⟩
    ·rw [hga] at h1; cases h1
    ·rw [hga] at h1; obtain rfl := Option.some.inj h1; exact ⟨v, h2, h3⟩
   obtain ⟨gr, hA, hcell⟩ := own_cell HROW.out (show 0 < vs.length by omega); have hgr : Y1 gr := by rw [HY1.out]; exact .inr ⟨by have := (HROW.out.lt gr (by rw [hA]; rfl)).1; have := HF1.out.size; omega, own_lt HROW.out _ (by rw [hA]; rfl)⟩
   have cr := HKP.out.cell (hcell k (.int .i64 (p.1 : Int)) (by
    have := HE1.out.vals.kcells; unfold kcellsA at this ⊢; rw [this, List.getElem?_map, hpk]; rfl)) hgr
   subst hA; have c10 := HEK.out.blk.at_ (i := 10) rfl; have c11 := HEK.out.blk.at_ (i := 11) rfl; have HNV := lh hnv; have HPK := lh hpk; have HPN := lh po1; have HWR := lh (written_nd hN po2 (by omega)); have HP3 := lh po3; have HNX := lh (endM_next s hpk); have hpb : p.1 <= 9223372036854775807 := by have := HN4.out; omega
   clear hcell hgr hga hN po2 po3 hpk hkM hnv po1; go_upto_region 6 with fail
   refine wp_region_K (fun W => W.cell? ⟨bc, 10, none⟩ = some (.pointer (some ⟨g, 0, none⟩)) /\ W.cell? ⟨bc, 11, none⟩ = some (.map (some bn)) /\ VAt W bn vs) [0, 1, 2, 3, 4, 5, 6, 7, 8, 9, 10] (by kernel_rfl) ?_; refine tks [0, 1, 2, 3, 4, 5, 6, 7, 8, 9] ?_
   iterate 10 (refine tk rfl rfl ⟨c10, c11, HEK.out.nodes⟩ rfl (fun _ hW => by (obtain ⟨q0, q1, _⟩ := hW; go_simp) <;> with_reducible rfl) ?_; simp only [nrm])
   refine tke ?_; refine tv 10 (nv) rfl rfl ⟨c10, c11, HEK.out.nodes⟩ (.inl ⟨rfl, fun W hW => exec_look rfl rfl rfl (by have := hW.2.2.look Tryz.underlying81 (zero_node W) (k := p.1) hpb; rw [HNV.out] at this; exact this)⟩) ?_; simp only [nrm]; refine sp 11 rfl rfl rfl fun K hK => ?_; refine wp_call_f (l := [.tmp 39]) rfl [nv] rfl (enter_ndwritten _) (HWR.out.mono ?_); rintro e w5 ⟨v5, rfl, ⟨g5, hb5, hz5⟩, hf5⟩; have HE5 := lh (HEK.out.quiet hf5); refine ⟨_, rfl, hK _ _ (fun _ => ⟨HE5.out.blk.at_ (i := 10) rfl, HE5.out.blk.at_ (i := 11) rfl, HE5.out.nodes⟩) ?_⟩; simp only [nrm]; clear hK; have HSM : Hid (SameS s (endM s (c.M.take k))) := lh (endM_same _ (SameS.refl s)); have HPW := lh (write_Y HE5.out.px (by rw [HSM.out.br]; exact HBR.out) p.1 (by rw [HSM.out.n, <- HCN.out]; exact HPN.out) v5 p.2.written g5 hb5 (by rw [Nd.written_len]; exact HP3.out)); refine sp 12 rfl rfl rfl fun K hK => ?_; refine wp_call_f (l := [.tmp 32, .tmp 33, .tmp 40]) rfl [.pointer (some ⟨g, 0, none⟩), .int .i64 (p.1 : Int), v5] rfl (enter_pgwrite _) (HPW.out.mono ?_); rintro e w6 ⟨rfl, hpx6, hkp6⟩; have HE6 := lh (HE5.out.keep hpx6 hkp6); refine ⟨_, rfl, hK _ _ (fun _ => ⟨HE6.out.blk.at_ (i := 10) rfl, HE6.out.blk.at_ (i := 11) rfl, HE6.out.nodes⟩) ?_⟩; simp only [nrm]; clear hK; refine sp 13 rfl rfl rfl fun K hK => ?_; refine wp_run_same (v := ?aq1_13) ?yq1_13 (hK _ _ (fun _ => ⟨HE6.out.blk.at_ (i := 10) rfl, HE6.out.blk.at_ (i := 11) rfl, HE6.out.nodes⟩) ?_)
   case yq1_13 => go_simp <;> with_reducible rfl
   simp only [nrm]; refine wd ?_ _; have HX : Hid (∃ j : Nat, j <= vs.length /\ Value.int .i64 ((k : Int) + 1) = .int .i64 (j : Int) /\ EndK w0 g bc bn bs dk c vs ss Y1 (endM s (c.M.take j)) w6 /\ Kp Y1 wE w6) := lh ⟨k + 1, hkn, rfl, by rw [HNX.out]; exact HE6.out, ((HKP.out.more (Kp.of ((Fr.refl [] wr).drew))).more (Kp.of hf5)).more hkp6⟩; clear c10 c11 cr HE5 HE6 hpx6 hkp6 hb5 hz5 hf5; have hw1 := wi k (by have := HFM.out; have := HVL.out; have := HN4.out; omega)
   go_wp2_with fail
   go_roundw
   case rel => exact HX.out
   case measure => simp [intOf]; omega
  ·obtain rfl : k = vs.length := by omega
   have HEQ : Hid (c.M.take vs.length = c.M) := lh (by rw [HVL.out]; exact List.take_length); clear HEK; have HEK := HEK0; clear HEK0; rw [HEQ.out] at HEK; have HF0' : Hid (SameS s (endM s c.M)) := lh (endM_same _ (SameS.refl s)); obtain ⟨s1, hs1⟩ := nm (endM s c.M); rw [<- hs1] at HEK HF0'; have HS1 := lh hs1; have hkpw : Kp (More X wS w) w wr := (Kp.of HFE.out).more (HKP.out.less fun q hq => by rw [HY1.out]; exact .inl hq); have HKW := lh hkpw; have HYY : Hid (∀ q, More X wS w q -> Y1 q) := lh (by rw [HY1.out]; exact fun q hq => .inl hq); clear hkpw hs1 HKP HE1 HROW; have c12 := HEK.out.blk.at_ (i := 12) rfl; go_wp2_with fail; refine (keysI_any bs _).mono ?_; rintro e w2 ⟨rfl, hw2⟩; have HSO := lh (sortedI_any HEK.out.spare HR2.out (by have := HL2.out; have := HFS.out; omega) w2 hw2); have HF2 : Hid (Fr [] wr w2) := lh (by rw [hw2]; exact (Fr.refl [] wr).alloc _); clear hw2 c12; go_wp2_with fail; refine HSO.out.mono ?_; rintro e wG ⟨rv2, rfl, hrow, hfG⟩; obtain ⟨A2, ca2, rfl, hca2⟩ := own_shape hrow; have HROW := lh hrow; have HE1 := lh (HEK.out.more (HF2.out.trans hfG (by simp))); have HKG : Hid (Kp (More X wS w) w wG) := lh (HKW.out.more (Kp.of (HF2.out.trans hfG (by simp)))); clear hrow hfG HSO HKW; obtain ⟨Y2, hY2⟩ := nm (More Y1 wr wG); rw [<- hY2] at HE1; have HY2 := lh hY2; have HYZ : Hid (∀ q, More X wS w q -> Y2 q) := lh (by rw [hY2]; exact fun q hq => .inl (HYY.out q hq)); clear hY2 HYY; have hsl : ss.length = c.S.length := HL2.out; have HSL := lh hsl; clear hsl HEK HY1 HVL; go_wp2_with fail
   go_loopw [53] (fun v wr => ∃ k : Nat, k <= ss.length /\ v = .int .i64 (k : Int) /\ EndK w0 g bc bn bs dk c vs ss Y2 (endF s1 (c.S.take k)) wr /\ Kp Y2 wG wr) (fun v _ => ss.length - (intOf v).toNat)
   case atStart => exact ⟨0, Nat.zero_le _, rfl, HE1.out, Kp.of (Fr.refl _ _)⟩
   case round =>
    obtain ⟨k, hk, rfl, hek, hkp⟩ := hrel; have HKP := lh hkp; have HEK0 := lh hek; have HEK := lh (hek.quiet ((Fr.refl [] wr).drew)); clear hek hkp
    by_cases hkn : k < ss.length
    ·have hkM : k < c.S.length := by have := HSL.out; omega
     obtain ⟨p, hpk⟩ := gx hkM; obtain ⟨po1, po2⟩ := HWF.out.mS p (List.mem_of_getElem? hpk); have hga := getA_at HWF.out.rS hpk
     have hnv : getA ss p.1 = some (.int .i64 (p.2 : Int)) := by
      rcases Vals.get p.1 HSS.out with ⟨h1, _⟩ | ⟨n', v, h1, h2, h3⟩
      ·rw [hga] at h1; cases h1
      ·rw [hga] at h1; obtain rfl := Option.some.inj h1; rw [h2, h3]
     obtain ⟨gr, hA, hcell⟩ := own_cell HROW.out (show 0 < ss.length by omega); have hgr : Y2 gr := by rw [HY2.out]; exact .inr ⟨by have := (HROW.out.lt gr (by rw [hA]; rfl)).1; have := HF2.out.size; omega, own_lt HROW.out _ (by rw [hA]; rfl)⟩
     have cr := HKP.out.cell (hcell k (.int .i64 (p.1 : Int)) (by
      have := HSS.out.kcells; unfold kcellsA at this ⊢; rw [this, List.getElem?_map, hpk]; rfl)) hgr
     subst hA; have c10 := HEK.out.blk.at_ (i := 10) rfl; have c12 := HEK.out.blk.at_ (i := 12) rfl; have HNV := lh hnv; have HPK := lh hpk; have HPN := lh po1; have hnil : Buf wr.drew wr.drew.heap.size (.slice none 0 0) [] := own_nil _ _ _ _; have HWR := lh (put16_any hnil p.2 po2 (by simp) (Nat.le_refl _)); have HNX := lh (endF_next s1 hpk); have hpb : p.1 <= 9223372036854775807 := by have := HN4.out; omega
     clear hcell hgr hga po2 hpk hkM hnv po1; go_upto_region 13 with fail
     refine wp_region_K (fun W => W.cell? ⟨bc, 10, none⟩ = some (.pointer (some ⟨g, 0, none⟩)) /\ W.cell? ⟨bc, 12, none⟩ = some (.map (some bs)) /\ VAt W bs ss) [0, 1, 2, 3, 4, 5, 6, 7, 8, 9, 10] (by kernel_rfl) ?_; refine tks [0, 1, 2, 3, 4, 5, 6, 7, 8, 9] ?_
     iterate 10 (refine tk rfl rfl ⟨c10, c12, HEK.out.spare⟩ rfl (fun _ hW => by (obtain ⟨q0, q1, _⟩ := hW; go_simp) <;> with_reducible rfl) ?_; simp only [nrm])
     refine tke ?_; refine tv 10 (.int .i64 (p.2 : Int)) rfl rfl ⟨c10, c12, HEK.out.spare⟩ (.inl ⟨rfl, fun W hW => exec_look rfl rfl rfl (by have := hW.2.2.look Tryz.underlying82 (zero_int W) (k := p.1) hpb; rw [HNV.out] at this; exact this)⟩) ?_; simp only [nrm]; refine sp 11 rfl rfl rfl fun K hK => ?_; refine wp_call_f (l := [.const (.slice none 0 0), .tmp 67]) rfl [.slice none 0 0, .int .i64 (p.2 : Int)] rfl (enter_put16 _) (HWR.out.mono ?_); rintro e w5 ⟨v5, rfl, hap⟩; have hf5 : Fr [] wr.drew w5 := hap.fr; obtain ⟨g5, hb5, hz5⟩ := BytesAt.of_row rfl hap.buf hf5.size; have HE5 := lh (HEK.out.quiet hf5); refine ⟨_, rfl, hK _ _ (fun _ => ⟨HE5.out.blk.at_ (i := 10) rfl, HE5.out.blk.at_ (i := 12) rfl, HE5.out.spare⟩) ?_⟩; simp only [nrm]; clear hK; have HSM : Hid (SameS s (endF s1 (c.S.take k))) := lh (endF_same _ HF0'.out); have HPW := lh (write_Y HE5.out.px (by rw [HSM.out.br]; exact HBR.out) p.1 (by rw [HSM.out.n, <- HCN.out]; exact HPN.out) v5 (b16 p.2) g5 hb5 (by show 2 <= 512; omega)); refine sp 12 rfl rfl rfl fun K hK => ?_; refine wp_call_f (l := [.tmp 60, .tmp 61, .tmp 68]) rfl [.pointer (some ⟨g, 0, none⟩), .int .i64 (p.1 : Int), v5] rfl (enter_pgwrite _) (HPW.out.mono ?_); rintro e w6 ⟨rfl, hpx6, hkp6⟩; have HE6 := lh (HE5.out.keep hpx6 hkp6); refine ⟨_, rfl, hK _ _ (fun _ => ⟨HE6.out.blk.at_ (i := 10) rfl, HE6.out.blk.at_ (i := 12) rfl, HE6.out.spare⟩) ?_⟩; simp only [nrm]; clear hK; refine sp 13 rfl rfl rfl fun K hK => ?_; refine wp_run_same (v := ?aq2_13) ?yq2_13 (hK _ _ (fun _ => ⟨HE6.out.blk.at_ (i := 10) rfl, HE6.out.blk.at_ (i := 12) rfl, HE6.out.spare⟩) ?_)
     case yq2_13 => go_simp <;> with_reducible rfl
     simp only [nrm]; refine wd ?_ _; have HX : Hid (∃ j : Nat, j <= ss.length /\ Value.int .i64 ((k : Int) + 1) = .int .i64 (j : Int) /\ EndK w0 g bc bn bs dk c vs ss Y2 (endF s1 (c.S.take j)) w6 /\ Kp Y2 wG w6) := lh ⟨k + 1, hkn, rfl, by rw [HNX.out]; exact HE6.out, ((HKP.out.more (Kp.of ((Fr.refl [] _).drew))).more (Kp.of hf5)).more hkp6⟩; clear c10 c12 cr HE5 HE6 hpx6 hkp6 hb5 hz5 hf5 hap; have hw1 := wi k (by have := HFS.out; have := HSL.out; have := HN4.out; omega)
     go_wp2_with fail
     go_roundw
     case rel => exact HX.out
     case measure => simp [intOf]; omega
    ·obtain rfl : k = ss.length := by omega
     have HEQ2 : Hid (c.S.take ss.length = c.S) := lh (by rw [HSL.out]; exact List.take_length); rw [HEQ2.out] at HEK; have HSM : Hid (SameS s (endF s1 c.S)) := lh (endF_same _ HF0'.out); have HKE := lh ((HKG.out.more (HKP.out.less HYZ.out)).more (Kp.of ((Fr.refl [] _).drew))); have c10 := HEK.out.blk.at_ (i := 10) rfl; have hnx := HWF.out.next; have hn4 := HN4.out; have HWS := fun W => written_sp c (w := W) (by omega) HWF.out.head HWF.out.roots; go_upto_region 17 with fail
     refine wp_region_K (fun W => W.cell? ⟨bc, 10, none⟩ = some (.pointer (some ⟨g, 0, none⟩)) /\ Blk W bc 84 (chC c g bn bs)) [0, 1, 2, 3, 4, 5, 6, 7] (by kernel_rfl) ?_; refine tks [0, 1, 2, 3, 4, 5, 6] ?_
     iterate 7 (refine tk rfl rfl ⟨c10, HEK.out.blk⟩ rfl (fun _ hW => by (obtain ⟨q0, _⟩ := hW; go_simp) <;> with_reducible rfl) ?_; simp only [nrm])
     refine tke ?_; refine tv 7 (.agg (spC c).toArray) rfl rfl ⟨c10, HEK.out.blk⟩ (yieldsIf_load_mid rfl 80 (.tmp 80) rfl bc 0 rfl (spC c) _ (fun W hW j v hj => by rw [Nat.zero_add]; exact hW.2.at_ (spC_at c g bn bs hj)) Tryz.underlying80 rfl (by kernel_rfl)) ?_; simp only [nrm]; refine sp 8 rfl rfl rfl fun K hK => ?_; refine wp_call_f (l := [.tmp 81]) rfl [.agg (spC c).toArray] rfl (enter_spwritten _) ((HWS _).mono ?_); rintro e w5 ⟨v5, rfl, ⟨g5, hb5, hz5⟩, hf5⟩; have HE5 := lh (HEK.out.quiet hf5); refine ⟨_, rfl, hK _ _ (fun _ => ⟨HE5.out.blk.at_ (i := 10) rfl, HE5.out.blk⟩) ?_⟩; simp only [nrm]; clear hK; have HPW := lh (write_Y HE5.out.px (by rw [HSM.out.br]; exact HBR.out) 0 (by rw [HSM.out.n, <- HCN.out]; exact H0.out) v5 (spaceB c) g5 hb5 (by rw [spaceB_len]; omega)); refine sp 9 rfl rfl rfl fun K hK => ?_; refine wp_call_f (l := [.tmp 77, .const (.int .i64 0), .tmp 82]) rfl [.pointer (some ⟨g, 0, none⟩), .int .i64 0, v5] rfl (enter_pgwrite _) (HPW.out.mono ?_); rintro e w6 ⟨rfl, hpx6, hkp6⟩; have HE6 := lh (HE5.out.keep hpx6 hkp6); refine ⟨_, rfl, hK _ _ (fun _ => ⟨HE6.out.blk.at_ (i := 10) rfl, HE6.out.blk⟩) ?_⟩; simp only [nrm]; clear hK; refine sp 10 rfl rfl rfl fun K hK => ?_; refine wp_run_same (v := ?aq3_10) ?yq3_10 (hK _ _ (fun _ => ⟨HE6.out.blk.at_ (i := 10) rfl, HE6.out.blk⟩) ?_)
     case yq3_10 => go_simp <;> with_reducible rfl
     simp only [nrm]; refine wd ?_ _
     have HX := lh (HQ.out _ _ ⟨rfl, (show PgX w0 w6 dk g (endS s c) X by
      unfold endS; rw [<- HS1.out]; exact HE6.out.px.weak fun q hq => HYZ.out q (.inl hq)), ((HKE.out.more (Kp.of hf5)).more (hkp6.less HYZ.out)).less fun q hq => .inl hq⟩)
     clear c10 HE5 HE6 hpx6 hkp6 hb5 hz5 hf5; go_wp2_with fail; exact HX.out
end
end
end Go.Proofs.YtpjbdpepofnleaaGreat
