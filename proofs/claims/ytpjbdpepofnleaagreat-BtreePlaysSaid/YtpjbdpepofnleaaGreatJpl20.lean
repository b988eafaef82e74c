/-
  Joined by join.py: Qf Qg Qh
-/
import Derived.Test.YtpjbdpepofnleaaGreatJpl19
set_option maxRecDepth 100000
set_option maxHeartbeats 32000000
namespace Go.Proofs.YtpjbdpepofnleaaGreat
section
open Go.RowKit Go.ChangeMaps Go.MapKept Go.Maps Go.Sort Go.Shelf
theorem tail1 {α : Type} {G : Prop} {H P : α -> Prop} (main : (∀ a, H a -> P a) -> G) (tail : ∀ a, H a -> P a) : G := main tail
theorem enter_with (vs : Array Value) (w : World) : (callFunc 125 vs).run Tryz.prog w = .ok (.enter 125 vs) w := by kernel_rfl
section
variable {w0 wS w w1 : World} {dk g bc bn bs : Nat} {s : PS} {X D : Nat -> Prop} {L : List LB} {N : List NP} {Kl : List Kq} {c c' : CD}
/-- Two nodes laid together, or divided anew. -/
theorem join_sx {A : Option Addr} {ca : Nat} {n : Nd} {cs : List Value} {k i : Nat} {u' : Ky × Nat} (hp : PgC w0 wS dk g s X c) (h : Sx wS w g bc bn bs D L (⟨A, ca, n, cs⟩ :: N) Kl c w1) (hW : JoinW c k n i c' u') (he : c.e = 0) (hfew : n.l.length <= 509) :
  Calls Tryz.prog 106 #[.pointer (some ⟨bc, 0, none⟩), .int .i64 (k : Int), .agg #[.int .i64 (kindOf n), .int .i64 (n.first : Int), .slice A n.l.length ca], .int .i64 (i : Int)] w1 fun e w' =>
   ∃ A' ca', e = .returned (.agg #[.slice A' u'.1.length ca', .int .i64 ((u'.2 : Nat) : Int)]) /\ Sx wS w g bc bn bs D L N (.by_ (.slice A' u'.1.length ca') u'.1 :: Kl) c' w' := by
 have hsame := hW.same; obtain ⟨a, b, y, m, hy, hNa, hNb, hab, rfl, mok, hW⟩ := hW; obtain ⟨hka, aok, asz⟩ := h.ch.wf.N_ok hNa; obtain ⟨hkb, bok, bsz⟩ := h.ch.wf.N_ok hNb; have hi : i < n.l.length := (List.getElem?_eq_some_iff.1 hy).1; have hai := items_few asz; have hbi := items_few bsz; obtain ⟨wb, hwb⟩ := nm ((w1.alloc (.cells #[.int .i64 (kindOf n), .int .i64 (n.first : Int), .slice A n.l.length ca] 88)).alloc (.cells zup.toArray 91)); have hf0 : Fr [] w1 wb := by rw [hwb]; exact ((Fr.refl [] w1).alloc _).alloc _
 obtain ⟨p6, hp6⟩ := nm (w1.heap.size); have hb6 : Blk wb p6 88 [.int .i64 (kindOf n), .int .i64 (n.first : Int), .slice A n.l.length ca] := by rw [hwb, hp6]; exact (Blk.new w1 _ [.int .i64 (kindOf n), .int .i64 (n.first : Int), .slice A n.l.length ca]).alloc _
 have hb8 : Blk wb (p6 + 1) 91 zup := by
  rw [hwb, hp6]; have := Blk.new (w1.alloc (.cells #[.int .i64 (kindOf n), .int .i64 (n.first : Int), .slice A n.l.length ca] 88)) 91 zup
  rwa [World.size_alloc] at this
 have S1 := lh (h.new (L' := [(p6, 88, [.int .i64 (kindOf n), .int .i64 (n.first : Int), .slice A n.l.length ca]), (p6 + 1, 91, zup)]) hf0 (fun l hl => by
  rcases List.mem_cons.1 hl with rfl | hl
  ·exact ⟨hb6, by simp only; omega⟩
  ·obtain rfl := List.mem_singleton.1 hl; exact ⟨hb8, by simp only; omega⟩) (by simp))
 have HP := lh hp; have HE := lh he; have HW := lh hW; have HFEW := lh hfew; have HSAME := lh hsame; have HNA := lh hNa; have HNB := lh hNb; have HAB := lh hab; have HY := lh hy; have HMOK := lh mok; have HAI := lh hai; have HBI := lh hbi; have HKA := lh hka; have HKB := lh hkb; clear h hf0 hb6 hb8 hp he hW hsame hNa hNb hab hy mok hai hbi hka hkb aok bok asz bsz; have hw1 := wi i (by omega)
 have hi1 : ((i : Nat) : Int) < ((n.l.length : Nat) : Int) := by omega
 refine calls_post fun R HQ => ?_
 go_enter Tryz.func106, Tryz.ntmps106
 go_upto_region 1 with (with_reducible refine wpList_alloc_z rfl 91 rfl (.agg #[.slice none 0 0, .int .i64 0]) zup.toArray zero_up rfl ?_)
 rw [<- hwb]; have hz2 : (w1.alloc (.cells #[.int .i64 (kindOf n), .int .i64 (n.first : Int), .slice A n.l.length ca] 88)).heap.size = w1.heap.size + 1 := by rw [World.size_alloc]
 rw [hz2, <- hp6]; clear hwb hz2 hp6; have z0 := (S1.out.loc _ (.head _)).1.at_ (i := 0) rfl; have z1 := (S1.out.loc _ (.head _)).1.at_ (i := 1) rfl; have z2 := (S1.out.loc _ (.head _)).1.at_ (i := 2) rfl; have S2 := lh (S1.out.quiet ((Fr.refl [] wb).drew)); clear S1
 apply tail1 (H := fun W => Hid (Sx wS w g bc bn bs D ((p6, 88, [.int .i64 (kindOf n), .int .i64 (n.first : Int), .slice A n.l.length ca]) :: (p6 + 1, 91, zup) :: L) (⟨A, ca, n, cs⟩ :: N) Kl c W))
 case main =>
  intro TAIL; refine wp_region_K (fun W => W.cell? ⟨p6, 0, none⟩ = some (.int .i64 (kindOf n)) /\ W.cell? ⟨p6, 1, none⟩ = some (.int .i64 (n.first : Int)) /\ W.cell? ⟨p6, 2, none⟩ = some (.slice A n.l.length ca)) [0, 1, 3, 4, 5] (by kernel_rfl) ?_; refine tks [0, 1, 3, 4, 5] ?_
  iterate 5 (refine tk rfl rfl ⟨z0, z1, z2⟩ rfl (fun _ hW => by (obtain ⟨q0, q1, q2⟩ := hW; go_simp) <;> with_reducible rfl) ?_; simp only [nrm])
  refine tke ?_; refine sp 2 rfl rfl rfl fun K hK => ?_; refine wp_call_f (l := [.tmp 19, .tmp 20]) rfl [.agg #[.int .i64 (kindOf n), .int .i64 (n.first : Int), .slice A n.l.length ca], .int .i64 ((i : Int))] rfl (enter_child _) ((child_nd (k := i) (S2.out.bytes (.head _)) (by omega) (by have := HFEW.out; omega)).mono ?_); rintro e w13 ⟨rfl, hf13⟩
  replace z0 := fr_keep hf13 z0
  replace z1 := fr_keep hf13 z1
  replace z2 := fr_keep hf13 z2
  refine ⟨_, rfl, hK _ _ (fun _ => ⟨z0, z1, z2⟩) ?_⟩; simp only [nrm]; have S3 := lh (S2.out.quiet hf13); clear hK hf13; refine sp 6 rfl rfl rfl fun K hK => ?_; refine wp_call_f (l := [.tmp 22, .tmp 24]) rfl [.agg #[.int .i64 (kindOf n), .int .i64 (n.first : Int), .slice A n.l.length ca], .int .i64 ((i : Int) + 1)] rfl (enter_child _) ((child_nd (k := i + 1) (S3.out.bytes (.head _)) (by omega) (by have := HFEW.out; omega)).mono ?_); rintro e w13 ⟨rfl, hf13⟩
  replace z0 := fr_keep hf13 z0
  replace z1 := fr_keep hf13 z1
  replace z2 := fr_keep hf13 z2
  refine ⟨_, rfl, hK _ _ (fun _ => ⟨z0, z1, z2⟩) ?_⟩; simp only [nrm]; have S4 := lh (S3.out.quiet hf13); clear hK hf13; refine sp 7 rfl rfl rfl fun K hK => ?_; refine wp_run_same (v := ?aq1_7) ?yq1_7 (hK _ _ (fun _ => ⟨z0, z1, z2⟩) ?_)
  case yq1_7 => go_simp <;> with_reducible rfl
  simp only [nrm]; refine sp 8 rfl rfl rfl fun K hK => ?_; refine wp_run_same (v := ?aq1_8) ?yq1_8 (hK _ _ (fun _ => ⟨z0, z1, z2⟩) ?_)
  case yq1_8 => go_simp <;> with_reducible rfl
  simp only [nrm]; refine wd ?_ _; exact TAIL _ S4
 intro w2 S3; clear S2 z0 z1 z2 hw1; have HNC := lh (node_ch HP.out S3.out.ch HNA.out S3.out.offD); go_wp2_with fail; refine HNC.out.mono ?_; rintro e w3 ⟨nv, rfl, hnv, hf3⟩; obtain ⟨A1, c1, rfl, S4'⟩ := S3.out.node_r hf3 hnv; have S4 := lh S4'; clear hnv hf3 S4' S3 HNC
 go_wp2_with (first
  | (with_reducible refine wpList_alloc_z rfl 88 rfl (.agg #[.int .i64 0, .int .i64 0, .slice none 0 0]) znd.toArray zero_nd rfl ?_)
  | (refine wpList_store_z (W := w3) rfl 88 (.tmp 11) (.tmp 30) rfl [.int .i64 (kindOf a), .int .i64 (a.first : Int), .slice A1 a.l.length c1] rfl rfl rfl size_nd rfl three_cells ?_))
 intro w4 hb4 hf4 hz4; obtain ⟨p11, hp11⟩ := nm (w3.heap.size); rw [<- hp11] at hb4 ⊢; have S5 := lh (S4.out.new1 hf4 hb4 (by omega)); clear hf4 hb4 hz4 hp11 S4; have HNC := lh (node_ch HP.out S5.out.ch HNB.out S5.out.offD); go_wp2_with fail; refine HNC.out.mono ?_; rintro e w5 ⟨nv, rfl, hnv, hf5⟩; obtain ⟨A2, c2, rfl, S6'⟩ := S5.out.node_r hf5 hnv; have S6 := lh S6'; clear hnv hf5 S6' S5 HNC
 go_wp2_with (first
  | (with_reducible refine wpList_alloc_z rfl 88 rfl (.agg #[.int .i64 0, .int .i64 0, .slice none 0 0]) znd.toArray zero_nd rfl ?_)
  | (refine wpList_store_z (W := w5) rfl 88 (.tmp 13) (.tmp 36) rfl [.int .i64 (kindOf b), .int .i64 (b.first : Int), .slice A2 b.l.length c2] rfl rfl rfl size_nd rfl three_cells ?_))
 intro w6 hb6 hf6 hz6; obtain ⟨p13, hp13⟩ := nm (w5.heap.size); rw [<- hp13] at hb6 ⊢; have S7 := lh (S6.out.new1 hf6 hb6 (by omega)); clear hf6 hb6 hz6 hp13 S6; have hd : decide (c.e ≠ 0) = false := by rw [HE.out]; rfl
 have HD0 := lh hd; clear hd; go_wp2_with fail; refine (fail_ch S7.out.ch 0).mono ?_; rintro e w7 ⟨rfl, hc7, hf7, hz7⟩; rw [fail_zero HE.out] at hc7 ⊢; rw [HD0.out]; have S8 := lh (S7.out.call hf7 (by simp) hc7); clear hc7 hf7 hz7 S7; go_wp2_with fail; refine (fail_ch S8.out.ch 0).mono ?_; rintro e w8 ⟨rfl, hc8, hf8, hz8⟩; rw [fail_zero HE.out] at hc8 ⊢; rw [HD0.out]; have S9 := lh (S8.out.call hf8 (by simp) hc8); clear hc8 hf8 hz8 S8; obtain ⟨qr, hA, hcell⟩ := own_cell (S9.out.row' (.head _)) (show 0 < n.l.length by omega); subst hA; obtain ⟨kv1, vv1, av1, k1, k2, k3, ⟨gy, hgy, hgo⟩, _, _⟩ := (S9.out.its' (.head _)).at_ HY.out; obtain ⟨Ay, cy, rfl⟩ : ∃ A c, kv1 = .slice A y.key.length c := by obtain ⟨A, c, _, h, _⟩ := hgy; exact ⟨A, c, h⟩
 have cr := hcell _ _ k1; have S10 := lh ((S9.out.quiet ((Fr.refl [] w8).drew)).key (v := .slice Ay y.key.length cy) (b := y.key) ⟨gy, hgy.fr ((Fr.refl [] w8).drew) (by simp), hgo⟩); clear hcell k1 k2 k3 hgy hgo S9; have y0 := (S10.out.loc _ (.tail _ (.head _))).1.at_ (i := 0) rfl; have y1 := (S10.out.loc _ (.tail _ (.head _))).1.at_ (i := 1) rfl; have y2 := (S10.out.loc _ (.tail _ (.head _))).1.at_ (i := 2) rfl; have z2 := (S10.out.loc _ (.tail _ (.tail _ (.head _)))).1.at_ (i := 2) rfl; have r0 := (S10.out.loc _ (.head _)).1.at_ (i := 0) rfl; have r1 := (S10.out.loc _ (.head _)).1.at_ (i := 1) rfl; have r2 := (S10.out.loc _ (.head _)).1.at_ (i := 2) rfl; obtain ⟨m, hm⟩ := nm (a.with_ y.key b); rw [<- hm] at HW HMOK; have HM := lh hm; clear hm; go_upto_region 6 with fail
 apply tail4 (H := fun p15 Am cm W => Hid (Sx wS w g bc bn bs D ((p15, 88, [.int .i64 (kindOf m), .int .i64 (m.first : Int), .slice Am m.l.length cm]) :: (p6, 88, [.int .i64 (kindOf n), .int .i64 (n.first : Int), .slice (some ⟨qr, 0, none⟩) n.l.length ca]) :: (p6 + 1, 91, zup) :: L) (⟨some ⟨qr, 0, none⟩, ca, n, cs⟩ :: N) (.nd (.agg #[.int .i64 (kindOf m), .int .i64 (m.first : Int), .slice Am m.l.length cm]) m :: Kl) c W))
 case main =>
  intro TAIL; refine wp_region_K (fun W => W.cell? ⟨p11, 0, none⟩ = some (.int .i64 (kindOf a)) /\ W.cell? ⟨p11, 1, none⟩ = some (.int .i64 (a.first : Int)) /\ W.cell? ⟨p11, 2, none⟩ = some (.slice A1 a.l.length c1) /\ W.cell? ⟨p6, 2, none⟩ = some (.slice (some ⟨qr, 0, none⟩) n.l.length ca) /\ W.cell? ⟨qr, i * 3, none⟩ = some (.slice Ay y.key.length cy) /\ W.cell? ⟨p13, 0, none⟩ = some (.int .i64 (kindOf b)) /\ W.cell? ⟨p13, 1, none⟩ = some (.int .i64 (b.first : Int)) /\ W.cell? ⟨p13, 2, none⟩ = some (.slice A2 b.l.length c2)) [0, 1, 2, 3, 4, 5, 6, 7, 8] (by kernel_rfl) ?_; refine tks [0, 1, 2, 3, 4, 5, 6, 7, 8] ?_
  iterate 9 (refine tk rfl rfl ⟨y0, y1, y2, z2, cr, r0, r1, r2⟩ rfl (fun _ hW => by (obtain ⟨q0, q1, q2, q3, q4, q5, q6, q7⟩ := hW; go_simp) <;> with_reducible rfl) ?_; simp only [nrm])
  refine tke ?_; refine wpAnyK_two (i := 9) (j := 10) (some 56) (some 15) rfl rfl rfl rfl (by kernel_rfl) rfl rfl (fun K hK => ?_) (fun K hK => ?_)
  ·
   refine wp_call_f (l := [.tmp 47, .tmp 54, .tmp 55]) rfl [.agg #[.int .i64 (kindOf a), .int .i64 (a.first : Int), .slice A1 a.l.length c1], .slice Ay y.key.length cy, .agg #[.int .i64 (kindOf b), .int .i64 (b.first : Int), .slice A2 b.l.length c2]] rfl (enter_with _) ((with_nd (key := y.key) (S10.out.kn (n := a) (by simp)) (S10.out.kn (n := b) (by simp)) (S10.out.kb (b := y.key) (by simp)).choose_spec.1 (S10.out.kb (b := y.key) (by simp)).choose_spec.2 HAB.out (by have := HAI.out; omega) (by have := HBI.out; omega) S10.out.offD).mono ?_); rintro e w9 ⟨ov, rfl, hov, hf9⟩; rw [<- HM.out] at hov; obtain ⟨Am, cm, rfl, S11'⟩ := S10.out.node_r hf9 hov
   replace y0 := fr_keep hf9 y0
   replace y1 := fr_keep hf9 y1
   replace y2 := fr_keep hf9 y2
   replace z2 := fr_keep hf9 z2
   replace cr := fr_keep hf9 cr
   replace r0 := fr_keep hf9 r0
   replace r1 := fr_keep hf9 r1
   replace r2 := fr_keep hf9 r2
   refine ⟨_, rfl, hK _ _ (fun _ => ⟨y0, y1, y2, z2, cr, r0, r1, r2⟩) ?_⟩; simp only [nrm]; have S11 := lh S11'; clear hK hf9 hov S11'; refine sp 10 rfl rfl rfl fun K hK => ?_; refine wp_alloc_blk 88 rfl (.agg #[.int .i64 0, .int .i64 0, .slice none 0 0]) znd zero_nd rfl fun w15 hb15 hf15 hz15 => ?_
   replace y0 := fr_keep hf15 y0
   replace y1 := fr_keep hf15 y1
   replace y2 := fr_keep hf15 y2
   replace z2 := fr_keep hf15 z2
   replace cr := fr_keep hf15 cr
   replace r0 := fr_keep hf15 r0
   replace r1 := fr_keep hf15 r1
   replace r2 := fr_keep hf15 r2
   refine hK _ _ (fun _ => ⟨y0, y1, y2, z2, cr, r0, r1, r2⟩) ?_; simp only [nrm]; clear hK; obtain ⟨p15, hp15⟩ := nm (w9.heap.size); rw [<- hp15] at hb15 ⊢; have S12 := lh (S11.out.new1 hf15 hb15 (Nat.le_of_eq hp15.symm)); clear hb15 hf15 hz15 hp15; have hb15 := (S12.out.loc _ (.head _)).1; refine wpAnyK_step (j := 11) none rfl rfl (by kernel_rfl) rfl fun K hK => ?_; refine wp_store_blk 88 (.tmp 15) (.tmp 56) rfl [.int .i64 (kindOf m), .int .i64 (m.first : Int), .slice Am m.l.length cm] rfl rfl hb15 size_nd rfl three_cells fun w16 hb16 hf16 hz16 => hK _ _ (fun h => absurd h (by decide +kernel)) ?_; simp only [Act.put]; clear hK; refine wd ?_ _; exact TAIL p15 Am cm w16 (lh ((S12.out.set_ hf16 hb16).less (.cons_cons _ (.cons _ (.cons _ (List.Sublist.refl _)))) (List.Sublist.refl _) fun k hk => by simp only [List.mem_cons] at hk ⊢; rcases hk with h | h <;> simp [h]))
  ·
   refine wp_alloc_blk 88 rfl (.agg #[.int .i64 0, .int .i64 0, .slice none 0 0]) znd zero_nd rfl fun w15 hb15 hf15 hz15 => ?_
   replace y0 := fr_keep hf15 y0
   replace y1 := fr_keep hf15 y1
   replace y2 := fr_keep hf15 y2
   replace z2 := fr_keep hf15 z2
   replace cr := fr_keep hf15 cr
   replace r0 := fr_keep hf15 r0
   replace r1 := fr_keep hf15 r1
   replace r2 := fr_keep hf15 r2
   refine hK _ _ (fun _ => ⟨y0, y1, y2, z2, cr, r0, r1, r2⟩) ?_; simp only [nrm]; clear hK; obtain ⟨p15, hp15⟩ := nm (w8.drew.heap.size); rw [<- hp15] at hb15 ⊢; have S11 := lh (S10.out.new1 hf15 hb15 (Nat.le_of_eq hp15.symm)); clear hb15 hf15 hz15 hp15; refine sp 9 rfl rfl rfl fun K hK => ?_; refine wp_call_f (l := [.tmp 47, .tmp 54, .tmp 55]) rfl [.agg #[.int .i64 (kindOf a), .int .i64 (a.first : Int), .slice A1 a.l.length c1], .slice Ay y.key.length cy, .agg #[.int .i64 (kindOf b), .int .i64 (b.first : Int), .slice A2 b.l.length c2]] rfl (enter_with _) ((with_nd (key := y.key) (S11.out.kn (n := a) (by simp)) (S11.out.kn (n := b) (by simp)) (S11.out.kb (b := y.key) (by simp)).choose_spec.1 (S11.out.kb (b := y.key) (by simp)).choose_spec.2 HAB.out (by have := HAI.out; omega) (by have := HBI.out; omega) S11.out.offD).mono ?_); rintro e w9 ⟨ov, rfl, hov, hf9⟩; rw [<- HM.out] at hov; obtain ⟨Am, cm, rfl, S12'⟩ := S11.out.node_r hf9 hov
   replace y0 := fr_keep hf9 y0
   replace y1 := fr_keep hf9 y1
   replace y2 := fr_keep hf9 y2
   replace z2 := fr_keep hf9 z2
   replace cr := fr_keep hf9 cr
   replace r0 := fr_keep hf9 r0
   replace r1 := fr_keep hf9 r1
   replace r2 := fr_keep hf9 r2
   refine ⟨_, rfl, hK _ _ (fun _ => ⟨y0, y1, y2, z2, cr, r0, r1, r2⟩) ?_⟩; simp only [nrm]; have S12 := lh S12'; clear hK hf9 hov S12'; have hb15 := (S12.out.loc _ (.head _)).1; refine wpAnyK_step (j := 11) none rfl rfl (by kernel_rfl) rfl fun K hK => ?_; refine wp_store_blk 88 (.tmp 15) (.tmp 56) rfl [.int .i64 (kindOf m), .int .i64 (m.first : Int), .slice Am m.l.length cm] rfl rfl hb15 size_nd rfl three_cells fun w16 hb16 hf16 hz16 => hK _ _ (fun h => absurd h (by decide +kernel)) ?_; simp only [Act.put]; clear hK; refine wd ?_ _; exact TAIL p15 Am cm w16 (lh ((S12.out.set_ hf16 hb16).less (.cons_cons _ (.cons _ (.cons _ (List.Sublist.refl _)))) (List.Sublist.refl _) fun k hk => by simp only [List.mem_cons] at hk ⊢; rcases hk with h | h <;> simp [h]))
 intro p15 Am cm w10 S11; clear S10 y0 y1 y2 z2 r0 r1 r2 cr; have d0 := (S11.out.loc _ (.head _)).1.at_ (i := 0) rfl; have d1 := (S11.out.loc _ (.head _)).1.at_ (i := 1) rfl; have d2 := (S11.out.loc _ (.head _)).1.at_ (i := 2) rfl; have hml : m.l.length <= 65535 := by have := HMOK.out.few; omega
 have hmz : m.size <= 65536 := by
  rcases HW.out with ⟨h1, _⟩ | ⟨_, h1, _⟩
  ·omega
  ·split at h1 <;> omega
 have HSF := lh (size_fn (S11.out.kn (.head _)) HMOK.out hmz); have HMZ := lh hmz; clear hml hmz; go_wp2_with fail; refine HSF.out.mono ?_; rintro e w11 ⟨rfl, hf11⟩; have S12 := lh (S11.out.quiet hf11); clear hf11 S11 d0 d1 d2 HSF; have d0 := (S12.out.loc _ (.head _)).1.at_ (i := 0) rfl; have d1 := (S12.out.loc _ (.head _)).1.at_ (i := 1) rfl; have d2 := (S12.out.loc _ (.head _)).1.at_ (i := 2) rfl; have hn6i := wi i (by omega)
 rcases HW.out with ⟨hs, hLO, hcu⟩ | ⟨hs, hs2, hLO, hcu⟩
 ·have hsx : ((m.size : Nat) : Int) <= 512 := by omega
  have hcu1 := congrArg Prod.fst hcu; have hcu2 := congrArg Prod.snd hcu
  simp only at hcu1 hcu2
  subst hcu1 hcu2; have HLO := lh hLO; have HWR := lh (write_ch S12.out.ch (S12.out.kn (.head _)) HKA.out HMOK.out hs); clear hLO hcu hs; go_wp2_with fail; refine HWR.out.mono ?_; rintro e w12 ⟨rfl, hc12, hf12⟩; have S13 := lh (S12.out.call hf12 (fun q hq => by simp only [List.mem_cons, List.not_mem_nil, or_false] at hq; omega) hc12); clear hc12 hf12 HWR S12 d0 d1 d2; have HFREE := lh (free_ch S13.out.ch (k := n.child (i + 1)) HKB.out); go_wp2_with fail; refine HFREE.out.mono ?_; rintro e w13 ⟨rfl, hc13, hf13⟩; have S14 := lh ((S13.out.call hf13 (by simp) hc13).less (L' := _) (K' := Kl) (.cons _ (List.Sublist.refl _)) (List.Sublist.refl _) fun k hk => by simp [hk]); clear hc13 hf13 HFREE S13; have d2 := (S14.out.loc _ (.head _)).1.at_ (i := 2) rfl; have HDL := lh (items_delete (S14.out.row' (.head _)) (S14.out.its' (.head _)).one (by have := HFEW.out; omega) hi); go_wp2_with fail; refine HDL.out.mono ?_; rintro e w14 ⟨sv', rfl, ho', hq', hf'⟩; obtain ⟨A', ca', rfl, S15'⟩ := S14.out.del hi ho' hq' hf'; have S15 := lh S15'; have d2' := (S15.out.loc _ (.head _)).1.at_ (i := 2) rfl; have dfz := (S15.out.loc _ (.head _)).1.free 2; have dlt := (S15.out.loc _ (.head _)).1.lt; have S16 := lh (S15.out.set_ (cs := [.int .i64 (kindOf n), .int .i64 (n.first : Int), .slice A' (n.l.length - 1) ca']) ((Fr.refl [p6] w14).setCell (.inl (by simp)) _) ((S15.out.loc _ (.head _)).1.set_ 2 (.slice A' (n.l.length - 1) ca'))); clear S14 S15' S15 ho' hq' hf' HDL d2; have hln : (delAt n.l i).length = n.l.length - 1 := delAt_len _ hi; go_upto_region 15 with fail
  generalize w14.setCell ⟨p6, 2, none⟩ (.slice A' (n.l.length - 1) ca') = w15 at *; clear d2' dfz dlt
  have HND : Hid (NdV _ w15 w.heap.size (.agg #[.int .i64 (kindOf n), .int .i64 (n.first : Int), .slice A' (n.l.length - 1) ca']) { n with l := delAt n.l i }) := lh (by
   have := S16.out.give.2.1; simp only [hln] at this; exact this)
  have HP1 := lh (HP.out.to (c' := (c.write (n.child i) m).free (n.child (i + 1))) ⟨rfl, rfl⟩); clear hln; have d0 := (S16.out.loc _ (.head _)).1.at_ (i := 0) rfl; have d1 := (S16.out.loc _ (.head _)).1.at_ (i := 1) rfl; have d2 := (S16.out.loc _ (.head _)).1.at_ (i := 2) rfl; have HLA := lh (lay_ch HP1.out S16.out.give.1 HND.out HLO.out.k HLO.out.ok HLO.out.size HLO.out.e HLO.out.head S16.out.give.2.2); go_wp2_with fail; refine HLA.out.mono ?_; rintro e wl ⟨uv, rfl, huv, hcl, hfl⟩; obtain ⟨Au, cu, rfl, hbu⟩ := huv.open_; have SL := lh ((((S16.out.less (N' := N) (K' := Kl) (List.Sublist.refl _) (List.sublist_cons_self ..) fun k hk => by simp [hk]).call hfl (by simp) hcl).key hbu).perm (List.Perm.swap _ _ _)); have HBR := lh (SL.out.loc _ (.head _)).1; clear hbu hfl huv hcl d0 d1 d2 HLA
  go_wp2_with (refine wpL_store rfl 91 (.tmp 8) (.tmp 98) rfl [.slice Au _ cu, .int .i64 _] rfl rfl HBR.out size_up rfl two_cells ?_)
  intro we hbe hfe hze; have HX := lh (HQ.out _ _ ⟨_, _, rfl, (SL.out.set_ hfe hbe).less (L' := L) (.cons _ (.cons _ (List.Sublist.refl _))) (List.Sublist.refl _) fun _ h => h⟩); have HBE := lh hbe; clear hbe hfe hze; go_wp2_with fail; exact ret_blk (g := p6 + 1) (t' := 91) (cs := [.slice Au _ cu, .int .i64 _]) (d := _) rfl rfl HBE.out Tryz.underlying91 rfl size_up HX.out
 ·have hsx : ¬ ((m.size : Nat) : Int) <= 512 := by omega
  have hcu1 := congrArg Prod.fst hcu; have hcu2 := congrArg Prod.snd hcu
  simp only at hcu1 hcu2
  subst hcu1 hcu2; obtain ⟨s1, s2, s3, s4, s5, s6, s7, s8⟩ := Nd.split_ok HMOK.out hs hs2; have HLO := lh hLO; have HSP := lh (split_nd (S12.out.kn (.head _)) HMOK.out HMZ.out s2 s1 S12.out.offD); have HL3 := lh s3; have HL4 := lh s4; have HL7 := lh s7; have HL8 := lh s8; clear hLO hcu hs hs2 s1 s2 s3 s4 s5 s6 s7 s8; go_upto_region 11 with fail
  refine wp_region_lit ?_; refine rn rfl (by go_simp <;> with_reducible rfl) ?_; simp only [nrm]; refine lp fun K hK => ?_; refine wp_call_f (l := [.tmp 75]) rfl [.agg #[.int .i64 (kindOf m), .int .i64 (m.first : Int), .slice Am m.l.length cm]] rfl (enter_split _) (HSP.out.mono ?_); rintro e w12 ⟨lv, kv, rv, rfl, hlv, hkv, hrv, hf12⟩; obtain ⟨Al, cl, csl, rfl, _⟩ := hlv.open_; obtain ⟨Ar, cr', csr, rfl, _⟩ := hrv.open_; obtain ⟨Ak, ck, rfl⟩ : ∃ A c, kv = .slice A m.key.length c := by obtain ⟨q, ⟨A, c, _, h, _⟩, _⟩ := hkv; exact ⟨A, c, h⟩
  have S13 := lh (((((S12.out.quiet hf12).nd hlv).key hkv).nd hrv).less (L' := _) (.cons _ (List.Sublist.refl _)) (List.Sublist.refl _) fun _ h => h); refine ⟨_, rfl, hK _ _ ?_⟩; simp only [nrm]; clear hK hlv hkv hrv hf12 HSP S12 d0 d1 d2
  iterate 4 (refine rn rfl (by go_simp <;> with_reducible rfl) ?_; simp only [nrm])
  refine lp fun K hK => ?_; refine wp_alloc_blk 88 rfl (.agg #[.int .i64 0, .int .i64 0, .slice none 0 0]) znd zero_nd rfl fun w13 hb13 hf13 hz13 => hK _ _ ?_; simp only [nrm]; clear hK; obtain ⟨p16, hp16⟩ := nm (w12.heap.size); rw [<- hp16] at hb13 ⊢; have S14 := lh (S13.out.new1 hf13 hb13 (Nat.le_of_eq hp16.symm)); clear hb13 hf13 hz13 hp16 S13; refine lp fun K hK => ?_; refine wp_alloc_blk 88 rfl (.agg #[.int .i64 0, .int .i64 0, .slice none 0 0]) znd zero_nd rfl fun w14 hb14 hf14 hz14 => hK _ _ ?_; simp only [nrm]; clear hK; obtain ⟨p18, hp18⟩ := nm (w13.heap.size); rw [<- hp18] at hb14 ⊢; have S15 := lh ((S14.out.new1 hf14 hb14 (Nat.le_of_eq hp18.symm)).perm (List.Perm.swap _ _ _)); clear hb14 hf14 hz14 hp18 S14; have hb16 := (S15.out.loc _ (.head _)).1; refine lp fun K hK => ?_; refine wp_store_blk 88 (.tmp 16) (.tmp 77) rfl [.int .i64 (kindOf m.left), .int .i64 (m.left.first : Int), .slice Al m.left.l.length cl] rfl rfl hb16 size_nd rfl three_cells fun w15 hb15 hf15 hz15 => hK _ _ ?_; simp only [Act.put]; clear hK; have S16 := lh ((S15.out.set_ hf15 hb15).perm (List.Perm.swap _ _ _)); clear S15 hb16 hb15 hf15 hz15; refine rn rfl (by go_simp <;> with_reducible rfl) ?_; simp only [nrm]; have hb18 := (S16.out.loc _ (.head _)).1; refine lp fun K hK => ?_; refine wp_store_blk 88 (.tmp 18) (.tmp 79) rfl [.int .i64 (kindOf m.right), .int .i64 (m.right.first : Int), .slice Ar m.right.l.length cr'] rfl rfl hb18 size_nd rfl three_cells fun w16 hb16 hf16 hz16 => hK _ _ ?_; simp only [Act.put]; clear hK; have S17 := lh ((S16.out.set_ hf16 hb16).perm (List.Perm.swap _ _ _)); clear S16 hb18 hb16 hf16 hz16; refine wpList_nil ?_; have d0 := (S17.out.loc _ (.head _)).1.at_ (i := 0) rfl; have d1 := (S17.out.loc _ (.head _)).1.at_ (i := 1) rfl; have d2 := (S17.out.loc _ (.head _)).1.at_ (i := 2) rfl; have HWR := lh (write_ch S17.out.ch (S17.out.kn (n := m.left) (.tail _ (.tail _ (.head _)))) HKA.out HL7.out HL3.out); go_wp2_with fail; refine HWR.out.mono ?_; rintro e w17 ⟨rfl, hc17, hf17⟩; have S18 := lh ((S17.out.call hf17 (fun q hq => by simp only [List.mem_cons, List.not_mem_nil, or_false] at hq; omega) hc17).less (L' := _) (.cons _ (List.Sublist.refl _)) (List.Sublist.refl _) fun _ h => h); clear hc17 hf17 HWR S17 d0 d1 d2; have d0 := (S18.out.loc _ (.head _)).1.at_ (i := 0) rfl; have d1 := (S18.out.loc _ (.head _)).1.at_ (i := 1) rfl; have d2 := (S18.out.loc _ (.head _)).1.at_ (i := 2) rfl; have HWR := lh (write_ch S18.out.ch (S18.out.kn (n := m.right) (.head _)) (k := n.child (i + 1)) HKB.out HL8.out HL4.out); go_wp2_with fail; refine HWR.out.mono ?_; rintro e w18 ⟨rfl, hc18, hf18⟩; have S19 := lh ((S18.out.call hf18 (fun q hq => by simp only [List.mem_cons, List.not_mem_nil, or_false] at hq; omega) hc18).less (L' := _) (.cons _ (List.Sublist.refl _)) (List.Sublist.refl _) fun _ h => h); clear hc18 hf18 HWR S18 d0 d1 d2; have d2 := (S19.out.loc _ (.head _)).1.at_ (i := 2) rfl; obtain ⟨q', hA, hcell⟩ := own_cell (S19.out.row' (.head _)) (show 0 < n.l.length by omega); obtain rfl : qr = q' := by injection hA with hA; injection hA
  clear hA; obtain ⟨kv1, vv1, av1, k1, k2, k3, _⟩ := (S19.out.its' (.head _)).at_ HY.out; have cv := hcell _ _ k1; have hfz := World.ownsRow.frozenAt (S19.out.row' (.head _)) (i * 3); have S20 := lh ((S19.out.cell (j := i * 3) (u := .slice Ak m.key.length ck) (l' := reKey n.l i m.key) (reKey_len _ _ _) ((S19.out.its' (.head _)).setK (vv := vv1) (av := av1) HY.out (S19.out.kb (b := m.key) (.tail _ (.head _))))).less (K' := Kl) (List.Sublist.refl _) (List.Sublist.refl _) fun k hk => by simp [hk]); have hln : (reKey n.l i m.key).length = n.l.length := reKey_len _ _ _; clear hcell k1 k2 k3; go_upto_region 15 with fail
  generalize w18.setCell ⟨qr, i * 3, none⟩ (.slice Ak m.key.length ck) = w19 at *; clear S19 cv hfz d2
  have HND : Hid (NdV _ w19 w.heap.size (.agg #[.int .i64 (kindOf n), .int .i64 (n.first : Int), .slice (some ⟨qr, 0, none⟩) n.l.length ca]) { n with l := reKey n.l i m.key }) := lh (by
   have := S20.out.give.2.1; simp only [hln] at this; exact this)
  have HP1 := lh (HP.out.to (c' := (c.write (n.child i) m.left).write (n.child (i + 1)) m.right) ⟨rfl, rfl⟩); clear hln; have d0 := (S20.out.loc _ (.head _)).1.at_ (i := 0) rfl; have d1 := (S20.out.loc _ (.head _)).1.at_ (i := 1) rfl; have d2 := (S20.out.loc _ (.head _)).1.at_ (i := 2) rfl; have HLA := lh (lay_ch HP1.out S20.out.give.1 HND.out HLO.out.k HLO.out.ok HLO.out.size HLO.out.e HLO.out.head S20.out.give.2.2); go_wp2_with fail; refine HLA.out.mono ?_; rintro e wl ⟨uv, rfl, huv, hcl, hfl⟩; obtain ⟨Au, cu, rfl, hbu⟩ := huv.open_; have SL := lh ((((S20.out.less (N' := N) (K' := Kl) (List.Sublist.refl _) (List.sublist_cons_self ..) fun k hk => by simp [hk]).call hfl (by simp) hcl).key hbu).perm (List.Perm.swap _ _ _)); have HBR := lh (SL.out.loc _ (.head _)).1; clear hbu hfl huv hcl d0 d1 d2 HLA
  go_wp2_with (refine wpL_store rfl 91 (.tmp 8) (.tmp 98) rfl [.slice Au _ cu, .int .i64 _] rfl rfl HBR.out size_up rfl two_cells ?_)
  intro we hbe hfe hze; have HX := lh (HQ.out _ _ ⟨_, _, rfl, (SL.out.set_ hfe hbe).less (L' := L) (.cons _ (.cons _ (List.Sublist.refl _))) (List.Sublist.refl _) fun _ h => h⟩); have HBE := lh hbe; clear hbe hfe hze; go_wp2_with fail; exact ret_blk (g := p6 + 1) (t' := 91) (cs := [.slice Au _ cu, .int .i64 _]) (d := _) rfl rfl HBE.out Tryz.underlying91 rfl size_up HX.out
end
theorem fail_nil (c : CD) : c.fail 0 = c := by
 unfold CD.fail
 split
 ·rename_i h; cases c; simp only at h; rw [h]
 ·rfl
theorem results_tc {P : Program} {fn : Func} {tmps : Array Value} {w : World} {k k2 : Tmp} {t t' : TypeId} {g : Nat} {cs : List Value} {d : TypeDesc} (hr : fn.results = #[.tmp k2, .cell k t]) (ha : tmps.getD k undef = .pointer (some ⟨g, 0, none⟩)) (hb : Blk w g t' cs)
  (hu : P.underlying t = some d) (hd : d.isRow = true) (hi : (P.info? t).map (·.size) = some cs.length) : (results fn tmps).run P w = .ok (.tuple #[tmps.getD k2 undef, .agg cs.toArray]) w := by
 have hl := run_loadVar_row (P := P) w g t' t cs.toArray (0, 0) d hb hu (by cases d <;> simp_all) (by simpa using hi); have ha' : tmps[k]?.getD undef = .pointer (some ⟨g, 0, none⟩) := by simpa using ha
 simp [results, hr, ha', hl, asAddr]
section
variable {w0 wS w w1 : World} {dk g bc bn bs : Nat} {s : PS} {X D : Nat -> Prop} {L : List LB} {N : List NP} {Kl : List Kq} {c c' : CD}
/-- What a node's child has to lay; or the child, if it is thin, together with the one beside it. -/
theorem mend_sx {A Au : Option Addr} {ca cu : Nat} {n : Nd} {cs : List Value} {k i : Nat} {u u' : Ky × Nat} (hp : PgC w0 wS dk g s X c) (h : Sx wS w g bc bn bs D L (⟨A, ca, n, cs⟩ :: N) (.by_ (.slice Au u.1.length cu) u.1 :: Kl) c w1) (hW : MendW c k n i u c' u') :
  Calls Tryz.prog 81 #[.pointer (some ⟨bc, 0, none⟩), .int .i64 (k : Int), .agg #[.int .i64 (kindOf n), .int .i64 (n.first : Int), .slice A n.l.length ca], .int .i64 (i : Int), .agg #[.slice Au u.1.length cu, .int .i64 ((u.2 : Nat) : Int)]] w1 fun e w' =>
   ∃ A' ca', e = .returned (.agg #[.slice A' u'.1.length ca', .int .i64 ((u'.2 : Nat) : Int)]) /\ Sx wS w g bc bn bs D L N (.by_ (.slice A' u'.1.length ca') u'.1 :: Kl) c' w' := by
 obtain ⟨hok, hsz, hile, hW⟩ := hW; have hfew := items_few hsz; obtain ⟨wb, hwb⟩ := nm (((w1.alloc (.cells #[.int .i64 (kindOf n), .int .i64 (n.first : Int), .slice A n.l.length ca] 88)).alloc (.cells #[.slice Au u.1.length cu, .int .i64 ((u.2 : Nat) : Int)] 91)).alloc (.cells zup.toArray 91)); have hf0 : Fr [] w1 wb := by rw [hwb]; exact (((Fr.refl [] w1).alloc _).alloc _).alloc _
 obtain ⟨p7, hp7⟩ := nm (w1.heap.size); have hb7 : Blk wb p7 88 [.int .i64 (kindOf n), .int .i64 (n.first : Int), .slice A n.l.length ca] := by rw [hwb, hp7]; exact ((Blk.new w1 _ [.int .i64 (kindOf n), .int .i64 (n.first : Int), .slice A n.l.length ca]).alloc _).alloc _
 have hb9 : Blk wb (p7 + 1) 91 [.slice Au u.1.length cu, .int .i64 ((u.2 : Nat) : Int)] := by
  rw [hwb, hp7]; have := (Blk.new (w1.alloc (.cells #[.int .i64 (kindOf n), .int .i64 (n.first : Int), .slice A n.l.length ca] 88)) 91 [.slice Au u.1.length cu, .int .i64 ((u.2 : Nat) : Int)]).alloc (.cells zup.toArray 91)
  rwa [World.size_alloc] at this
 have hb10 : Blk wb (p7 + 2) 91 zup := by
  rw [hwb, hp7]; have := Blk.new ((w1.alloc (.cells #[.int .i64 (kindOf n), .int .i64 (n.first : Int), .slice A n.l.length ca] 88)).alloc (.cells #[.slice Au u.1.length cu, .int .i64 ((u.2 : Nat) : Int)] 91)) 91 zup
  rwa [World.size_alloc, World.size_alloc] at this
 have S1 := lh (h.new (L' := [(p7, 88, [.int .i64 (kindOf n), .int .i64 (n.first : Int), .slice A n.l.length ca]), (p7 + 1, 91, [.slice Au u.1.length cu, .int .i64 ((u.2 : Nat) : Int)]), (p7 + 2, 91, zup)]) hf0 (fun l hl => by
  rcases List.mem_cons.1 hl with rfl | hl
  ·exact ⟨hb7, by simp only; omega⟩
  ·rcases List.mem_cons.1 hl with rfl | hl
   ·exact ⟨hb9, by simp only; omega⟩
   ·obtain rfl := List.mem_singleton.1 hl; exact ⟨hb10, by simp only; omega⟩) (by simp))
 have HP := lh hp; have HFEW := lh hfew; have HOK := lh hok; clear h hf0 hb7 hb9 hb10 hp hok hsz hfew; refine calls_post fun R HQ => ?_; rcases hW with ⟨hu0, hLO, hcu⟩ | ⟨hu0, x, hNx, hrest⟩
 ·have hcu1 := congrArg Prod.fst hcu; have hcu2 := congrArg Prod.snd hcu
  simp only at hcu1 hcu2
  subst hcu1 hcu2; have HLO := lh hLO; have HU0 := lh hu0; have hu0i : ¬ ((u.2 : Nat) : Int) = 0 := by omega
  have hln : (insAt n.l i ⟨u.1, [], u.2⟩).length = n.l.length + 1 := insAt_len _ _ hile; have hple : i <= n.l.length := hile; clear hLO hcu hu0 hile
  go_enter Tryz.func81, Tryz.ntmps81
  go_upto_region 1 with (with_reducible refine wpList_alloc_z rfl 91 rfl (.agg #[.slice none 0 0, .int .i64 0]) zup.toArray zero_up rfl ?_)
  rw [<- hwb]; rw [World.size_alloc, World.size_alloc, <- hp7]; clear hwb hp7; have v0 := (S1.out.loc _ (.tail _ (.head _))).1.at_ (i := 0) rfl; have v1 := (S1.out.loc _ (.tail _ (.head _))).1.at_ (i := 1) rfl; have d2 := (S1.out.loc _ (.head _)).1.at_ (i := 2) rfl; go_upto_region 2 with fail
  refine wp_region_lit ?_
  iterate 9 (refine rn rfl (by go_simp <;> with_reducible rfl) ?_; simp only [nrm])
  refine lp fun K hK => ?_; obtain ⟨ti, hti, hz', hsz', hby⟩ := info_get info_it; refine wp_build_one (.tmp 24) rfl Tryz.underlying86 hti hz' [.slice Au u.1.length cu, .slice none 0 0, .int .i64 ((u.2 : Nat) : Int)] rfl hsz' rfl (by simp) (by simp) (hK _ _ ?_); clear hK; simp only [nrm]; obtain ⟨wx, hwx⟩ := nm (wb.alloc (.cells ([.slice Au u.1.length cu, .slice none 0 0, .int .i64 ((u.2 : Nat) : Int)] : List Value).toArray 77)); rw [<- hwx]; have hfx : Fr [] wb wx := by rw [hwx]; exact (Fr.refl [] wb).alloc _
  have hbx : Blk wx wb.heap.size 77 [.slice Au u.1.length cu, .slice none 0 0, .int .i64 ((u.2 : Nat) : Int)] := by rw [hwx]; exact Blk.new wb _ [.slice Au u.1.length cu, .slice none 0 0, .int .i64 ((u.2 : Nat) : Int)]
  have S7 := lh (S1.out.quiet hfx); clear hwx; refine lp fun K hK => ?_; refine wp_call_f (l := [.tmp 17, .tmp 18, .tmp 25]) rfl [.slice A n.l.length ca, .int .i64 ((i : Nat) : Int), .slice (some ⟨wb.heap.size, 0, none⟩) 1 1] rfl (enter_insert _) ((items_insert (S7.out.row' (.head _)) (S7.out.its' (.head _)).one (by have := HFEW.out; omega) hple S7.out.fr.size hbx three_item rfl (fun e => by have := (S1.out.own' (.head _) _ e).2; omega)).mono ?_); rintro e w13 ⟨sv', rfl, ho', hf', hq'⟩; obtain ⟨A', ca', rfl, S8'⟩ := S7.out.ins hple (x := ⟨u.1, [], u.2⟩) (S7.out.kb (.head _)) (S7.out.nil_key) rfl ho' hf' hq'; refine ⟨_, rfl, hK _ _ ?_⟩; clear hK; simp only [nrm]; have S8 := lh S8'; have d2' := (S8.out.loc _ (.head _)).1.at_ (i := 2) rfl; have dfz := (S8.out.loc _ (.head _)).1.free 2; refine rn rfl (by go_simp <;> with_reducible rfl) ?_; simp only [nrm]; refine lp fun K hK => ?_; refine wp_run_skip (w' := w13.setCell ⟨p7, 2, none⟩ (.slice A' (n.l.length + 1) ca')) (by go_simp) (hK _ _ ?_); clear hK; simp only [Act.put]; refine wpList_nil ?_; have S9 := lh (S8.out.set_ (cs := [.int .i64 (kindOf n), .int .i64 (n.first : Int), .slice A' (n.l.length + 1) ca']) ((Fr.refl [p7] w13).setCell (.inl (by simp)) _) ((S8.out.loc _ (.head _)).1.set_ 2 (.slice A' (n.l.length + 1) ca'))); clear d2' dfz S8 S8' ho' hf' hq' hfx hbx; generalize w13.setCell ⟨p7, 2, none⟩ (.slice A' (n.l.length + 1) ca') = w14 at *; clear v0 v1 d2 S1 S7 hti hz' hsz' hby; have SB := lh (S9.out.less (L' := _) (K' := Kl) (.cons_cons _ (.cons _ (List.Sublist.refl _))) (List.Sublist.refl _) fun k hk => by simp [hk])
  have HND : Hid (NdV _ w14 w.heap.size (.agg #[.int .i64 (kindOf n), .int .i64 (n.first : Int), .slice A' (n.l.length + 1) ca']) { n with l := insAt n.l i ⟨u.1, [], u.2⟩ }) := lh (by
   have := SB.out.give.2.1; simp only [hln] at this; exact this)
  clear S9 hln; have d0 := (SB.out.loc _ (.head _)).1.at_ (i := 0) rfl; have d1 := (SB.out.loc _ (.head _)).1.at_ (i := 1) rfl; have d2 := (SB.out.loc _ (.head _)).1.at_ (i := 2) rfl; have HLA := lh (lay_ch HP.out SB.out.give.1 HND.out HLO.out.k HLO.out.ok HLO.out.size HLO.out.e HLO.out.head SB.out.give.2.2); go_wp2_with fail; refine HLA.out.mono ?_; rintro e wl ⟨uv, rfl, huv, hcl, hfl⟩; obtain ⟨Au, cu, rfl, hbu⟩ := huv.open_; have SL := lh ((((SB.out.less (N' := N) (K' := Kl) (List.Sublist.refl _) (List.sublist_cons_self ..) fun k hk => by simp [hk]).call hfl (by simp) hcl).key hbu).perm (List.Perm.swap _ _ _)); have HBR := lh (SL.out.loc _ (.head _)).1; clear hbu hfl huv hcl d0 d1 d2 HLA
  go_wp2_with (refine wpL_store rfl 91 (.tmp 10) (.tmp 31) rfl [.slice Au _ cu, .int .i64 _] rfl rfl HBR.out size_up rfl two_cells ?_)
  intro we hbe hfe hze; have HX := lh (HQ.out _ _ ⟨_, _, rfl, (SL.out.set_ hfe hbe).less (L' := L) (.cons _ (.cons _ (List.Sublist.refl _))) (List.Sublist.refl _) fun _ h => h⟩); have HBE := lh hbe; clear hbe hfe hze; go_wp2_with fail; exact ret_blk (g := p7 + 2) (t' := 91) (cs := [.slice Au _ cu, .int .i64 _]) (d := _) rfl rfl HBE.out Tryz.underlying91 rfl size_up HX.out
 ·obtain ⟨hkx, xok, xsz⟩ := S1.out.ch.wf.N_ok hNx; have HU0 := lh hu0; have HNX := lh hNx; have HREST := lh hrest; have HXOK := lh xok; have HXSZ := lh xsz; have HILE := lh hile; clear hNx hrest xok xsz hkx hile hu0
  go_enter Tryz.func81, Tryz.ntmps81
  go_upto_region 1 with (with_reducible refine wpList_alloc_z rfl 91 rfl (.agg #[.slice none 0 0, .int .i64 0]) zup.toArray zero_up rfl ?_)
  rw [<- hwb]; rw [World.size_alloc, World.size_alloc, <- hp7]; clear hwb hp7; have v1 := (S1.out.loc _ (.tail _ (.head _))).1.at_ (i := 1) rfl
  simp only at v1
  rw [show ((u.2 : Nat) : Int) = 0 by have := HU0.out; omega] at v1; have d0 := (S1.out.loc _ (.head _)).1.at_ (i := 0) rfl; have d1 := (S1.out.loc _ (.head _)).1.at_ (i := 1) rfl; have d2 := (S1.out.loc _ (.head _)).1.at_ (i := 2) rfl; have HCH := lh (child_nd (S1.out.bytes (.head _)) HILE.out (by have := HFEW.out; omega)); go_wp2_with fail; refine HCH.out.mono ?_; rintro e w2 ⟨rfl, hf2⟩; have S2 := lh (S1.out.quiet hf2); clear hf2 S1 v1 d0 d1 d2 HCH; have HNC := lh (node_ch HP.out S2.out.ch HNX.out S2.out.offD); go_wp2_with fail; refine HNC.out.mono ?_; rintro e w3 ⟨nv, rfl, hnv, hf3⟩; obtain ⟨A1, c1, rfl, S3'⟩ := S2.out.node_r hf3 hnv; have S3 := lh S3'; clear hnv hf3 S3' S2 HNC
  go_wp2_with (first
   | (with_reducible refine wpList_alloc_z rfl 88 rfl (.agg #[.int .i64 0, .int .i64 0, .slice none 0 0]) znd.toArray zero_nd rfl ?_)
   | (refine wpList_store_z (W := w3) rfl 88 (.tmp 11) (.tmp 38) rfl [.int .i64 (kindOf x), .int .i64 (x.first : Int), .slice A1 x.l.length c1] rfl rfl rfl size_nd rfl three_cells ?_))
  intro w4 hb4 hf4 hz4; obtain ⟨p11, hp11⟩ := nm (w3.heap.size); rw [<- hp11] at hb4 ⊢; have S4 := lh (S3.out.new1 hf4 hb4 (by omega)); clear hf4 hb4 hz4 hp11 S3; go_wp2_with fail; refine (fail_ch S4.out.ch 0).mono ?_; rintro e w5 ⟨rfl, hc5, hf5, hz5⟩; rw [fail_nil] at hc5 ⊢; have S5 := lh (S4.out.call hf5 (by simp) hc5); clear hc5 hf5 hz5 S4; have SL := lh (((S5.out.less (L' := _) (N' := N) (K' := Kl) (.cons _ (.cons _ (.cons _ (List.Sublist.refl _)))) (List.sublist_cons_self ..) fun k hk => by simp [hk]))); have HBR := lh (SL.out.loc _ (.head _)).1; have d0 := (S5.out.loc _ (.head _)).1.at_ (i := 0) rfl; have d1 := (S5.out.loc _ (.head _)).1.at_ (i := 1) rfl; have d2 := (S5.out.loc _ (.head _)).1.at_ (i := 2) rfl
  by_cases hce : c.e ≠ 0
  ·have HX0 : Hid (c' = c /\ u' = ([], 0)) := lh (by
    rcases HREST.out with ⟨_, h1, h2⟩ | ⟨h1, _⟩
    ·exact ⟨h1, h2⟩
    ·exact absurd h1 hce)
   obtain ⟨rfl, rfl⟩ := HX0.out; have hd : decide (c'.e ≠ 0) = true := by simpa using hce
   rw [hd]; clear hce hd d0 d1 d2
   go_wp2_with (refine wpL_store rfl 91 (.tmp 10) (.tmp 54) rfl [.slice none 0 0, .int .i64 0] rfl rfl HBR.out size_up rfl two_cells ?_)
   intro we hbe hfe hze; have HX := lh (HQ.out _ _ ⟨none, 0, rfl, (((SL.out.set_ hfe hbe).less (L' := L) (.cons _ (List.Sublist.refl _)) (List.Sublist.refl _) fun _ h => h).key (Sx.nil_key ((SL.out.set_ hfe hbe).less (L' := L) (.cons _ (List.Sublist.refl _)) (List.Sublist.refl _) fun _ h => h)))⟩); have HBE := lh hbe; clear hbe hfe hze; go_wp2_with fail; exact ret_blk (g := p7 + 2) (t' := 91) (cs := [.slice none 0 0, .int .i64 0]) (d := _) rfl rfl HBE.out Tryz.underlying91 rfl size_up HX.out
  ·have hce0 : c.e = 0 := by omega
   have HE := lh hce0; have hd : decide (c.e ≠ 0) = false := by rw [hce0]; rfl
   rw [hd]; clear hce hce0 hd; have x0 := (S5.out.loc _ (.head _)).1.at_ (i := 0) rfl; have HSF := lh (size_fn (S5.out.kn (.head _)) HXOK.out (by have := HXSZ.out; omega)); go_wp2_with fail; refine HSF.out.mono ?_; rintro e w6 ⟨rfl, hf6⟩; have S6 := lh (S5.out.quiet hf6); have SL := lh (((S6.out.less (L' := _) (N' := N) (K' := Kl) (.cons _ (.cons _ (.cons _ (List.Sublist.refl _)))) (List.sublist_cons_self ..) fun k hk => by simp [hk]))); have HBR := lh (SL.out.loc _ (.head _)).1; clear hf6 S5 d0 d1 d2 x0 HSF; have d0 := (S6.out.loc _ (.tail _ (.head _))).1.at_ (i := 0) rfl; have d1 := (S6.out.loc _ (.tail _ (.head _))).1.at_ (i := 1) rfl; have d2 := (S6.out.loc _ (.tail _ (.head _))).1.at_ (i := 2) rfl; rcases HREST.out with ⟨hor, rfl, rfl⟩ | ⟨_, hx, hnl, hJ⟩
   ·by_cases hx : 170 <= x.size
    case' pos =>
     have hxi : (170 : Int) <= ((x.size : Nat) : Int) := by omega
     clear hor
    case' neg =>
     have hxi : ¬ (170 : Int) <= ((x.size : Nat) : Int) := by omega
     have hl0 : n.l.length = 0 := by
      rcases hor with h | h | h
      ·exact absurd HE.out h
      ·exact absurd h hx
      ·rw [h]; rfl
     simp only at d2
     rw [hl0] at d2; clear hor hl0
    all_goals
     go_wp2_with (refine wpL_store rfl 91 (.tmp 10) (.tmp 54) rfl [.slice none 0 0, .int .i64 0] rfl rfl HBR.out size_up rfl two_cells ?_)
     intro we hbe hfe hze; have HX := lh (HQ.out _ _ ⟨none, 0, rfl, (((SL.out.set_ hfe hbe).less (L' := L) (.cons _ (List.Sublist.refl _)) (List.Sublist.refl _) fun _ h => h).key (Sx.nil_key ((SL.out.set_ hfe hbe).less (L' := L) (.cons _ (List.Sublist.refl _)) (List.Sublist.refl _) fun _ h => h)))⟩); have HBE := lh hbe; clear hbe hfe hze; go_wp2_with fail; exact ret_blk (g := p7 + 2) (t' := 91) (cs := [.slice none 0 0, .int .i64 0]) (d := _) rfl rfl HBE.out Tryz.underlying91 rfl size_up HX.out
   ·have hxi : ¬ (170 : Int) <= ((x.size : Nat) : Int) := by omega
    have hl0 : ¬ ((n.l.length : Nat) : Int) = 0 := by
     have : 0 < n.l.length := by cases hq : n.l with | nil => exact absurd hq hnl | cons => simp
     omega
    have HJ := lh (join_sx HP.out (S6.out.less (L' := _) (N' := _) (K' := Kl) (List.Sublist.refl _) (List.Sublist.refl _) fun k hk => by simp [hk]) hJ HE.out HFEW.out); have hmax : max (0 : Int) ((i : Int) - 1) = ((i - 1 : Nat) : Int) := by omega
    have hw1 : IntKind.i64.wrap ((i : Int) - 1) = (i : Int) - 1 := by rw [IntKind.wrap_i64]; have := HILE.out; have := HFEW.out; omega
    have hl1 : ¬ n.l.length = 0 := by omega
    have hnl' : ¬ n.l = [] := hnl; have hx2 : ¬ 170 <= x.size := by omega
    have hbq : (((n.l.length : Nat) : Int) == 0) = false := by rw [beq_eq_false_iff_ne]; omega
    clear hx hnl hJ SL HBR; go_wp2_with fail; refine HJ.out.mono ?_; rintro e w7 ⟨A', ca', rfl, S7'⟩; have S7 := lh (S7'.less (L' := (p7 + 2, _, _) :: L) (.cons _ (.cons _ (.cons _ (List.Sublist.refl _)))) (List.Sublist.refl _) fun _ h => h); have HBR := lh (S7.out.loc _ (.head _)).1; clear S7' HJ d0 d1 d2 S6
    go_wp2_with (refine wpL_store rfl 91 (.tmp 10) (.tmp 61) rfl [.slice A' u'.1.length ca', .int .i64 ((u'.2 : Nat) : Int)] rfl rfl HBR.out size_up rfl two_cells ?_)
    intro we hbe hfe hze; have HX := lh (HQ.out _ _ ⟨A', ca', rfl, (S7.out.set_ hfe hbe).less (L' := L) (.cons _ (List.Sublist.refl _)) (List.Sublist.refl _) fun _ h => h⟩); have HBE := lh hbe; clear hbe hfe hze; go_wp2_with fail; exact ret_blk (g := p7 + 2) (t' := 91) (cs := [.slice A' u'.1.length ca', .int .i64 ((u'.2 : Nat) : Int)]) (d := _) rfl rfl HBE.out Tryz.underlying91 rfl size_up HX.out
end
structure CutGood (w0 wS : World) (dk g bc bn bs : Nat) (s : PS) (X : Nat -> Prop) (f : Nat) : Prop where
 go : ∀ {c c' : CD} {k deep : Nat} {key : Ky} {is : Bool} {u : Ky × Nat} {w : World} {kv : Value} {D : Nat -> Prop}, f + deep = 40 -> CutW f c k key c' is u -> PgC w0 wS dk g s X c -> ChAt wS w g bc bn bs D c ->
  (∃ q, BytesAt w kv key q /\ D q) -> (∀ q, w.heap.size <= q -> D q) ->
  Calls Tryz.prog 41 #[.pointer (some ⟨bc, 0, none⟩), .int .i64 (k : Int), kv, .int .i64 (deep : Int)] w fun e w' => ∃ uv, e = .returned (.tuple #[.bool is, uv]) /\ UpV D w' uv u /\ ChAt wS w' g bc bn bs D c' /\ Fr [bc, bn, bs] w w'
section
variable {w0 wS w : World} {dk g bc bn bs : Nat} {s : PS} {X D : Nat -> Prop} {c : CD}
theorem cut_step {f : Nat} (ih : CutGood w0 wS dk g bc bn bs s X f) : CutGood w0 wS dk g bc bn bs s X (f + 1) := by
 constructor
 intro c c' k deep key is u w kv D hdeep hW hp h hx hD; obtain ⟨n, hN, hKR, he, hW⟩ := hW; obtain ⟨hkn, hok, hsz⟩ := h.wf.N_ok hN; have hfew := items_few hsz; obtain ⟨Ak, ck, rfl⟩ : ∃ A c, kv = .slice A key.length c := by obtain ⟨q, ⟨A, c, _, h, _⟩, _⟩ := hx; exact ⟨A, c, h⟩
 obtain ⟨wb, hwb⟩ := nm (w.alloc (.cells zup.toArray 91)); have hf0 : Fr [] w wb := by rw [hwb]; exact (Fr.refl [] w).alloc _
 have hb9 : Blk wb w.heap.size 91 zup := by rw [hwb]; exact Blk.new w _ zup
 have hO : ∀ q, D q -> Off D [] [] q := fun q hq => ⟨hq, fun _ h => by simp at h, fun _ h => by simp at h⟩; have S1 := lh (((Sx.start h hD).key (hx.imp fun q hq => ⟨hq.1, hO q hq.2⟩)).new1 hf0 hb9 (Nat.le_refl _)); have HNC := lh (node_ch hp S1.out.ch hN S1.out.offD); have HP := lh hp; have HE := lh he; have HKR := lh hKR; have HW := lh hW; have HIH := lh ih; have HFEW := lh hfew; have HDEEP := lh hdeep; have HKN := lh hkn; clear hO h hx hp hf0 hb9 he hKR hW ih hok hN hD hsz hkn; have hd40 : ¬ ((deep : Nat) : Int) = 40 := by omega
 refine calls_post fun R HQ => ?_
 go_enter Tryz.func41, Tryz.ntmps41
 go_upto_region 1 with (with_reducible refine wpList_alloc_z rfl 91 rfl (.agg #[.slice none 0 0, .int .i64 0]) zup.toArray zero_up rfl ?_)
 rw [<- hwb]; clear hwb; go_wp2_with fail; refine HNC.out.mono ?_; rintro e w1 ⟨nv, rfl, hnv, hf1⟩; obtain ⟨A, ca, cs, rfl, hca, S2'⟩ := S1.out.node hf1 (Nat.le_refl _) hnv; have S2 := lh S2'; clear hnv hf1 S2' S1 HNC
 go_wp2_with (first
  | (with_reducible refine wpList_alloc_z rfl 88 rfl (.agg #[.int .i64 0, .int .i64 0, .slice none 0 0]) znd.toArray zero_nd rfl ?_)
  | (refine wpList_store_z (W := w1) rfl 88 (.tmp 10) (.tmp 21) rfl [.int .i64 (kindOf n), .int .i64 (n.first : Int), .slice A n.l.length ca] rfl rfl rfl size_nd rfl three_cells ?_))
 intro w2 hb2 hf2 hz2; obtain ⟨p10, hp10⟩ := nm (w1.heap.size); rw [<- hp10] at hb2 ⊢; have S3 := lh (S2.out.new1 hf2 hb2 (by omega)); clear hf2 hb2 hz2 hp10 S2; go_wp2_with fail; refine (fail_ch S3.out.ch 0).mono ?_; rintro e w3 ⟨rfl, hc3, hf3, hz3⟩; rw [fail_zero HE.out] at hc3 ⊢; have hd : decide (c.e ≠ 0) = false := by rw [HE.out]; rfl
 rw [hd]; have S4 := lh (S3.out.call hf3 (by simp) hc3); clear hc3 hf3 hz3 S3 hd; have d0 := (S4.out.loc _ (.head _)).1.at_ (i := 0) rfl; have d1 := (S4.out.loc _ (.head _)).1.at_ (i := 1) rfl; have d2 := (S4.out.loc _ (.head _)).1.at_ (i := 2) rfl; go_wp2_with fail; refine (leaf_nd n).mono ?_; rintro e w4 ⟨rfl, hf4⟩; have S5 := lh (S4.out.quiet hf4); clear hf4 S4 d0 d1 d2; have d0 := (S5.out.loc _ (.head _)).1.at_ (i := 0) rfl; have d1 := (S5.out.loc _ (.head _)).1.at_ (i := 1) rfl; have d2 := (S5.out.loc _ (.head _)).1.at_ (i := 2) rfl; obtain ⟨gk, hgk, _⟩ := S5.out.kb (.head _); have HGK := lh hgk; clear hgk
 cases hlf : n.lf with
 | true =>
  rcases HW.out with ⟨-, rfl, rfl, hr⟩ | ⟨hno, _⟩
  ·clear hlf; have HPL := lh (place_nd (S5.out.bytes (.head _)) HGK.out HKR.out (by have := HFEW.out; omega)); have HR := lh hr; clear hr HW; go_wp2_with fail; refine HPL.out.mono ?_; rintro e w5 ⟨rfl, hf5⟩; have S6 := lh (S5.out.quiet hf5); clear hf5 HPL d0 d1 d2 S5 HGK; rcases HR.out with ⟨his, rfl, nok, nsz⟩ | ⟨his, rfl⟩
   ·have hlt := isAt_lt his; have hpw : IntKind.i64.wrap (((placeOf n.l key : Nat) : Int) + 1) = ((placeOf n.l key : Nat) : Int) + 1 := by rw [IntKind.wrap_i64]; have := HFEW.out; omega
    have d2 := (S6.out.loc _ (.head _)).1.at_ (i := 2) rfl; have HDL := lh (items_delete (S6.out.row' (.head _)) (S6.out.its' (.head _)).one (by have := HFEW.out; omega) hlt); have hln : (delAt n.l (placeOf n.l key)).length = n.l.length - 1 := delAt_len _ hlt; have HNOK := lh nok; have HNSZ := lh nsz; rw [his] at HQ ⊢; clear his nok nsz HR; go_wp2_with fail; refine HDL.out.mono ?_; rintro e w6 ⟨sv', rfl, ho', hq', hf'⟩; obtain ⟨A', ca', rfl, S7'⟩ := S6.out.del hlt ho' hq' hf'; have S7 := lh S7'; have d2' := (S7.out.loc _ (.head _)).1.at_ (i := 2) rfl; have dfz := (S7.out.loc _ (.head _)).1.free 2; have dlt := (S7.out.loc _ (.head _)).1.lt; have S8 := lh (S7.out.set_ (cs := [.int .i64 (kindOf n), .int .i64 (n.first : Int), .slice A' (n.l.length - 1) ca']) ((Fr.refl [p10] w6).setCell (.inl (by simp)) _) ((S7.out.loc _ (.head _)).1.set_ 2 (.slice A' (n.l.length - 1) ca'))); clear S6 S7' S7 ho' hq' hf' HDL d2; go_upto_region 10 with fail
    generalize w6.setCell ⟨p10, 2, none⟩ (.slice A' (n.l.length - 1) ca') = w7 at *; clear d2' dfz dlt hpw
    have HND : Hid (NdV _ w7 w.heap.size (.agg #[.int .i64 (kindOf n), .int .i64 (n.first : Int), .slice A' (n.l.length - 1) ca']) { n with l := delAt n.l (placeOf n.l key) }) := lh (by
     have := S8.out.give.2.1; simp only [hln] at this; exact this)
    have d0 := (S8.out.loc _ (.head _)).1.at_ (i := 0) rfl; have d1 := (S8.out.loc _ (.head _)).1.at_ (i := 1) rfl; have d2 := (S8.out.loc _ (.head _)).1.at_ (i := 2) rfl; have HWR := lh (write_ch S8.out.give.1 HND.out HKN.out HNOK.out HNSZ.out); clear hln hlt; go_wp2_with fail; refine HWR.out.mono ?_; rintro e w8 ⟨rfl, hc8, hf8⟩; have SL := lh (((S8.out.less (N' := []) (List.Sublist.refl _) (List.nil_sublist _) fun _ h => h).call hf8 (fun q hq => by simp only [List.mem_cons, List.not_mem_nil, or_false] at hq; omega) hc8).less (L' := _) (.cons _ (List.Sublist.refl _)) (List.Sublist.refl _) fun _ h => h); clear hc8 hf8 HWR S8 HND d0 d1 d2; have HBR := lh (SL.out.loc _ (.head _)).1
    go_wp2_with (refine wpL_store rfl 91 (.tmp 9) (.tmp 54) rfl [.slice none 0 0, .int .i64 0] rfl rfl HBR.out size_up rfl two_cells ?_)
    intro we hbe hfe hze; have HX := lh (HQ.out _ _ ⟨_, rfl, (SL.out.set_ hfe hbe).upv0⟩); have HBE := lh hbe; clear hbe hfe hze; go_wp2_with fail; exact bodyPost_ret (results_tc rfl rfl HBE.out Tryz.underlying91 rfl size_up) rfl HX.out
   ·have SL := lh (S6.out.less (L' := _) (.cons _ (List.Sublist.refl _)) (List.Sublist.refl _) fun _ h => h); rw [his] at HQ ⊢; clear his HR S6; have HBR := lh (SL.out.loc _ (.head _)).1
    go_wp2_with (refine wpL_store rfl 91 (.tmp 9) (.tmp 54) rfl [.slice none 0 0, .int .i64 0] rfl rfl HBR.out size_up rfl two_cells ?_)
    intro we hbe hfe hze; have HX := lh (HQ.out _ _ ⟨_, rfl, (SL.out.set_ hfe hbe).upv0⟩); have HBE := lh hbe; clear hbe hfe hze; go_wp2_with fail; exact bodyPost_ret (results_tc rfl rfl HBE.out Tryz.underlying91 rfl size_up) rfl HX.out
  ·rw [hlf] at hno; cases hno
 | false =>
  rcases HW.out with ⟨hyes, _⟩ | ⟨-, c1, is1, u1, hCW, hrest⟩
  ·rw [hlf] at hyes; cases hyes
  ·clear hlf; have HWY := lh (way_nd (S5.out.bytes (.head _)) HGK.out HKR.out (by have := HFEW.out; omega)); have HCW := lh hCW; have HREST := lh hrest; have HP1 := lh (HP.out.to hCW.same); clear hCW hrest HW; go_wp2_with fail; refine HWY.out.mono ?_; rintro e w5 ⟨rfl, hf5⟩; have S6 := lh (S5.out.quiet hf5); clear hf5 HWY d0 d1 d2 S5 HGK; have d0 := (S6.out.loc _ (.head _)).1.at_ (i := 0) rfl; have d1 := (S6.out.loc _ (.head _)).1.at_ (i := 1) rfl; have d2 := (S6.out.loc _ (.head _)).1.at_ (i := 2) rfl; have hw1 := wi deep (by omega)
   have HCH := lh (child_nd (S6.out.bytes (.head _)) (way_le n key) (by have := HFEW.out; omega)); go_wp2_with fail; refine HCH.out.mono ?_; rintro e w6 ⟨rfl, hf6⟩; have S7 := lh (S6.out.quiet hf6); clear hf6 HCH d0 d1 d2 S6; have HCU : Hid (Calls Tryz.prog 41 #[.pointer (some ⟨bc, 0, none⟩), .int .i64 ((n.child (n.way key) : Nat) : Int), .slice Ak key.length ck, .int .i64 ((deep : Int) + 1)] w6 _) := lh (HIH.out.go (deep := deep + 1) (by have := HDEEP.out; omega) HCW.out HP.out S7.out.ch (S7.out.kb (.head _)) S7.out.offD); go_wp2_with fail; refine HCU.out.mono ?_; rintro e w7 ⟨uv, rfl, huv, hc1, hf7⟩; obtain ⟨Au, cu, rfl, hbu⟩ := huv.open_; have S8 := lh ((S7.out.call hf7 (by simp) hc1).key hbu); clear hbu huv hc1 hf7 S7 HCU hw1
   go_wp2_with (first
    | (with_reducible refine wpList_alloc_z rfl 91 rfl (.agg #[.slice none 0 0, .int .i64 0]) zup.toArray zero_up rfl ?_)
    | (refine wpList_store_z (W := w7) rfl 91 (.tmp 16) (.tmp 68) rfl [.slice Au u1.1.length cu, .int .i64 ((u1.2 : Nat) : Int)] rfl rfl rfl size_up rfl two_cells ?_))
   intro w8 hb8 hf8 hz8; obtain ⟨p16, hp16⟩ := nm (w7.heap.size); rw [<- hp16] at hb8 ⊢; have S9 := lh (S8.out.new1 hf8 hb8 (by omega)); clear hf8 hb8 hz8 hp16 S8; rcases HREST.out with ⟨rfl, rfl, rfl, rfl⟩ | ⟨rfl, rfl, hM⟩
   ·have SL := lh (S9.out.less (L' := _) (.cons _ (.cons _ (List.Sublist.refl _))) (List.Sublist.refl _) fun _ h => h); clear S9; have HBR := lh (SL.out.loc _ (.head _)).1
    go_wp2_with (refine wpL_store rfl 91 (.tmp 9) (.tmp 71) rfl [.slice none 0 0, .int .i64 0] rfl rfl HBR.out size_up rfl two_cells ?_)
    intro we hbe hfe hze; have HX := lh (HQ.out _ _ ⟨_, rfl, (SL.out.set_ hfe hbe).upv0⟩); have HBE := lh hbe; clear hbe hfe hze; go_wp2_with fail; exact bodyPost_ret (results_tc rfl rfl HBE.out Tryz.underlying91 rfl size_up) rfl HX.out
   ·have HM := lh (mend_sx HP1.out S9.out hM); have v0 := (S9.out.loc _ (.head _)).1.at_ (i := 0) rfl; have v1 := (S9.out.loc _ (.head _)).1.at_ (i := 1) rfl; have d0 := (S9.out.loc _ (.tail _ (.head _))).1.at_ (i := 0) rfl; have d1 := (S9.out.loc _ (.tail _ (.head _))).1.at_ (i := 1) rfl; have d2 := (S9.out.loc _ (.tail _ (.head _))).1.at_ (i := 2) rfl; clear hM; go_wp2_with fail; refine HM.out.mono ?_; rintro e w9 ⟨A', ca', rfl, S10'⟩; have SL := lh (S10'.less (L' := _) (.cons _ (.cons _ (List.Sublist.refl _))) (List.Sublist.refl _) fun _ h => h); have HBR := lh (SL.out.loc _ (.head _)).1; clear S10' HM S9 v0 v1 d0 d1 d2
    go_wp2_with (refine wpL_store rfl 91 (.tmp 9) (.tmp 77) rfl [.slice A' u.1.length ca', .int .i64 ((u.2 : Nat) : Int)] rfl rfl HBR.out size_up rfl two_cells ?_)
    intro we hbe hfe hze; have HX := lh (HQ.out _ _ ⟨_, rfl, (SL.out.set_ hfe hbe).upv⟩); have HBE := lh hbe; clear hbe hfe hze; go_wp2_with fail; exact bodyPost_ret (results_tc rfl rfl HBE.out Tryz.underlying91 rfl size_up) rfl HX.out
theorem cut_ch : ∀ f, CutGood w0 wS dk g bc bn bs s X f
 | 0 => ⟨fun _ h => h.elim⟩
 | f + 1 => cut_step (cut_ch f)
end
end
end Go.Proofs.YtpjbdpepofnleaaGreat
