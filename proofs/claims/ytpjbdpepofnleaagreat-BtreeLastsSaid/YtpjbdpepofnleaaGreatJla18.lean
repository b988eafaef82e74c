/-
  Joined by join.py: Qe
-/
import Derived.Test.YtpjbdpepofnleaaGreatJla17
section
namespace Go.Proofs.YtpjbdpepofnleaaGreat
open Go.RowKit Go.ChangeMaps Go.MapKept Go.Maps Go.Sort Go.Shelf
theorem tail4 {α β γ δ : Type} {G : Prop} {H P : α → β → γ → δ → Prop} (main : (∀ a b c d, H a b c d → P a b c d) → G) (tail : ∀ a b c d, H a b c d → P a b c d) : G := main tail
theorem enter_insert (vs : Array Value) (w : World) : (callFunc 71 vs).run Tryz.prog w = .ok (.enter 71 vs) w := by kernel_rfl
theorem enter_child (vs : Array Value) (w : World) : (callFunc 74 vs).run Tryz.prog w = .ok (.enter 74 vs) w := by kernel_rfl
theorem enter_put (vs : Array Value) (w : World) : (callFunc 37 vs).run Tryz.prog w = .ok (.enter 37 vs) w := by kernel_rfl
theorem three_item {A B : Option Addr} {n m c d : Nat} {a : Int} : ∀ u ∈ [Value.slice A n c, .slice B m d, .int .i64 a], u.oneCell' = true := by
  intro u hu
  simp at hu
  rcases hu with rfl | rfl | rfl <;> rfl
structure PutGood (w0 wS : World) (dk g bc bn bs : Nat) (s : PS) (X : Nat → Prop) (f : Nat) : Prop where
  go : ∀ {c c' : CD} {k deep : Nat} {x : It} {u : Ky × Nat} {w : World} {kv vv av : Value} {D : Nat → Prop}, f + deep = 40 → PutW f c k x c' u → PgC w0 wS dk g s X c → ChAt wS w g bc bn bs D c →
    ItC D w x kv vv av → x.ok true → (∀ q, w.heap.size ≤ q → D q) →
    Calls Tryz.prog 37 #[.pointer (some ⟨bc, 0, none⟩), .int .i64 (k : Int), .agg #[kv, vv, av], .int .i64 (deep : Int)] w fun e w' => ∃ uv, e = .returned uv ∧ UpV D w' uv u ∧ ChAt wS w' g bc bn bs D c' ∧ Fr [bc, bn, bs] w w'
section
variable {w0 wS w w' : World} {dk g bc bn bs : Nat} {s : PS} {X D D' : Nat → Prop} {c : CD}
set_option maxRecDepth 100000 in
set_option maxHeartbeats 8000000 in
theorem put_step {f : Nat} (ih : PutGood w0 wS dk g bc bn bs s X f) : PutGood w0 wS dk g bc bn bs s X (f + 1) := by
  constructor
  intro c c' k deep x u w kv vv av D hdeep hW hp h hx hxo hD
  have hsame := hW.same
  obtain ⟨n, hN, hKR, he, hW⟩ := hW
  obtain ⟨hkn, hok, hsz⟩ := h.wf.N_ok hN
  have hfew := items_few hsz
  have hxat : x.at_ = 0 := by have := hxo.bare; simpa using this
  have hav : av = .int .i64 0 := by rw [hx.2.2, hxat]; rfl
  subst hav
  obtain ⟨⟨gk0, hbk, hdk⟩, ⟨gv0, hbv, hdv⟩, hx3⟩ := hx
  obtain ⟨Ak, ck, rfl⟩ : ∃ A c, kv = .slice A x.key.length c := by obtain ⟨A, c, _, h, _⟩ := hbk; exact ⟨A, c, h⟩
  obtain ⟨Av, cvv, rfl⟩ : ∃ A c, vv = .slice A x.v.length c := by obtain ⟨A, c, _, h, _⟩ := hbv; exact ⟨A, c, h⟩
  have hx : ItC D w x (.slice Ak x.key.length ck) (.slice Av x.v.length cvv) (.int .i64 0) := ⟨⟨gk0, hbk, hdk⟩, ⟨gv0, hbv, hdv⟩, hx3⟩
  clear hbk hdk hbv hdv hx3
  have hone := hx.one
  obtain ⟨wb, hwb⟩ : ∃ wb, wb = (w.alloc (.cells #[(.slice Ak x.key.length ck), (.slice Av x.v.length cvv), .int .i64 0] 77)).alloc (.cells zup.toArray 91) := ⟨_, rfl⟩
  have hf0 : Fr [] w wb := by rw [hwb]; exact ((Fr.refl [] w).alloc _).alloc _
  have hb6 : Blk wb w.heap.size 77 [(.slice Ak x.key.length ck), (.slice Av x.v.length cvv), .int .i64 0] := by rw [hwb]; exact (Blk.new w _ [(.slice Ak x.key.length ck), (.slice Av x.v.length cvv), .int .i64 0]).alloc _
  have hb8 : Blk wb (w.heap.size + 1) 91 zup := by
    rw [hwb]
    have := Blk.new (w.alloc (.cells #[(.slice Ak x.key.length ck), (.slice Av x.v.length cvv), .int .i64 0] 77)) 91 zup
    rwa [World.size_alloc] at this
  have S0 := Sx.start h hD
  have hO : ∀ q, D q → Off D [] [] q := fun q hq => ⟨hq, fun _ h => by simp at h, fun _ h => by simp at h⟩
  have S1 := Lib.hid (((S0.key (hx.2.1.imp fun q hq => ⟨hq.1, hO q hq.2⟩)).key (hx.1.imp fun q hq => ⟨hq.1, hO q hq.2⟩)).new (L' := [(w.heap.size + 1, 91, zup), (w.heap.size, 77, [(.slice Ak x.key.length ck), (.slice Av x.v.length cvv), .int .i64 0])]) hf0 (fun l hl => by
    rcases List.mem_cons.1 hl with rfl | hl
    · exact ⟨hb8, by simp⟩
    · obtain rfl := List.mem_singleton.1 hl
      exact ⟨hb6, Nat.le_refl _⟩) (by simp))
  have HNC := Lib.hid (node_ch hp S1.out.ch hN S1.out.offD)
  have HP := Lib.hid hp
  have HE := Lib.hid he; have HKR := Lib.hid hKR; have HW := Lib.hid hW; have HIH := Lib.hid ih; have HOK := Lib.hid hok; have HFEW := Lib.hid hfew; have HDEEP := Lib.hid hdeep; have HXO := Lib.hid hxo; have HONE := Lib.hid hone; have HXAT := Lib.hid hxat; have HSAME := Lib.hid hsame
  have HAV : Hid (Value.int .i64 0 = .int .i64 (x.at_ : Int)) := Lib.hid (by rw [hxat]; rfl)
  clear S0 hO h hx hp hf0 hb6 hb8 he hKR hW ih hok hN hxo hD hxat hone hsz hsame
  have hd40 : ¬ ((deep : Nat) : Int) = 40 := by omega
  refine calls_post fun R HQ => ?_
  go_enter Tryz.func37, Tryz.ntmps37
  go_upto_region 1 with (with_reducible refine wpList_alloc_z rfl 91 rfl (.agg #[.slice none 0 0, .int .i64 0]) zup.toArray zero_up rfl ?_)
  rw [← hwb]
  have hz2 : (w.alloc (.cells #[(.slice Ak x.key.length ck), (.slice Av x.v.length cvv), .int .i64 0] 77)).heap.size = w.heap.size + 1 := by rw [World.size_alloc]
  rw [hz2]
  clear hwb hz2
  go_wp2_with fail
  refine HNC.out.mono ?_
  rintro e w1 ⟨nv, rfl, hnv, hf1⟩
  obtain ⟨A, ca, cs, rfl, hca, S2'⟩ := S1.out.node hf1 (Nat.le_refl _) hnv
  have S2 := Lib.hid S2'
  clear hnv hf1 S2' S1 HNC
  go_wp2_with (first
    | (with_reducible refine wpList_alloc_z rfl 88 rfl (.agg #[.int .i64 0, .int .i64 0, .slice none 0 0]) znd.toArray zero_nd rfl ?_)
    | (refine wpList_store_z (W := w1) rfl 88 (.tmp 9) (.tmp 19) rfl [.int .i64 (kindOf n), .int .i64 (n.first : Int), .slice A n.l.length ca] rfl rfl rfl size_nd rfl three_cells ?_))
  intro w9 hb9 hf9 hz9
  obtain ⟨p9, hp9⟩ : ∃ p9, p9 = w1.heap.size := ⟨_, rfl⟩
  rw [← hp9] at hb9 ⊢
  have S3 := Lib.hid (S2.out.new1 hf9 hb9 (by omega))
  clear hf9 hb9 hz9 hp9 S2
  go_wp2_with fail
  refine (fail_ch S3.out.ch 0).mono ?_
  rintro e w10 ⟨rfl, hc10, hf10, hz10⟩
  rw [fail_zero HE.out] at hc10 ⊢
  have hd : decide (c.e ≠ 0) = false := by rw [HE.out]; rfl
  rw [hd]
  have S4 := Lib.hid (S3.out.call hf10 (by simp) hc10)
  clear hc10 hf10 hz10 S3 hd
  have d0 := (S4.out.loc _ (.head _)).1.at_ (i := 0) rfl
  have d1 := (S4.out.loc _ (.head _)).1.at_ (i := 1) rfl
  have d2 := (S4.out.loc _ (.head _)).1.at_ (i := 2) rfl
  go_wp2_with fail
  refine (leaf_nd n).mono ?_
  rintro e w11 ⟨rfl, hf11⟩
  have S5 := Lib.hid (S4.out.quiet hf11)
  clear hf11 S4 d0 d1 d2
  have d0 := (S5.out.loc _ (.head _)).1.at_ (i := 0) rfl
  have d1 := (S5.out.loc _ (.head _)).1.at_ (i := 1) rfl
  have d2 := (S5.out.loc _ (.head _)).1.at_ (i := 2) rfl
  have x0 := (S5.out.loc _ (.tail _ (.tail _ (.head _)))).1.at_ (i := 0) rfl
  cases hlf : n.lf with
  | true =>
    rcases HW.out with ⟨-, hLO, hcu⟩ | ⟨hno, _⟩
    · clear hlf
      obtain ⟨gk, hgk, _⟩ := S5.out.kb (.head _)
      have HPL := Lib.hid (place_nd (S5.out.bytes (.head _)) hgk HKR.out (by have := HFEW.out; omega))
      have HLO := Lib.hid hLO
      have hcu1 := congrArg Prod.fst hcu
      have hcu2 := congrArg Prod.snd hcu
      simp only at hcu1 hcu2
      subst hcu1 hcu2
      clear hgk hLO hcu
      go_wp2_with fail
      refine HPL.out.mono ?_
      rintro e w12 ⟨rfl, hf12⟩
      have S6 := Lib.hid (S5.out.quiet hf12)
      clear hf12 HPL d0 d1 d2 x0 S5
      have d2 := (S6.out.loc _ (.head _)).1.at_ (i := 2) rfl
      cases his : isAt n.l x.key with
      | true =>
        have hlt := isAt_lt his
        obtain ⟨q, hA, hcell⟩ := own_cell (S6.out.row' (.head _)) (show 0 < n.l.length by omega)
        subst hA
        obtain ⟨y, hy⟩ : ∃ y, n.l[placeOf n.l x.key]? = some y := ⟨_, List.getElem?_eq_getElem hlt⟩
        obtain ⟨kv1, vv1, av1, k1, k2, k3, _⟩ := (S6.out.its' (.head _)).at_ hy
        have cv := hcell _ _ k2
        have hfz := World.ownsRow.frozenAt (S6.out.row' (.head _)) (placeOf n.l x.key * 3 + 1)
        have hltI : ((placeOf n.l x.key : Nat) : Int) < ((n.l.length : Nat) : Int) := by omega
        have x1 := (S6.out.loc _ (.tail _ (.tail _ (.head _)))).1.at_ (i := 1) rfl
        have S7 := Lib.hid (S6.out.cell (j := placeOf n.l x.key * 3 + 1) (u := (.slice Av x.v.length cvv)) (l' := setV n.l (placeOf n.l x.key) x.v) (setV_len _ _ _) ((S6.out.its' (.head _)).setV (kv := kv1) (av := av1) hy (S6.out.kb (.tail _ (.head _)))))
        have HE1 : Hid (leafPut n.l x = setV n.l (placeOf n.l x.key) x.v) := Lib.hid (leafPut_is his)
        have hln : (setV n.l (placeOf n.l x.key) x.v).length = n.l.length := setV_len _ _ _
        clear hcell k1 k2 k3 hy
        go_upto_region 11 with fail
        obtain ⟨w13, hw13⟩ : ∃ w13, w13 = w12.setCell ⟨q, placeOf n.l x.key * 3 + 1, none⟩ (.slice Av x.v.length cvv) := ⟨_, rfl⟩
        rw [← hw13] at S7
        first | rw [← hw13] | skip
        clear hw13 S6 cv hfz x1 d2
        have HND : Hid (NdV _ w13 w.heap.size (.agg #[.int .i64 (kindOf n), .int .i64 (n.first : Int), .slice (some ⟨q, 0, none⟩) n.l.length ca]) { n with l := leafPut n.l x }) := Lib.hid (by
          have := S7.out.give.2.1
          simp only [hln] at this
          rw [HE1.out]
          exact this)
        rw [← HE1.out] at S7
        -- S7: the state, at world WZ; its first block holds the node, its second one the result
        have d0 := (S7.out.loc _ (.head _)).1.at_ (i := 0) rfl
        have d1 := (S7.out.loc _ (.head _)).1.at_ (i := 1) rfl
        have d2 := (S7.out.loc _ (.head _)).1.at_ (i := 2) rfl
        have HLA := Lib.hid (lay_ch HP.out S7.out.give.1 HND.out HLO.out.k HLO.out.ok HLO.out.size HLO.out.e HLO.out.head S7.out.give.2.2)
        go_wp2_with fail
        refine HLA.out.mono ?_
        rintro e wl ⟨uv, rfl, huv, hcl, hfl⟩
        obtain ⟨Au, cu, rfl, hbu⟩ := huv.open_
        have SL := Lib.hid ((((S7.out.less (N' := []) (List.Sublist.refl _) (List.nil_sublist _) fun _ h => h).call hfl (by simp) hcl).key hbu).perm (List.Perm.swap _ _ _))
        have HBR := Lib.hid (SL.out.loc _ (.head _)).1
        clear hbu hfl huv hcl d0 d1 d2 HLA
        go_wp2_with (refine wpL_store rfl 91 (.tmp 8) (.tmp 61) rfl [.slice Au _ cu, .int .i64 _] rfl rfl HBR.out size_up rfl two_cells ?_)
        intro we hbe hfe hze
        have HX := Lib.hid (HQ.out _ _ ⟨_, rfl, (SL.out.set_ hfe hbe).upv⟩)
        have HBE := Lib.hid hbe
        clear hbe hfe hze
        go_wp2_with fail
        exact ret_blk (g := w.heap.size + 1) (t' := 91) (cs := [.slice Au _ cu, .int .i64 _]) (d := _) rfl rfl HBE.out Tryz.underlying91 rfl size_up HX.out
      | false =>
        have HE1 : Hid (leafPut n.l x = insAt n.l (placeOf n.l x.key) x) := Lib.hid (leafPut_no his)
        have hple := place_le n.l x.key
        have hln : (insAt n.l (placeOf n.l x.key) x).length = n.l.length + 1 := insAt_len _ _ hple
        have x0 := (S6.out.loc _ (.tail _ (.tail _ (.head _)))).1.at_ (i := 0) rfl
        have x1 := (S6.out.loc _ (.tail _ (.tail _ (.head _)))).1.at_ (i := 1) rfl
        have x2 := (S6.out.loc _ (.tail _ (.tail _ (.head _)))).1.at_ (i := 2) rfl
        go_upto_region 10 with fail
        refine wp_region_lit ?_
        refine wpList_plain rfl fun K hK => ?_
        refine wp_run_same (v := ?au2_0) ?yu2_0 (hK _ _ ?_)
        case yu2_0 => go_simp <;> with_reducible rfl
        clear hK K
        simp only [nrm]
        refine wpList_plain rfl fun K hK => ?_
        refine wp_run_same (v := ?au3_1) ?yu3_1 (hK _ _ ?_)
        case yu3_1 => go_simp <;> with_reducible rfl
        clear hK K
        simp only [nrm]
        refine wpList_plain rfl fun K hK => ?_
        refine wp_run_same (v := ?au4_2) ?yu4_2 (hK _ _ ?_)
        case yu4_2 => go_simp <;> with_reducible rfl
        clear hK K
        simp only [nrm]
        refine wpList_plain rfl fun K hK => ?_
        refine wp_run_same (v := ?au5_3) ?yu5_3 (hK _ _ ?_)
        case yu5_3 => go_simp <;> with_reducible rfl
        clear hK K
        simp only [nrm]
        refine wpList_plain rfl fun K hK => ?_
        obtain ⟨ti, hti, hz', hsz', hby⟩ := info_get info_it
        refine wp_build_one (.tmp 54) rfl Tryz.underlying86 hti hz' [(.slice Ak x.key.length ck), (.slice Av x.v.length cvv), .int .i64 0] rfl hsz' rfl (by simp) (by simp) (hK _ _ ?_)
        clear hK
        simp only [nrm]
        -- an item built  is put into the node of block p9: Insert, then the store
        obtain ⟨wx, hwx⟩ : ∃ wx, wx = w12.alloc (.cells ([(.slice Ak x.key.length ck), (.slice Av x.v.length cvv), .int .i64 0] : List Value).toArray 77) := ⟨_, rfl⟩
        rw [← hwx]
        have hfx : Fr [] w12 wx := by rw [hwx]; exact (Fr.refl [] w12).alloc _
        have hbx : Blk wx w12.heap.size 77 [(.slice Ak x.key.length ck), (.slice Av x.v.length cvv), .int .i64 0] := by rw [hwx]; exact Blk.new w12 _ [(.slice Ak x.key.length ck), (.slice Av x.v.length cvv), .int .i64 0]
        have S7 := Lib.hid (S6.out.quiet hfx)
        clear hwx
        refine wpList_plain rfl fun K hK => ?_
        refine wp_call_f (l := [.tmp 52, .tmp 53, .tmp 55]) rfl [.slice A n.l.length ca, .int .i64 ((placeOf n.l x.key : Nat) : Int), .slice (some ⟨w12.heap.size, 0, none⟩) 1 1] rfl (enter_insert _) ((items_insert (S7.out.row' (.head _)) (S7.out.its' (.head _)).one (by have := HFEW.out; omega) hple S7.out.fr.size hbx HONE.out rfl (fun e => by have := (S6.out.own' (.head _) _ e).2; omega)).mono ?_)
        rintro e w13 ⟨sv', rfl, ho', hf', hq'⟩
        obtain ⟨A', ca', rfl, S8'⟩ := S7.out.ins hple (x := x) (S7.out.kb (.head _)) (S7.out.kb (.tail _ (.head _))) HAV.out ho' hf' hq'
        refine ⟨_, rfl, hK _ _ ?_⟩
        clear hK
        simp only [nrm]
        have S8 := Lib.hid S8'
        have d2' := (S8.out.loc _ (.head _)).1.at_ (i := 2) rfl
        have dfz := (S8.out.loc _ (.head _)).1.free 2
        refine wpList_plain rfl fun K hK => ?_
        refine wp_run_same (v := ?au6_6) ?yu6_6 (hK _ _ ?_)
        case yu6_6 => go_simp <;> with_reducible rfl
        clear hK K
        simp only [nrm]
        refine wpList_plain rfl fun K hK => ?_
        refine wp_run_skip (w' := w13.setCell ⟨p9, 2, none⟩ (.slice A' (n.l.length + 1) ca')) (by go_simp) (hK _ _ ?_)
        clear hK
        simp only [Act.put]
        refine wpList_nil ?_
        have S9 := Lib.hid (S8.out.set_ (cs := [.int .i64 (kindOf n), .int .i64 (n.first : Int), .slice A' (n.l.length + 1) ca']) ((Fr.refl [p9] w13).setCell (.inl (by simp)) _) ((S8.out.loc _ (.head _)).1.set_ 2 (.slice A' (n.l.length + 1) ca')))
        clear d2' dfz S8 S8' ho' hf' hq' hfx hbx
        generalize w13.setCell ⟨p9, 2, none⟩ (.slice A' (n.l.length + 1) ca') = w14 at *
        clear x0 x1 x2 d2 S6 S7 hti hz' hsz' hby
        have HND : Hid (NdV _ w14 w.heap.size (.agg #[.int .i64 (kindOf n), .int .i64 (n.first : Int), .slice A' (n.l.length + 1) ca']) { n with l := leafPut n.l x }) := Lib.hid (by
          have := S9.out.give.2.1
          simp only [hln] at this
          rw [HE1.out]
          exact this)
        -- S9: the state, at world WZ; its first block holds the node, its second one the result
        have d0 := (S9.out.loc _ (.head _)).1.at_ (i := 0) rfl
        have d1 := (S9.out.loc _ (.head _)).1.at_ (i := 1) rfl
        have d2 := (S9.out.loc _ (.head _)).1.at_ (i := 2) rfl
        have HLA := Lib.hid (lay_ch HP.out S9.out.give.1 HND.out HLO.out.k HLO.out.ok HLO.out.size HLO.out.e HLO.out.head S9.out.give.2.2)
        go_wp2_with fail
        refine HLA.out.mono ?_
        rintro e wl ⟨uv, rfl, huv, hcl, hfl⟩
        obtain ⟨Au, cu, rfl, hbu⟩ := huv.open_
        have SL := Lib.hid ((((S9.out.less (N' := []) (List.Sublist.refl _) (List.nil_sublist _) fun _ h => h).call hfl (by simp) hcl).key hbu).perm (List.Perm.swap _ _ _))
        have HBR := Lib.hid (SL.out.loc _ (.head _)).1
        clear hbu hfl huv hcl d0 d1 d2 HLA
        go_wp2_with (refine wpL_store rfl 91 (.tmp 8) (.tmp 61) rfl [.slice Au _ cu, .int .i64 _] rfl rfl HBR.out size_up rfl two_cells ?_)
        intro we hbe hfe hze
        have HX := Lib.hid (HQ.out _ _ ⟨_, rfl, (SL.out.set_ hfe hbe).upv⟩)
        have HBE := Lib.hid hbe
        clear hbe hfe hze
        go_wp2_with fail
        exact ret_blk (g := w.heap.size + 1) (t' := 91) (cs := [.slice Au _ cu, .int .i64 _]) (d := _) rfl rfl HBE.out Tryz.underlying91 rfl size_up HX.out
    · rw [hlf] at hno; cases hno
  | false =>
    rcases HW.out with ⟨hyes, _⟩ | ⟨-, c1, u1, hPW, hrest⟩
    · rw [hlf] at hyes; cases hyes
    · clear hlf
      obtain ⟨gk, hgk, _⟩ := S5.out.kb (.head _)
      have HWY := Lib.hid (way_nd (S5.out.bytes (.head _)) hgk HKR.out (by have := HFEW.out; omega))
      have HPW := Lib.hid hPW; have HREST := Lib.hid hrest
      have HP1 := Lib.hid (HP.out.to hPW.same)
      clear hgk hPW hrest
      go_wp2_with fail
      refine HWY.out.mono ?_
      rintro e w12 ⟨rfl, hf12⟩
      have S6 := Lib.hid ((S5.out.quiet hf12).quiet ((Fr.refl [] w12).drew))
      clear hf12 HWY d0 d1 d2 x0 S5
      have y0 := (S6.out.loc _ (.head _)).1.at_ (i := 0) rfl
      have y1 := (S6.out.loc _ (.head _)).1.at_ (i := 1) rfl
      have y2 := (S6.out.loc _ (.head _)).1.at_ (i := 2) rfl
      have x0 := (S6.out.loc _ (.tail _ (.tail _ (.head _)))).1.at_ (i := 0) rfl
      have x1 := (S6.out.loc _ (.tail _ (.tail _ (.head _)))).1.at_ (i := 1) rfl
      have x2 := (S6.out.loc _ (.tail _ (.tail _ (.head _)))).1.at_ (i := 2) rfl
      have hw1 : IntKind.i64.wrap ((deep : Int) + 1) = (deep : Int) + 1 := by rw [IntKind.wrap_i64]; omega
      have hlow := S6.out.low
      have hp9l := (S6.out.loc _ (.head _)).2
      have hn9 : p9 ∉ [bc, bn, bs] := by simp only at hp9l; simp; omega
      have hn6 : w.heap.size ∉ [bc, bn, bs] := by simp; omega
      clear hlow hp9l
      go_upto_region 13 with fail
      apply tail4 (H := fun p14 Au cu w16 => Hid (Sx wS w g bc bn bs D [(p9, 88, [.int .i64 (kindOf n), .int .i64 (n.first : Int), .slice A n.l.length ca]), (p14, 91, [.slice Au u1.1.length cu, .int .i64 ((u1.2 : Nat) : Int)]), (w.heap.size + 1, 91, zup), (w.heap.size, 77, [(.slice Ak x.key.length ck), (.slice Av x.v.length cvv), .int .i64 0])] [⟨A, ca, n, cs⟩] [.by_ (.slice Au u1.1.length cu) u1.1, .by_ (.slice Ak x.key.length ck) x.key, .by_ (.slice Av x.v.length cvv) x.v] c1 w16))
      case main =>
        intro TAIL
        refine wp_region_K (fun W => W.cell? ⟨p9, 0, none⟩ = some (.int .i64 (kindOf n)) ∧ W.cell? ⟨p9, 1, none⟩ = some (.int .i64 (n.first : Int)) ∧ W.cell? ⟨p9, 2, none⟩ = some (.slice A n.l.length ca) ∧ W.cell? ⟨w.heap.size, 0, none⟩ = some (.slice Ak x.key.length ck) ∧ W.cell? ⟨w.heap.size, 1, none⟩ = some (.slice Av x.v.length cvv) ∧ W.cell? ⟨w.heap.size, 2, none⟩ = some (.int .i64 0)) [0, 1, 2, 4, 5, 6] (by kernel_rfl) ?_
        refine wpAnyK_take (i := 0) (some 67) ?vq7_0 rfl rfl (by kernel_rfl) (fun _ _ _ h => h) ⟨y0, y1, y2, x0, x1, x2⟩ (.inl ⟨rfl, fun W hW => ?yq7_0⟩) ?_
        case yq7_0 => (obtain ⟨q0, q1, q2, q3, q4, q5⟩ := hW; go_simp) <;> with_reducible rfl
        simp only [nrm]
        refine wpAnyK_take (i := 1) (some 68) ?vq7_1 rfl rfl (by kernel_rfl) (fun _ _ _ h => h) ⟨y0, y1, y2, x0, x1, x2⟩ (.inl ⟨rfl, fun W hW => ?yq7_1⟩) ?_
        case yq7_1 => (obtain ⟨q0, q1, q2, q3, q4, q5⟩ := hW; go_simp) <;> with_reducible rfl
        simp only [nrm]
        refine wpAnyK_take (i := 2) (some 69) ?vq7_2 rfl rfl (by kernel_rfl) (fun _ _ _ h => h) ⟨y0, y1, y2, x0, x1, x2⟩ (.inl ⟨rfl, fun W hW => ?yq7_2⟩) ?_
        case yq7_2 => (obtain ⟨q0, q1, q2, q3, q4, q5⟩ := hW; go_simp) <;> with_reducible rfl
        simp only [nrm]
        refine wpAnyK_take (i := 4) (some 71) ?vq7_4 rfl rfl (by kernel_rfl) (fun _ _ _ h => h) ⟨y0, y1, y2, x0, x1, x2⟩ (.inl ⟨rfl, fun W hW => ?yq7_4⟩) ?_
        case yq7_4 => (obtain ⟨q0, q1, q2, q3, q4, q5⟩ := hW; go_simp) <;> with_reducible rfl
        simp only [nrm]
        refine wpAnyK_take (i := 5) (some 72) ?vq7_5 rfl rfl (by kernel_rfl) (fun _ _ _ h => h) ⟨y0, y1, y2, x0, x1, x2⟩ (.inl ⟨rfl, fun W hW => ?yq7_5⟩) ?_
        case yq7_5 => (obtain ⟨q0, q1, q2, q3, q4, q5⟩ := hW; go_simp) <;> with_reducible rfl
        simp only [nrm]
        refine wpAnyK_take (i := 6) (some 73) ?vq7_6 rfl rfl (by kernel_rfl) (fun _ _ _ h => h) ⟨y0, y1, y2, x0, x1, x2⟩ (.inl ⟨rfl, fun W hW => ?yq7_6⟩) ?_
        case yq7_6 => (obtain ⟨q0, q1, q2, q3, q4, q5⟩ := hW; go_simp) <;> with_reducible rfl
        simp only [nrm]
        refine wpAnyK_two (i := 3) (j := 8) (some 70) (some 14) rfl rfl rfl rfl (by kernel_rfl) rfl rfl (fun K hK => ?_) (fun K hK => ?_)
        ·
          refine wp_call_f (l := [.tmp 68, .tmp 69]) rfl [.agg #[.int .i64 (kindOf n), .int .i64 (n.first : Int), .slice A n.l.length ca], .int .i64 ((n.way x.key : Nat) : Int)] rfl (enter_child _) ((child_nd (S6.out.bytes (.head _)) (way_le n x.key) (by have := HFEW.out; omega)).mono ?_)
          rintro e w13 ⟨rfl, hf13⟩
          refine ⟨_, rfl, hK _ _ (fun _ => ⟨fr_keep hf13 y0, fr_keep hf13 y1, fr_keep hf13 y2, fr_keep hf13 x0, fr_keep hf13 x1, fr_keep hf13 x2⟩) ?_⟩
          simp only [nrm]
          have S7 := Lib.hid (S6.out.quiet hf13)
          clear hK
          replace y0 := fr_keep hf13 y0
          replace y1 := fr_keep hf13 y1
          replace y2 := fr_keep hf13 y2
          replace x0 := fr_keep hf13 x0
          replace x1 := fr_keep hf13 x1
          replace x2 := fr_keep hf13 x2
          clear hf13
          refine wpAnyK_two (i := 7) (j := 8) (some 74) (some 14) rfl rfl rfl rfl (by kernel_rfl) rfl rfl (fun K hK => ?_) (fun K hK => ?_)
          ·
            refine wp_call_f (l := [.tmp 67, .tmp 70, .tmp 71, .tmp 73]) rfl [.pointer (some ⟨bc, 0, none⟩), .int .i64 ((n.child (n.way x.key) : Nat) : Int), .agg #[(.slice Ak x.key.length ck), (.slice Av x.v.length cvv), .int .i64 0], .int .i64 ((deep : Int) + 1)] rfl (enter_put _) ((HIH.out.go (c := c) (deep := deep + 1) (by have := HDEEP.out; omega) HPW.out HP.out S7.out.ch ⟨S7.out.kb (.head _), S7.out.kb (.tail _ (.head _)), HAV.out⟩ HXO.out S7.out.offD).mono ?_)
            rintro e w14 ⟨uv, rfl, huv, hc1, hf14⟩
            obtain ⟨Au, cu, rfl, hbu⟩ := huv.open_
            replace y0 := fr_keepS hf14 hn9 y0
            replace y1 := fr_keepS hf14 hn9 y1
            replace y2 := fr_keepS hf14 hn9 y2
            replace x0 := fr_keepS hf14 hn6 x0
            replace x1 := fr_keepS hf14 hn6 x1
            replace x2 := fr_keepS hf14 hn6 x2
            refine ⟨_, rfl, hK _ _ (fun _ => ⟨y0, y1, y2, x0, x1, x2⟩) ?_⟩
            simp only [nrm]
            have S8 := Lib.hid ((S7.out.call hf14 (by simp) hc1).key hbu)
            clear hK hbu huv hc1 hf14
            refine wpAnyK_step (j := 8) (some 14) rfl rfl (by kernel_rfl) rfl fun K hK => ?_
            refine wp_alloc_blk 91 rfl (.agg #[.slice none 0 0, .int .i64 0]) zup zero_up rfl fun w15 hb15 hf15 hz15 => ?_
            replace y0 := fr_keep hf15 y0
            replace y1 := fr_keep hf15 y1
            replace y2 := fr_keep hf15 y2
            replace x0 := fr_keep hf15 x0
            replace x1 := fr_keep hf15 x1
            replace x2 := fr_keep hf15 x2
            refine hK _ _ (fun _ => ⟨y0, y1, y2, x0, x1, x2⟩) ?_
            simp only [nrm]
            clear hK
            obtain ⟨p14, hp14⟩ : ∃ p14, p14 = w14.heap.size := ⟨_, rfl⟩
            rw [← hp14] at hb15 ⊢
            have S9 := Lib.hid (S8.out.new1 hf15 hb15 (Nat.le_of_eq hp14.symm))
            clear hb15 hf15 hz15 hp14
            have hb14 := (S9.out.loc _ (.head _)).1
            refine wpAnyK_step (j := 9) none rfl rfl (by kernel_rfl) rfl fun K hK => ?_
            refine wp_store_blk 91 (.tmp 14) (.tmp 74) rfl [.slice Au u1.1.length cu, .int .i64 ((u1.2 : Nat) : Int)] rfl rfl hb14 size_up rfl two_cells fun w16 hb16 hf16 hz16 => hK _ _ (fun h => absurd h (by decide +kernel)) ?_
            simp only [Act.put]
            clear hK
            refine wpAnyK_done (by kernel_rfl) ?_ _
            exact TAIL p14 Au cu w16 (Lib.hid ((S9.out.set_ hf16 hb16).perm (List.Perm.swap _ _ _)))
          ·
            refine wp_alloc_blk 91 rfl (.agg #[.slice none 0 0, .int .i64 0]) zup zero_up rfl fun w15 hb15 hf15 hz15 => ?_
            replace y0 := fr_keep hf15 y0
            replace y1 := fr_keep hf15 y1
            replace y2 := fr_keep hf15 y2
            replace x0 := fr_keep hf15 x0
            replace x1 := fr_keep hf15 x1
            replace x2 := fr_keep hf15 x2
            refine hK _ _ (fun _ => ⟨y0, y1, y2, x0, x1, x2⟩) ?_
            simp only [nrm]
            clear hK
            obtain ⟨p14, hp14⟩ : ∃ p14, p14 = w13.heap.size := ⟨_, rfl⟩
            rw [← hp14] at hb15 ⊢
            have S8 := Lib.hid (S7.out.new1 hf15 hb15 (Nat.le_of_eq hp14.symm))
            clear hb15 hf15 hz15 hp14
            refine wpAnyK_step (j := 7) (some 74) rfl rfl (by kernel_rfl) rfl fun K hK => ?_
            refine wp_call_f (l := [.tmp 67, .tmp 70, .tmp 71, .tmp 73]) rfl [.pointer (some ⟨bc, 0, none⟩), .int .i64 ((n.child (n.way x.key) : Nat) : Int), .agg #[(.slice Ak x.key.length ck), (.slice Av x.v.length cvv), .int .i64 0], .int .i64 ((deep : Int) + 1)] rfl (enter_put _) ((HIH.out.go (c := c) (deep := deep + 1) (by have := HDEEP.out; omega) HPW.out HP.out S8.out.ch ⟨S8.out.kb (.head _), S8.out.kb (.tail _ (.head _)), HAV.out⟩ HXO.out S8.out.offD).mono ?_)
            rintro e w14 ⟨uv, rfl, huv, hc1, hf14⟩
            obtain ⟨Au, cu, rfl, hbu⟩ := huv.open_
            replace y0 := fr_keepS hf14 hn9 y0
            replace y1 := fr_keepS hf14 hn9 y1
            replace y2 := fr_keepS hf14 hn9 y2
            replace x0 := fr_keepS hf14 hn6 x0
            replace x1 := fr_keepS hf14 hn6 x1
            replace x2 := fr_keepS hf14 hn6 x2
            refine ⟨_, rfl, hK _ _ (fun _ => ⟨y0, y1, y2, x0, x1, x2⟩) ?_⟩
            simp only [nrm]
            have S9 := Lib.hid ((S8.out.call hf14 (by simp) hc1).key hbu)
            clear hK hbu huv hc1 hf14
            have hb14 := (S9.out.loc _ (.head _)).1
            refine wpAnyK_step (j := 9) none rfl rfl (by kernel_rfl) rfl fun K hK => ?_
            refine wp_store_blk 91 (.tmp 14) (.tmp 74) rfl [.slice Au u1.1.length cu, .int .i64 ((u1.2 : Nat) : Int)] rfl rfl hb14 size_up rfl two_cells fun w16 hb16 hf16 hz16 => hK _ _ (fun h => absurd h (by decide +kernel)) ?_
            simp only [Act.put]
            clear hK
            refine wpAnyK_done (by kernel_rfl) ?_ _
            exact TAIL p14 Au cu w16 (Lib.hid ((S9.out.set_ hf16 hb16).perm (List.Perm.swap _ _ _)))
        ·
          refine wp_alloc_blk 91 rfl (.agg #[.slice none 0 0, .int .i64 0]) zup zero_up rfl fun w15 hb15 hf15 hz15 => ?_
          replace y0 := fr_keep hf15 y0
          replace y1 := fr_keep hf15 y1
          replace y2 := fr_keep hf15 y2
          replace x0 := fr_keep hf15 x0
          replace x1 := fr_keep hf15 x1
          replace x2 := fr_keep hf15 x2
          refine hK _ _ (fun _ => ⟨y0, y1, y2, x0, x1, x2⟩) ?_
          simp only [nrm]
          clear hK
          obtain ⟨p14, hp14⟩ : ∃ p14, p14 = w12.drew.heap.size := ⟨_, rfl⟩
          rw [← hp14] at hb15 ⊢
          have S7 := Lib.hid (S6.out.new1 hf15 hb15 (Nat.le_of_eq hp14.symm))
          clear hb15 hf15 hz15 hp14
          refine wpAnyK_step (j := 3) (some 70) rfl rfl (by kernel_rfl) rfl fun K hK => ?_
          refine wp_call_f (l := [.tmp 68, .tmp 69]) rfl [.agg #[.int .i64 (kindOf n), .int .i64 (n.first : Int), .slice A n.l.length ca], .int .i64 ((n.way x.key : Nat) : Int)] rfl (enter_child _) ((child_nd (S7.out.bytes (.head _)) (way_le n x.key) (by have := HFEW.out; omega)).mono ?_)
          rintro e w13 ⟨rfl, hf13⟩
          refine ⟨_, rfl, hK _ _ (fun _ => ⟨fr_keep hf13 y0, fr_keep hf13 y1, fr_keep hf13 y2, fr_keep hf13 x0, fr_keep hf13 x1, fr_keep hf13 x2⟩) ?_⟩
          simp only [nrm]
          have S8 := Lib.hid (S7.out.quiet hf13)
          clear hK
          replace y0 := fr_keep hf13 y0
          replace y1 := fr_keep hf13 y1
          replace y2 := fr_keep hf13 y2
          replace x0 := fr_keep hf13 x0
          replace x1 := fr_keep hf13 x1
          replace x2 := fr_keep hf13 x2
          clear hf13
          refine wpAnyK_step (j := 7) (some 74) rfl rfl (by kernel_rfl) rfl fun K hK => ?_
          refine wp_call_f (l := [.tmp 67, .tmp 70, .tmp 71, .tmp 73]) rfl [.pointer (some ⟨bc, 0, none⟩), .int .i64 ((n.child (n.way x.key) : Nat) : Int), .agg #[(.slice Ak x.key.length ck), (.slice Av x.v.length cvv), .int .i64 0], .int .i64 ((deep : Int) + 1)] rfl (enter_put _) ((HIH.out.go (c := c) (deep := deep + 1) (by have := HDEEP.out; omega) HPW.out HP.out S8.out.ch ⟨S8.out.kb (.head _), S8.out.kb (.tail _ (.head _)), HAV.out⟩ HXO.out S8.out.offD).mono ?_)
          rintro e w14 ⟨uv, rfl, huv, hc1, hf14⟩
          obtain ⟨Au, cu, rfl, hbu⟩ := huv.open_
          replace y0 := fr_keepS hf14 hn9 y0
          replace y1 := fr_keepS hf14 hn9 y1
          replace y2 := fr_keepS hf14 hn9 y2
          replace x0 := fr_keepS hf14 hn6 x0
          replace x1 := fr_keepS hf14 hn6 x1
          replace x2 := fr_keepS hf14 hn6 x2
          refine ⟨_, rfl, hK _ _ (fun _ => ⟨y0, y1, y2, x0, x1, x2⟩) ?_⟩
          simp only [nrm]
          have S9 := Lib.hid ((S8.out.call hf14 (by simp) hc1).key hbu)
          clear hK hbu huv hc1 hf14
          have hb14 := (S9.out.loc _ (.head _)).1
          refine wpAnyK_step (j := 9) none rfl rfl (by kernel_rfl) rfl fun K hK => ?_
          refine wp_store_blk 91 (.tmp 14) (.tmp 74) rfl [.slice Au u1.1.length cu, .int .i64 ((u1.2 : Nat) : Int)] rfl rfl hb14 size_up rfl two_cells fun w16 hb16 hf16 hz16 => hK _ _ (fun h => absurd h (by decide +kernel)) ?_
          simp only [Act.put]
          clear hK
          refine wpAnyK_done (by kernel_rfl) ?_ _
          exact TAIL p14 Au cu w16 (Lib.hid ((S9.out.set_ hf16 hb16).perm (List.Perm.swap _ _ _)))
      intro p14 Au cu w16 SA
      clear hw1 y0 y1 y2 x0 x1 x2 S6 hn9 hn6
      have u0 := (SA.out.loc _ (.tail _ (.head _))).1.at_ (i := 0) rfl
      have u1' := (SA.out.loc _ (.tail _ (.head _))).1.at_ (i := 1) rfl
      have d2 := (SA.out.loc _ (.head _)).1.at_ (i := 2) rfl
      rcases HREST.out with ⟨hu0, rfl, rfl⟩ | ⟨hu0, hLO, hcu⟩
      · have SL := Lib.hid ((SA.out.less (L' := _) (.cons _ (.cons _ (List.Sublist.refl _))) (List.Sublist.refl _) fun _ h => h))
        have HBR := Lib.hid (SL.out.loc _ (.head _)).1
        have e1 : u1' = u1' := rfl
        simp only at u1'
        rw [hu0] at u1'
        clear e1
        go_wp2_with (refine wpL_store rfl 91 (.tmp 8) (.tmp 78) rfl [.slice none 0 0, .int .i64 0] rfl rfl HBR.out size_up rfl two_cells ?_)
        intro we hbe hfe hze
        have HX := Lib.hid (HQ.out _ _ ⟨_, rfl, (SL.out.set_ hfe hbe).upv0⟩)
        have HBE := Lib.hid hbe
        clear hbe hfe hze
        go_wp2_with fail
        exact ret_blk (g := w.heap.size + 1) (t' := 91) (cs := [.slice none 0 0, .int .i64 0]) (d := _) rfl rfl HBE.out Tryz.underlying91 rfl size_up HX.out
      · have hu0i : ¬ ((u1.2 : Nat) : Int) = 0 := by omega
        have HLO := Lib.hid hLO
        have hcu1 := congrArg Prod.fst hcu
        have hcu2 := congrArg Prod.snd hcu
        simp only at hcu1 hcu2
        subst hcu1 hcu2
        have hple := way_le n x.key
        have hln : (insAt n.l (n.way x.key) ⟨u1.1, [], u1.2⟩).length = n.l.length + 1 := insAt_len _ _ hple
        clear hLO hcu
        go_upto_region 16 with fail
        refine wp_region_lit ?_
        refine wpList_plain rfl fun K hK => ?_
        refine wp_run_same (v := ?au9_0) ?yu9_0 (hK _ _ ?_)
        case yu9_0 => go_simp <;> with_reducible rfl
        clear hK K
        simp only [nrm]
        refine wpList_plain rfl fun K hK => ?_
        refine wp_run_same (v := ?au10_1) ?yu10_1 (hK _ _ ?_)
        case yu10_1 => go_simp <;> with_reducible rfl
        clear hK K
        simp only [nrm]
        refine wpList_plain rfl fun K hK => ?_
        refine wp_run_same (v := ?au11_2) ?yu11_2 (hK _ _ ?_)
        case yu11_2 => go_simp <;> with_reducible rfl
        clear hK K
        simp only [nrm]
        refine wpList_plain rfl fun K hK => ?_
        refine wp_run_same (v := ?au12_3) ?yu12_3 (hK _ _ ?_)
        case yu12_3 => go_simp <;> with_reducible rfl
        clear hK K
        simp only [nrm]
        refine wpList_plain rfl fun K hK => ?_
        refine wp_run_same (v := ?au13_4) ?yu13_4 (hK _ _ ?_)
        case yu13_4 => go_simp <;> with_reducible rfl
        clear hK K
        simp only [nrm]
        refine wpList_plain rfl fun K hK => ?_
        refine wp_run_same (v := ?au14_5) ?yu14_5 (hK _ _ ?_)
        case yu14_5 => go_simp <;> with_reducible rfl
        clear hK K
        simp only [nrm]
        refine wpList_plain rfl fun K hK => ?_
        refine wp_run_same (v := ?au15_6) ?yu15_6 (hK _ _ ?_)
        case yu15_6 => go_simp <;> with_reducible rfl
        clear hK K
        simp only [nrm]
        refine wpList_plain rfl fun K hK => ?_
        refine wp_run_same (v := ?au16_7) ?yu16_7 (hK _ _ ?_)
        case yu16_7 => go_simp <;> with_reducible rfl
        clear hK K
        simp only [nrm]
        refine wpList_plain rfl fun K hK => ?_
        refine wp_run_same (v := ?au17_8) ?yu17_8 (hK _ _ ?_)
        case yu17_8 => go_simp <;> with_reducible rfl
        clear hK K
        simp only [nrm]
        refine wpList_plain rfl fun K hK => ?_
        obtain ⟨ti, hti, hz', hsz', hby⟩ := info_get info_it
        refine wp_build_one (.tmp 87) rfl Tryz.underlying86 hti hz' [.slice Au u1.1.length cu, .slice none 0 0, .int .i64 ((u1.2 : Nat) : Int)] rfl hsz' rfl (by simp) (by simp) (hK _ _ ?_)
        clear hK
        simp only [nrm]
        -- an item built  is put into the node of block p9: Insert, then the store
        obtain ⟨wx, hwx⟩ : ∃ wx, wx = w16.alloc (.cells ([.slice Au u1.1.length cu, .slice none 0 0, .int .i64 ((u1.2 : Nat) : Int)] : List Value).toArray 77) := ⟨_, rfl⟩
        rw [← hwx]
        have hfx : Fr [] w16 wx := by rw [hwx]; exact (Fr.refl [] w16).alloc _
        have hbx : Blk wx w16.heap.size 77 [.slice Au u1.1.length cu, .slice none 0 0, .int .i64 ((u1.2 : Nat) : Int)] := by rw [hwx]; exact Blk.new w16 _ [.slice Au u1.1.length cu, .slice none 0 0, .int .i64 ((u1.2 : Nat) : Int)]
        have S7 := Lib.hid (SA.out.quiet hfx)
        clear hwx
        refine wpList_plain rfl fun K hK => ?_
        refine wp_call_f (l := [.tmp 80, .tmp 81, .tmp 88]) rfl [.slice A n.l.length ca, .int .i64 ((n.way x.key : Nat) : Int), .slice (some ⟨w16.heap.size, 0, none⟩) 1 1] rfl (enter_insert _) ((items_insert (S7.out.row' (.head _)) (S7.out.its' (.head _)).one (by have := HFEW.out; omega) hple S7.out.fr.size hbx three_item rfl (fun e => by have := (SA.out.own' (.head _) _ e).2; omega)).mono ?_)
        rintro e w13 ⟨sv', rfl, ho', hf', hq'⟩
        obtain ⟨A', ca', rfl, S8'⟩ := S7.out.ins hple (x := ⟨u1.1, [], u1.2⟩) (S7.out.kb (.head _)) (S7.out.nil_key) rfl ho' hf' hq'
        refine ⟨_, rfl, hK _ _ ?_⟩
        clear hK
        simp only [nrm]
        have S8 := Lib.hid S8'
        have d2' := (S8.out.loc _ (.head _)).1.at_ (i := 2) rfl
        have dfz := (S8.out.loc _ (.head _)).1.free 2
        refine wpList_plain rfl fun K hK => ?_
        refine wp_run_same (v := ?au18_11) ?yu18_11 (hK _ _ ?_)
        case yu18_11 => go_simp <;> with_reducible rfl
        clear hK K
        simp only [nrm]
        refine wpList_plain rfl fun K hK => ?_
        refine wp_run_skip (w' := w13.setCell ⟨p9, 2, none⟩ (.slice A' (n.l.length + 1) ca')) (by go_simp) (hK _ _ ?_)
        clear hK
        simp only [Act.put]
        refine wpList_nil ?_
        have S9 := Lib.hid (S8.out.set_ (cs := [.int .i64 (kindOf n), .int .i64 (n.first : Int), .slice A' (n.l.length + 1) ca']) ((Fr.refl [p9] w13).setCell (.inl (by simp)) _) ((S8.out.loc _ (.head _)).1.set_ 2 (.slice A' (n.l.length + 1) ca')))
        clear d2' dfz S8 S8' ho' hf' hq' hfx hbx
        generalize w13.setCell ⟨p9, 2, none⟩ (.slice A' (n.l.length + 1) ca') = w14 at *
        clear u0 u1' d2 SA S7 hti hz' hsz' hby
        have SB := Lib.hid (S9.out.less (L' := _) (.cons_cons _ (.cons _ (List.Sublist.refl _))) (List.Sublist.refl _) fun _ h => h)
        have HND : Hid (NdV _ w14 w.heap.size (.agg #[.int .i64 (kindOf n), .int .i64 (n.first : Int), .slice A' (n.l.length + 1) ca']) { n with l := insAt n.l (n.way x.key) ⟨u1.1, [], u1.2⟩ }) := Lib.hid (by
          have := SB.out.give.2.1
          simp only [hln] at this
          exact this)
        clear S9
        -- SB: the state, at world WZ; its first block holds the node, its second one the result
        have d0 := (SB.out.loc _ (.head _)).1.at_ (i := 0) rfl
        have d1 := (SB.out.loc _ (.head _)).1.at_ (i := 1) rfl
        have d2 := (SB.out.loc _ (.head _)).1.at_ (i := 2) rfl
        have HLA := Lib.hid (lay_ch HP1.out SB.out.give.1 HND.out HLO.out.k HLO.out.ok HLO.out.size HLO.out.e HLO.out.head SB.out.give.2.2)
        go_wp2_with fail
        refine HLA.out.mono ?_
        rintro e wl ⟨uv, rfl, huv, hcl, hfl⟩
        obtain ⟨Au, cu, rfl, hbu⟩ := huv.open_
        have SL := Lib.hid ((((SB.out.less (N' := []) (List.Sublist.refl _) (List.nil_sublist _) fun _ h => h).call hfl (by simp) hcl).key hbu).perm (List.Perm.swap _ _ _))
        have HBR := Lib.hid (SL.out.loc _ (.head _)).1
        clear hbu hfl huv hcl d0 d1 d2 HLA
        go_wp2_with (refine wpL_store rfl 91 (.tmp 8) (.tmp 94) rfl [.slice Au _ cu, .int .i64 _] rfl rfl HBR.out size_up rfl two_cells ?_)
        intro we hbe hfe hze
        have HX := Lib.hid (HQ.out _ _ ⟨_, rfl, (SL.out.set_ hfe hbe).upv⟩)
        have HBE := Lib.hid hbe
        clear hbe hfe hze
        go_wp2_with fail
        exact ret_blk (g := w.heap.size + 1) (t' := 91) (cs := [.slice Au _ cu, .int .i64 _]) (d := _) rfl rfl HBE.out Tryz.underlying91 rfl size_up HX.out
theorem put_zero : PutGood w0 wS dk g bc bn bs s X 0 := ⟨fun _ h => h.elim⟩
theorem put_ch : ∀ f, PutGood w0 wS dk g bc bn bs s X f
  | 0 => put_zero
  | f + 1 => put_step (put_ch f)
end
end Go.Proofs.YtpjbdpepofnleaaGreat
end
