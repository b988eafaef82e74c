/-
  Joined by join.py: Ok Ol Om On
-/
import Derived.Test.YtpjbdpepofnleaaGreatJrg12
section
namespace Go.Proofs.YtpjbdpepofnleaaGreat
open Go.RowKit Go.Sort Go.Shelf
structure WSt (w0 wc : World) (H : Nat) (vb : Value) (bb : List UInt8) (wx : Nat) (X : List Value) : Prop where
  buf : Buf wc H vb bb
  blk : Blk wc wx 77 X
  ne : vb.ownBlock ≠ some wx
  fr : Fr [] w0 wc
  hz : w0.heap.size = H
section
variable {w0 wc w' : World} {H wx : Nat} {vb v' : Value} {bb b' : List UInt8} {X : List Value}
theorem WSt.hH (h : WSt w0 wc H vb bb wx X) : H ≤ wc.heap.size := by have := h.fr.size; have := h.hz; omega
theorem WSt.frame (h : WSt w0 wc H vb bb wx X) (hf : Fr [] wc w') : WSt w0 w' H vb bb wx X := ⟨h.buf.fr hf (by simp), h.blk.fr hf (by simp), h.ne, h.fr.trans hf (by simp), h.hz⟩
theorem WSt.app (h : WSt w0 wc H vb bb wx X) (ha : App wc H vb b' w' v') : WSt w0 w' H v' b' wx X := ⟨ha.buf, h.blk.fr ha.fr (fun hm => h.ne (by simpa using hm)), fun e => by
  rcases ha.row _ e with h1 | h1
  · exact h.ne h1
  · have := h.blk.lt; omega, h.fr.trans ha.fr (fun q hq => .inr (by have := (h.buf.lt q (by simpa using hq)).1; have := h.hz; omega)), h.hz⟩
end
theorem own_of_blk {w : World} {g H n : Nat} {e : TypeId} {cs : List Value} (h : Blk w g e cs) (hn : cs.length = n) (hH : H ≤ g) (hl : n ≤ 1048576) : w.ownsRow H e 1 (.slice (some ⟨g, 0, none⟩) n n) n cs :=
  ⟨by omega, .inr ⟨g, n, cs.toArray, rfl, hH, h, Nat.le_refl _, by unfold maxLen; omega, by simp [hn], by simp [← hn]⟩⟩
def WRel (wb : World) (n : Nd) (v3 v24 : Value) (wr : World) : Prop := ∃ k : Nat, k ≤ n.l.length ∧ v24 = .int .i64 (k : Int) ∧ Buf wr wb.heap.size v3 (n.head ++ (n.l.take k).flatMap (ib n.lf)) ∧ Fr [] wb wr
theorem part_len (n : Nd) (k : Nat) : (n.head ++ (n.l.take k).flatMap (ib n.lf)).length ≤ n.size := by
  rw [List.length_append, n.head_len, size_eq, ibs_len]
  have := sumB_take n.lf n.l k
  unfold sumB at this ⊢
  omega
theorem enter_put16 (vs : Array Value) (w : World) : (callFunc 69 vs).run Tryz.prog w = .ok (.enter 69 vs) w := by kernel_rfl
theorem u8_wrap (m : Nat) (_h : m < 256) : IntKind.u8.wrap (m : Int) = ((UInt8.ofNat m).toNat : Int) := by rw [UInt8.toNat_ofNat', IntKind.wrap_u8]; omega
set_option maxRecDepth 100000 in
set_option maxHeartbeats 4000000 in
/-- A node as bytes. -/
theorem written_nd {D : Nat → Prop} {w : World} {base : Nat} {v : Value} {n : Nd} (h : NdV D w base v n) (hok : n.ok) (hsz : n.size ≤ 65536) :
    Calls Tryz.prog 67 #[v] w fun e w' => ∃ v', e = .returned v' ∧ (∃ g, BytesAt w' v' n.written g ∧ w.heap.size ≤ g) ∧ Fr [] w w' := by
  obtain ⟨A, c, cs, rfl, hc, hown, hits, hcell⟩ := h.parts
  clear h
  obtain ⟨wb, hwb⟩ : ∃ wb, wb = w.alloc (.cells #[.int .i64 (kindOf n), .int .i64 (n.first : Int), .slice A n.l.length c] 88) := ⟨_, rfl⟩
  have hf0 : Fr [] w wb := by rw [hwb]; exact (Fr.refl [] w).alloc _
  have hb : Blk wb w.heap.size 88 [.int .i64 (kindOf n), .int .i64 (n.first : Int), .slice A n.l.length c] := by rw [hwb]; exact Blk.new w _ [.int .i64 (kindOf n), .int .i64 (n.first : Int), .slice A n.l.length c]
  have HZB : Hid (w.heap.size ≤ wb.heap.size) := Lib.hid hf0.size
  have HB1 := Lib.hid hb; have HF0 := Lib.hid hf0; have HC := Lib.hid hcell; have HI := Lib.hid hits; have HOK := Lib.hid hok
  have HSZ := Lib.hid hsz
  have k0 := hb.at_ (i := 0) rfl
  have k1 := hb.at_ (i := 1) rfl
  have k2 := hb.at_ (i := 2) rfl
  have hfew := hok.few
  clear hb hf0 hcell hits hown hok hsz
  refine calls_post fun R HQ => ?_
  go_enter Tryz.func67, Tryz.ntmps67
  go_upto_region 1 with fail
  rw [← hwb]
  obtain ⟨u, hu⟩ : ∃ u : UInt8, u = if n.lf then 1 else 2 := ⟨_, rfl⟩
  have hku : IntKind.u8.wrap (kindOf n) = (u.toNat : Int) := by rw [hu]; unfold kindOf; cases n.lf <;> decide
  have HU := Lib.hid hu
  clear hu
  refine wp_region_lit ?_
  refine wpList_plain rfl fun K hK => ?_
  refine wp_run_same (v := ?au2_0) ?yu2_0 (hK _ _ ?_)
  case yu2_0 => go_simp <;> with_reducible rfl
  clear hK K
  simp only [nrm]
  refine wpList_plain rfl fun K hK => ?_
  refine wp_run_same (v := ?au3_1) ?yu3_1 (hK _ _ ?_)
  case yu3_1 => go_simp <;> with_reducible rfl
  clear hK K
  simp only [nrm]
  refine wpList_plain rfl fun K hK => ?_
  refine wp_run_same (v := ?au4_2) ?yu4_2 (hK _ _ ?_)
  case yu4_2 => go_simp <;> with_reducible rfl
  clear hK K
  simp only [nrm]
  obtain ⟨iu, hi, hz', hsz', hby⟩ := info_get info_u8z
  refine wpList_plain rfl fun K hK => ?_
  refine wp_build_cell (.tmp 8) rfl Tryz.underlying23 hi hz' hsz' rfl (.int .u8 (u.toNat : Int)) rfl rfl wb.heap.size rfl fun wy hb5 hf5 hz5 => hK _ _ ?_
  simp only [nrm]
  clear hK k0 k1 k2 hku hwb
  have k2 := (HB1.out.fr hf5 (by simp)).at_ (i := 2) rfl
  have HBF : Hid (Buf wy wb.heap.size (.slice (some ⟨wb.heap.size, 0, none⟩) 1 1) [u]) := Lib.hid (own_of_blk hb5 rfl (Nat.le_refl _) (by omega))
  have HFY := Lib.hid hf5
  have HP := Lib.hid (put16_any HBF.out n.l.length hfew (by simp) (by omega))
  clear hb5 hf5 hz5 hi hz' hsz' hby
  refine wpList_plain rfl fun K hK => ?_
  refine wp_run_same (v := ?au5_4) ?yu5_4 (hK _ _ ?_)
  case yu5_4 => go_simp <;> with_reducible rfl
  clear hK K
  simp only [nrm]
  refine wpList_plain rfl fun K hK => ?_
  refine wp_run_same (v := ?au6_5) ?yu6_5 (hK _ _ ?_)
  case yu6_5 => go_simp <;> with_reducible rfl
  clear hK K
  simp only [nrm]
  refine wpList_plain rfl fun K hK => ?_
  refine wp_run_same (v := ?au7_6) ?yu7_6 (hK _ _ ?_)
  case yu7_6 => go_simp <;> with_reducible rfl
  clear hK K
  simp only [nrm]
  refine wpList_plain rfl fun K hK => ?_
  refine wp_call_f (l := [.tmp 9, .tmp 12]) rfl [.slice (some ⟨wb.heap.size, 0, none⟩) 1 1, .int .i64 (n.l.length : Int)] rfl (enter_put16 _) (HP.out.mono ?_)
  rintro e w2 ⟨v2, rfl, hap⟩
  refine ⟨_, rfl, hK _ _ ?_⟩
  simp only [nrm]
  clear hK
  refine wpList_plain rfl fun K hK => ?_
  refine wp_run_same (v := ?au8_8) ?yu8_8 (hK _ _ ?_)
  case yu8_8 => go_simp <;> with_reducible rfl
  clear hK K
  simp only [nrm]
  refine wpList_nil ?_
  have HF2 : Hid (Fr [] wb w2) := Lib.hid (HFY.out.trans hap.fr (fun q hq => .inr (by have := (HBF.out.lt q (by simpa using hq)).1; omega)))
  have HBF2 : Hid (Buf w2 wb.heap.size v2 (u :: b16 n.l.length)) := Lib.hid hap.buf
  clear hap HP HBF HFY k2
  cases hlf : n.lf with
  | true =>
    have hkn : kindOf n = 1 := by unfold kindOf; rw [hlf]; rfl
    have HHD : Hid (n.head = u :: b16 n.l.length) := Lib.hid (by unfold Nd.head; rw [HU.out, hlf]; simp)
    have c0 := (HB1.out.fr HF2.out (by simp)).at_ (i := 0) rfl
    have c1 := (HB1.out.fr HF2.out (by simp)).at_ (i := 1) rfl
    have c2 := (HB1.out.fr HF2.out (by simp)).at_ (i := 2) rfl
    rw [hkn] at c0
    go_wp2_with fail
    refine (leaf_any w2 1 _ _).mono ?_
    rintro e w3 ⟨rfl, hwq⟩
    have hf3 : Fr [] w2 w3 := by rw [hwq]; exact (Fr.refl [] w2).alloc _
    have HF3 := Lib.hid (HF2.out.trans hf3 (by simp))
    have HBF3 : Hid (Buf w3 wb.heap.size v2 (n.head ++ (n.l.take 0).flatMap (ib n.lf))) := Lib.hid (by rw [HHD.out]; simpa using HBF2.out.fr hf3 (by simp))
    clear hwq c0 c1 c2 hf3
    have c1 := (HB1.out.fr HF3.out (by simp)).at_ (i := 1) rfl
    have c2 := (HB1.out.fr HF3.out (by simp)).at_ (i := 2) rfl
    go_wp2_with fail
    go_loopw [3, 24] (WRel wb n) (fun _ v _ => n.l.length - (intOf v).toNat)
    case atStart => exact ⟨0, Nat.zero_le _, rfl, HBF3.out, HF3.out⟩
    case round =>
      obtain ⟨k, hk, rfl, hbuf, hfr⟩ := hrel
      have HBUF := Lib.hid hbuf; have HFR := Lib.hid hfr
      clear hbuf hfr c1 c2
      by_cases hkn2 : k < n.l.length
      · obtain ⟨x, hx⟩ : ∃ x, n.l[k]? = some x := ⟨_, List.getElem?_eq_getElem hkn2⟩
        have hxm := List.mem_of_getElem? hx
        obtain ⟨kv, vv, av, d0, d1, d2, hic⟩ := HI.out.at_ hx
        obtain ⟨g, rfl, hcg⟩ := HC.out (by omega)
        have hfw := HF0.out.trans HFR.out (by simp)
        have i0 := fr_keep hfw (hcg _ _ d0)
        have i1 := fr_keep hfw (hcg _ _ d1)
        have i2 := fr_keep hfw (hcg _ _ d2)
        have HIC := Lib.hid hic; have HON := Lib.hid hic.one
        have HXO := Lib.hid (HOK.out.item x hxm)
        have HTK := Lib.hid (take_next hx)
        clear hx hxm hcg hic hfw d0 d1 d2
        go_wp2_with (first
          | (with_reducible refine wpList_alloc_z rfl 77 rfl (.agg #[.slice none 0 0, .slice none 0 0, .int .i64 0]) zit.toArray zero_it rfl ?_)
          | (refine wpList_store_z (W := wr) rfl 77 (.tmp 5) (.tmp 27) rfl [kv, vv, av] rfl rfl rfl size_it rfl HON.out ?_))
        intro w4 hb4 hf4 hz4
        obtain ⟨bb, hbb⟩ : ∃ bb, bb = n.head ++ (n.l.take k).flatMap (ib n.lf) := ⟨_, rfl⟩
        have hbl : bb.length ≤ 65536 := by rw [hbb]; exact Nat.le_trans (part_len n k) HSZ.out
        have HBB := Lib.hid hbb
        have HS : Hid (WSt wb w4 wb.heap.size u3 bb wr.heap.size [kv, vv, av]) := Lib.hid ⟨by rw [hbb]; exact HBUF.out.fr hf4 (by simp), hb4, fun e => by have := own_lt HBUF.out _ e; omega, HFR.out.trans hf4 (by simp), rfl⟩
        obtain ⟨⟨gk, hgk, _⟩, ⟨gv, hgv, _⟩, hav⟩ := HIC.out
        have HGK := Lib.hid hgk; have HGV := Lib.hid hgv
        obtain ⟨Ak, ck, ok, rfl, _, _⟩ := hgk
        obtain ⟨Av, cv, ov, rfl, _, _⟩ := hgv
        subst hav
        have hkl := HXO.out.k2
        have hvl := HXO.out.v
        have hwk := u8_wrap x.key.length (by omega)
        have hwv := u8_wrap x.v.length (by omega)
        obtain ⟨uk, huk⟩ : ∃ uk, uk = UInt8.ofNat x.key.length := ⟨_, rfl⟩
        obtain ⟨uv, huv⟩ : ∃ uv, uv = UInt8.ofNat x.v.length := ⟨_, rfl⟩
        rw [← huk] at hwk
        rw [← huv] at hwv
        have HUK := Lib.hid huk; have HUV := Lib.hid huv
        clear hb4 hf4 hz4 i0 i1 i2 hbb huk huv
        have hwk1 : IntKind.i64.wrap ((k : Int) + 1) = (k : Int) + 1 := by rw [IntKind.wrap_i64]; omega
        have x0 := HS.out.blk.at_ (i := 0) rfl
        have x1 := HS.out.blk.at_ (i := 1) rfl
        go_upto_region 7 with fail
        refine wp_region_lit ?_
        refine wpList_plain rfl fun K hK => ?_
        refine wp_run_same (v := ?au10_0) ?yu10_0 (hK _ _ ?_)
        case yu10_0 => go_simp <;> with_reducible rfl
        clear hK K
        simp only [nrm]
        refine wpList_plain rfl fun K hK => ?_
        refine wp_run_same (v := ?au11_1) ?yu11_1 (hK _ _ ?_)
        case yu11_1 => go_simp <;> with_reducible rfl
        clear hK K
        simp only [nrm]
        refine wpList_plain rfl fun K hK => ?_
        refine wp_run_same (v := ?au12_2) ?yu12_2 (hK _ _ ?_)
        case yu12_2 => go_simp <;> with_reducible rfl
        clear hK K
        simp only [nrm]
        refine wpList_plain rfl fun K hK => ?_
        refine wp_run_same (v := ?au13_3) ?yu13_3 (hK _ _ ?_)
        case yu13_3 => go_simp <;> with_reducible rfl
        clear hK K
        simp only [nrm]
        refine wpList_plain rfl fun K hK => ?_
        refine wp_run_same (v := ?au14_4) ?yu14_4 (hK _ _ ?_)
        case yu14_4 => go_simp <;> with_reducible rfl
        clear hK K
        simp only [nrm]
        refine wpList_plain rfl fun K hK => ?_
        refine wp_run_same (v := ?au15_5) ?yu15_5 (hK _ _ ?_)
        case yu15_5 => go_simp <;> with_reducible rfl
        clear hK K
        simp only [nrm]
        obtain ⟨iu, hi, hz', hsz', hby⟩ := info_get info_u8z
        refine wpList_plain rfl fun K hK => ?_
        refine wp_build_cell (.tmp 33) rfl Tryz.underlying23 hi hz' hsz' rfl (.int .u8 (uk.toNat : Int)) rfl rfl w4.heap.size rfl fun wy5 hby5 hfy hzy => hK _ _ ?_
        simp only [nrm]
        clear hK
        refine wpList_plain rfl fun K hK => ?_
        refine wp_append_buf (.tmp 28) (.tmp 34) rfl rfl (HS.out.buf.fr hfy (by simp)) (by have := HS.out.hH; omega) (BytesAt.of_blk (bs := [uk]) hby5 1 (Nat.le_refl _)) (by first | omega | (simp only [List.length_append, List.length_cons, List.length_nil]; omega)) (by simp) fun v5 w5 hap => hK _ _ ?_
        simp only [nrm]
        clear hK
        refine wpList_plain rfl fun K hK => ?_
        refine wp_run_same (v := ?au16_8) ?yu16_8 (hK _ _ ?_)
        case yu16_8 => go_simp <;> with_reducible rfl
        clear hK K
        simp only [nrm]
        refine wpList_nil ?_
        have HS := Lib.hid ((HS.out.frame hfy).app hap)
        clear hap hby5 hfy hzy x0 x1 hi hz' hsz' hby
        have c0 := (HB1.out.fr HS.out.fr (by simp)).at_ (i := 0) rfl
        have c1 := (HB1.out.fr HS.out.fr (by simp)).at_ (i := 1) rfl
        have c2 := (HB1.out.fr HS.out.fr (by simp)).at_ (i := 2) rfl
        rw [hkn] at c0
        go_wp2_with fail
        refine (leaf_any w5 1 _ _).mono ?_
        rintro e w6 ⟨rfl, hwq⟩
        have HS := Lib.hid (HS.out.frame (show Fr [] w5 w6 by rw [hwq]; exact (Fr.refl [] w5).alloc _))
        clear hwq c0 c1 c2
        have x0 := HS.out.blk.at_ (i := 0) rfl
        have x1 := HS.out.blk.at_ (i := 1) rfl
        go_upto_region 9 with fail
        refine wp_region_lit ?_
        refine wpList_plain rfl fun K hK => ?_
        refine wp_run_same (v := ?au18_0) ?yu18_0 (hK _ _ ?_)
        case yu18_0 => go_simp <;> with_reducible rfl
        clear hK K
        simp only [nrm]
        refine wpList_plain rfl fun K hK => ?_
        refine wp_run_same (v := ?au19_1) ?yu19_1 (hK _ _ ?_)
        case yu19_1 => go_simp <;> with_reducible rfl
        clear hK K
        simp only [nrm]
        refine wpList_plain rfl fun K hK => ?_
        refine wp_run_same (v := ?au20_2) ?yu20_2 (hK _ _ ?_)
        case yu20_2 => go_simp <;> with_reducible rfl
        clear hK K
        simp only [nrm]
        refine wpList_plain rfl fun K hK => ?_
        refine wp_run_same (v := ?au21_3) ?yu21_3 (hK _ _ ?_)
        case yu21_3 => go_simp <;> with_reducible rfl
        clear hK K
        simp only [nrm]
        refine wpList_plain rfl fun K hK => ?_
        refine wp_run_same (v := ?au22_4) ?yu22_4 (hK _ _ ?_)
        case yu22_4 => go_simp <;> with_reducible rfl
        clear hK K
        simp only [nrm]
        refine wpList_plain rfl fun K hK => ?_
        refine wp_run_same (v := ?au23_5) ?yu23_5 (hK _ _ ?_)
        case yu23_5 => go_simp <;> with_reducible rfl
        clear hK K
        simp only [nrm]
        obtain ⟨iu, hi, hz', hsz', hby⟩ := info_get info_u8z
        refine wpList_plain rfl fun K hK => ?_
        refine wp_build_cell (.tmp 43) rfl Tryz.underlying23 hi hz' hsz' rfl (.int .u8 (uv.toNat : Int)) rfl rfl w6.heap.size rfl fun wy7 hby5 hfy hzy => hK _ _ ?_
        simp only [nrm]
        clear hK
        refine wpList_plain rfl fun K hK => ?_
        refine wp_append_buf (.tmp 38) (.tmp 44) rfl rfl (HS.out.buf.fr hfy (by simp)) (by have := HS.out.hH; omega) (BytesAt.of_blk (bs := [uv]) hby5 1 (Nat.le_refl _)) (by first | omega | (simp only [List.length_append, List.length_cons, List.length_nil]; omega)) (by simp) fun v7 w7 hap => hK _ _ ?_
        simp only [nrm]
        clear hK
        refine wpList_plain rfl fun K hK => ?_
        refine wp_run_same (v := ?au24_8) ?yu24_8 (hK _ _ ?_)
        case yu24_8 => go_simp <;> with_reducible rfl
        clear hK K
        simp only [nrm]
        refine wpList_nil ?_
        have HS := Lib.hid ((HS.out.frame hfy).app hap)
        clear hap hby5 hfy hzy x0 x1 hi hz' hsz' hby
        have x0 := HS.out.blk.at_ (i := 0) rfl
        have x1 := HS.out.blk.at_ (i := 1) rfl
        go_upto_region 10 with fail
        refine wp_region_lit ?_
        refine wpList_plain rfl fun K hK => ?_
        refine wp_run_same (v := ?au26_0) ?yu26_0 (hK _ _ ?_)
        case yu26_0 => go_simp <;> with_reducible rfl
        clear hK K
        simp only [nrm]
        refine wpList_plain rfl fun K hK => ?_
        refine wp_run_same (v := ?au27_1) ?yu27_1 (hK _ _ ?_)
        case yu27_1 => go_simp <;> with_reducible rfl
        clear hK K
        simp only [nrm]
        refine wpList_plain rfl fun K hK => ?_
        refine wp_run_same (v := ?au28_2) ?yu28_2 (hK _ _ ?_)
        case yu28_2 => go_simp <;> with_reducible rfl
        clear hK K
        simp only [nrm]
        refine wpList_plain rfl fun K hK => ?_
        refine wp_run_same (v := ?au29_3) ?yu29_3 (hK _ _ ?_)
        case yu29_3 => go_simp <;> with_reducible rfl
        clear hK K
        simp only [nrm]
        refine wpList_plain rfl fun K hK => ?_
        refine wp_append_buf (.tmp 46) (.tmp 49) rfl rfl HS.out.buf HS.out.hH (HGK.out.fr (HF0.out.trans HS.out.fr (by simp)) (by simp)) (by first | omega | (simp only [List.length_append, List.length_cons, List.length_nil]; omega)) (by omega) fun v8 w8 hap => hK _ _ ?_
        simp only [nrm]
        clear hK
        refine wpList_plain rfl fun K hK => ?_
        refine wp_run_same (v := ?au30_5) ?yu30_5 (hK _ _ ?_)
        case yu30_5 => go_simp <;> with_reducible rfl
        clear hK K
        simp only [nrm]
        refine wpList_nil ?_
        have HS := Lib.hid (HS.out.app hap)
        clear hap x0 x1
        have c0 := (HB1.out.fr HS.out.fr (by simp)).at_ (i := 0) rfl
        have c1 := (HB1.out.fr HS.out.fr (by simp)).at_ (i := 1) rfl
        have c2 := (HB1.out.fr HS.out.fr (by simp)).at_ (i := 2) rfl
        rw [hkn] at c0
        go_wp2_with fail
        refine (leaf_any w8 1 _ _).mono ?_
        rintro e w9 ⟨rfl, hwq⟩
        have HS := Lib.hid (HS.out.frame (show Fr [] w8 w9 by rw [hwq]; exact (Fr.refl [] w8).alloc _))
        clear hwq c0 c1 c2
        have x0 := HS.out.blk.at_ (i := 0) rfl
        have x1 := HS.out.blk.at_ (i := 1) rfl
        go_upto_region 12 with fail
        refine wp_region_lit ?_
        refine wpList_plain rfl fun K hK => ?_
        refine wp_run_same (v := ?au32_0) ?yu32_0 (hK _ _ ?_)
        case yu32_0 => go_simp <;> with_reducible rfl
        clear hK K
        simp only [nrm]
        refine wpList_plain rfl fun K hK => ?_
        refine wp_run_same (v := ?au33_1) ?yu33_1 (hK _ _ ?_)
        case yu33_1 => go_simp <;> with_reducible rfl
        clear hK K
        simp only [nrm]
        refine wpList_plain rfl fun K hK => ?_
        refine wp_run_same (v := ?au34_2) ?yu34_2 (hK _ _ ?_)
        case yu34_2 => go_simp <;> with_reducible rfl
        clear hK K
        simp only [nrm]
        refine wpList_plain rfl fun K hK => ?_
        refine wp_run_same (v := ?au35_3) ?yu35_3 (hK _ _ ?_)
        case yu35_3 => go_simp <;> with_reducible rfl
        clear hK K
        simp only [nrm]
        refine wpList_plain rfl fun K hK => ?_
        refine wp_append_buf (.tmp 53) (.tmp 56) rfl rfl HS.out.buf HS.out.hH (HGV.out.fr (HF0.out.trans HS.out.fr (by simp)) (by simp)) (by first | omega | (simp only [List.length_append, List.length_cons, List.length_nil]; omega)) (by omega) fun v10 w10 hap => hK _ _ ?_
        simp only [nrm]
        clear hK
        refine wpList_plain rfl fun K hK => ?_
        refine wp_run_same (v := ?au36_5) ?yu36_5 (hK _ _ ?_)
        case yu36_5 => go_simp <;> with_reducible rfl
        clear hK K
        simp only [nrm]
        refine wpList_nil ?_
        have HS := Lib.hid (HS.out.app hap)
        clear hap x0 x1
        have HX : Hid (WRel wb n v10 (.int .i64 ((k : Int) + 1)) w10) := Lib.hid ⟨k + 1, hkn2, rfl, by
          have e : n.head ++ (n.l.take (k + 1)).flatMap (ib n.lf) = (((bb ++ [uk]) ++ [uv]) ++ x.key) ++ x.v := by
            rw [HTK.out, List.flatMap_append, ← List.append_assoc, ← HBB.out]
            simp [ib, hlf, HUK.out, HUV.out]
          rw [e]
          exact HS.out.buf, HS.out.fr⟩
        clear HS
        go_wp2_with fail
        go_roundw
        case rel => exact HX.out
        case measure => simp [intOf]; omega
      · obtain rfl : k = n.l.length := by omega
        obtain ⟨gb, hgb, hgg⟩ := bytes_of_own (own_base HBUF.out (fun _ _ => Nat.zero_le _)) (fun q hq => (HBUF.out.lt q hq).1)
        have HE : Hid (R (.returned u3) wr) := Lib.hid (HQ.out _ _ ⟨_, rfl, ⟨gb, by
          have e : n.head ++ (n.l.take n.l.length).flatMap (ib n.lf) = n.written := by rw [List.take_of_length_le (Nat.le_refl _)]; rfl
          rw [e] at hgb
          obtain ⟨_, _, hsh⟩ := HBUF.out.shape
          rw [e] at hsh
          exact hgb, by have := HZB.out; omega⟩, HF0.out.trans HFR.out (by simp)⟩)
        clear hgb hgg
        go_wp2_with fail

        exact HE.out
  | false =>
    have hkn : kindOf n = 2 := by unfold kindOf; rw [hlf]; rfl
    have HHD : Hid (n.head = (u :: b16 n.l.length) ++ b16 n.first) := Lib.hid (by unfold Nd.head; rw [HU.out, hlf]; simp)
    have hfst := HOK.out.first
    have c0 := (HB1.out.fr HF2.out (by simp)).at_ (i := 0) rfl
    have c1 := (HB1.out.fr HF2.out (by simp)).at_ (i := 1) rfl
    have c2 := (HB1.out.fr HF2.out (by simp)).at_ (i := 2) rfl
    rw [hkn] at c0
    go_wp2_with fail
    refine (leaf_any w2 2 _ _).mono ?_
    rintro e w3 ⟨rfl, hwq⟩
    have hf3 : Fr [] w2 w3 := by rw [hwq]; exact (Fr.refl [] w2).alloc _
    have HF3 := Lib.hid (HF2.out.trans hf3 (by simp))
    have HBF3 := Lib.hid (HBF2.out.fr hf3 (by simp))
    clear hwq c0 c1 c2 hf3
    have c1 := (HB1.out.fr HF3.out (by simp)).at_ (i := 1) rfl
    have HPU := Lib.hid (put16_any HBF3.out n.first hfst (by simp [b16]) (by have := HF3.out.size; omega))
    go_wp2_with fail
    refine HPU.out.mono ?_
    rintro e w33 ⟨v3, rfl, hap⟩
    have HF33 : Hid (Fr [] wb w33) := Lib.hid (hap.fr0 HBF3.out (Nat.le_refl _) HF3.out)
    have HBF33 : Hid (Buf w33 wb.heap.size v3 (n.head ++ (n.l.take 0).flatMap (ib n.lf))) := Lib.hid (by rw [HHD.out]; simpa using hap.buf)
    clear hap HPU c1 HBF3 HF3
    have HF3 := HF33
    have HBF3 := HBF33
    have c1 := (HB1.out.fr HF3.out (by simp)).at_ (i := 1) rfl
    have c2 := (HB1.out.fr HF3.out (by simp)).at_ (i := 2) rfl
    go_wp2_with fail
    go_loopw [3, 24] (WRel wb n) (fun _ v _ => n.l.length - (intOf v).toNat)
    case atStart => exact ⟨0, Nat.zero_le _, rfl, HBF3.out, HF3.out⟩
    case round =>
      obtain ⟨k, hk, rfl, hbuf, hfr⟩ := hrel
      have HBUF := Lib.hid hbuf; have HFR := Lib.hid hfr
      clear hbuf hfr c1 c2
      by_cases hkn2 : k < n.l.length
      · obtain ⟨x, hx⟩ : ∃ x, n.l[k]? = some x := ⟨_, List.getElem?_eq_getElem hkn2⟩
        have hxm := List.mem_of_getElem? hx
        obtain ⟨kv, vv, av, d0, d1, d2, hic⟩ := HI.out.at_ hx
        obtain ⟨g, rfl, hcg⟩ := HC.out (by omega)
        have hfw := HF0.out.trans HFR.out (by simp)
        have i0 := fr_keep hfw (hcg _ _ d0)
        have i1 := fr_keep hfw (hcg _ _ d1)
        have i2 := fr_keep hfw (hcg _ _ d2)
        have HIC := Lib.hid hic; have HON := Lib.hid hic.one
        have HXO := Lib.hid (HOK.out.item x hxm)
        have HTK := Lib.hid (take_next hx)
        clear hx hxm hcg hic hfw d0 d1 d2
        go_wp2_with (first
          | (with_reducible refine wpList_alloc_z rfl 77 rfl (.agg #[.slice none 0 0, .slice none 0 0, .int .i64 0]) zit.toArray zero_it rfl ?_)
          | (refine wpList_store_z (W := wr) rfl 77 (.tmp 5) (.tmp 27) rfl [kv, vv, av] rfl rfl rfl size_it rfl HON.out ?_))
        intro w4 hb4 hf4 hz4
        obtain ⟨bb, hbb⟩ : ∃ bb, bb = n.head ++ (n.l.take k).flatMap (ib n.lf) := ⟨_, rfl⟩
        have hbl : bb.length ≤ 65536 := by rw [hbb]; exact Nat.le_trans (part_len n k) HSZ.out
        have HBB := Lib.hid hbb
        have HS : Hid (WSt wb w4 wb.heap.size u3 bb wr.heap.size [kv, vv, av]) := Lib.hid ⟨by rw [hbb]; exact HBUF.out.fr hf4 (by simp), hb4, fun e => by have := own_lt HBUF.out _ e; omega, HFR.out.trans hf4 (by simp), rfl⟩
        obtain ⟨⟨gk, hgk, _⟩, ⟨gv, hgv, _⟩, hav⟩ := HIC.out
        have HGK := Lib.hid hgk; have HGV := Lib.hid hgv
        obtain ⟨Ak, ck, ok, rfl, _, _⟩ := hgk
        obtain ⟨Av, cv, ov, rfl, _, _⟩ := hgv
        subst hav
        have hkl := HXO.out.k2
        have hvl := HXO.out.v
        have hwk := u8_wrap x.key.length (by omega)
        have hwv := u8_wrap x.v.length (by omega)
        obtain ⟨uk, huk⟩ : ∃ uk, uk = UInt8.ofNat x.key.length := ⟨_, rfl⟩
        obtain ⟨uv, huv⟩ : ∃ uv, uv = UInt8.ofNat x.v.length := ⟨_, rfl⟩
        rw [← huk] at hwk
        rw [← huv] at hwv
        have HUK := Lib.hid huk; have HUV := Lib.hid huv
        clear hb4 hf4 hz4 i0 i1 i2 hbb huk huv
        have hwk1 : IntKind.i64.wrap ((k : Int) + 1) = (k : Int) + 1 := by rw [IntKind.wrap_i64]; omega
        have x0 := HS.out.blk.at_ (i := 0) rfl
        have x1 := HS.out.blk.at_ (i := 1) rfl
        go_upto_region 7 with fail
        refine wp_region_lit ?_
        refine wpList_plain rfl fun K hK => ?_
        refine wp_run_same (v := ?au38_0) ?yu38_0 (hK _ _ ?_)
        case yu38_0 => go_simp <;> with_reducible rfl
        clear hK K
        simp only [nrm]
        refine wpList_plain rfl fun K hK => ?_
        refine wp_run_same (v := ?au39_1) ?yu39_1 (hK _ _ ?_)
        case yu39_1 => go_simp <;> with_reducible rfl
        clear hK K
        simp only [nrm]
        refine wpList_plain rfl fun K hK => ?_
        refine wp_run_same (v := ?au40_2) ?yu40_2 (hK _ _ ?_)
        case yu40_2 => go_simp <;> with_reducible rfl
        clear hK K
        simp only [nrm]
        refine wpList_plain rfl fun K hK => ?_
        refine wp_run_same (v := ?au41_3) ?yu41_3 (hK _ _ ?_)
        case yu41_3 => go_simp <;> with_reducible rfl
        clear hK K
        simp only [nrm]
        refine wpList_plain rfl fun K hK => ?_
        refine wp_run_same (v := ?au42_4) ?yu42_4 (hK _ _ ?_)
        case yu42_4 => go_simp <;> with_reducible rfl
        clear hK K
        simp only [nrm]
        refine wpList_plain rfl fun K hK => ?_
        refine wp_run_same (v := ?au43_5) ?yu43_5 (hK _ _ ?_)
        case yu43_5 => go_simp <;> with_reducible rfl
        clear hK K
        simp only [nrm]
        obtain ⟨iu, hi, hz', hsz', hby⟩ := info_get info_u8z
        refine wpList_plain rfl fun K hK => ?_
        refine wp_build_cell (.tmp 33) rfl Tryz.underlying23 hi hz' hsz' rfl (.int .u8 (uk.toNat : Int)) rfl rfl w4.heap.size rfl fun wy5 hby5 hfy hzy => hK _ _ ?_
        simp only [nrm]
        clear hK
        refine wpList_plain rfl fun K hK => ?_
        refine wp_append_buf (.tmp 28) (.tmp 34) rfl rfl (HS.out.buf.fr hfy (by simp)) (by have := HS.out.hH; omega) (BytesAt.of_blk (bs := [uk]) hby5 1 (Nat.le_refl _)) (by first | omega | (simp only [List.length_append, List.length_cons, List.length_nil]; omega)) (by simp) fun v5 w5 hap => hK _ _ ?_
        simp only [nrm]
        clear hK
        refine wpList_plain rfl fun K hK => ?_
        refine wp_run_same (v := ?au44_8) ?yu44_8 (hK _ _ ?_)
        case yu44_8 => go_simp <;> with_reducible rfl
        clear hK K
        simp only [nrm]
        refine wpList_nil ?_
        have HS := Lib.hid ((HS.out.frame hfy).app hap)
        clear hap hby5 hfy hzy x0 x1 hi hz' hsz' hby
        have c0 := (HB1.out.fr HS.out.fr (by simp)).at_ (i := 0) rfl
        have c1 := (HB1.out.fr HS.out.fr (by simp)).at_ (i := 1) rfl
        have c2 := (HB1.out.fr HS.out.fr (by simp)).at_ (i := 2) rfl
        rw [hkn] at c0
        go_wp2_with fail
        refine (leaf_any w5 2 _ _).mono ?_
        rintro e w6 ⟨rfl, hwq⟩
        have HS := Lib.hid (HS.out.frame (show Fr [] w5 w6 by rw [hwq]; exact (Fr.refl [] w5).alloc _))
        clear hwq c0 c1 c2
        have x0 := HS.out.blk.at_ (i := 0) rfl
        have x1 := HS.out.blk.at_ (i := 1) rfl
        go_upto_region 10 with fail
        refine wp_region_lit ?_
        refine wpList_plain rfl fun K hK => ?_
        refine wp_run_same (v := ?au46_0) ?yu46_0 (hK _ _ ?_)
        case yu46_0 => go_simp <;> with_reducible rfl
        clear hK K
        simp only [nrm]
        refine wpList_plain rfl fun K hK => ?_
        refine wp_run_same (v := ?au47_1) ?yu47_1 (hK _ _ ?_)
        case yu47_1 => go_simp <;> with_reducible rfl
        clear hK K
        simp only [nrm]
        refine wpList_plain rfl fun K hK => ?_
        refine wp_run_same (v := ?au48_2) ?yu48_2 (hK _ _ ?_)
        case yu48_2 => go_simp <;> with_reducible rfl
        clear hK K
        simp only [nrm]
        refine wpList_plain rfl fun K hK => ?_
        refine wp_run_same (v := ?au49_3) ?yu49_3 (hK _ _ ?_)
        case yu49_3 => go_simp <;> with_reducible rfl
        clear hK K
        simp only [nrm]
        refine wpList_plain rfl fun K hK => ?_
        refine wp_append_buf (.tmp 46) (.tmp 49) rfl rfl HS.out.buf HS.out.hH (HGK.out.fr (HF0.out.trans HS.out.fr (by simp)) (by simp)) (by first | omega | (simp only [List.length_append, List.length_cons, List.length_nil]; omega)) (by omega) fun v8 w8 hap => hK _ _ ?_
        simp only [nrm]
        clear hK
        refine wpList_plain rfl fun K hK => ?_
        refine wp_run_same (v := ?au50_5) ?yu50_5 (hK _ _ ?_)
        case yu50_5 => go_simp <;> with_reducible rfl
        clear hK K
        simp only [nrm]
        refine wpList_nil ?_
        have HS := Lib.hid (HS.out.app hap)
        clear hap x0 x1
        have c0 := (HB1.out.fr HS.out.fr (by simp)).at_ (i := 0) rfl
        have c1 := (HB1.out.fr HS.out.fr (by simp)).at_ (i := 1) rfl
        have c2 := (HB1.out.fr HS.out.fr (by simp)).at_ (i := 2) rfl
        rw [hkn] at c0
        go_wp2_with fail
        refine (leaf_any w8 2 _ _).mono ?_
        rintro e w9 ⟨rfl, hwq⟩
        have HS := Lib.hid (HS.out.frame (show Fr [] w8 w9 by rw [hwq]; exact (Fr.refl [] w8).alloc _))
        clear hwq c0 c1 c2
        have x2 := HS.out.blk.at_ (i := 2) rfl
        have HPX := Lib.hid (put16_any HS.out.buf x.at_ HXO.out.at_ (by simp only [List.length_append, List.length_cons, List.length_nil]; omega) HS.out.hH)
        go_wp2_with fail
        refine HPX.out.mono ?_
        rintro e w10 ⟨v10, rfl, hap⟩
        have HS := Lib.hid (HS.out.app hap)
        clear hap x2 HPX
        have HX : Hid (WRel wb n v10 (.int .i64 ((k : Int) + 1)) w10) := Lib.hid ⟨k + 1, hkn2, rfl, by
          have e : n.head ++ (n.l.take (k + 1)).flatMap (ib n.lf) = ((bb ++ [uk]) ++ x.key) ++ b16 x.at_ := by
            rw [HTK.out, List.flatMap_append, ← List.append_assoc, ← HBB.out]
            simp [ib, hlf, HUK.out]
          rw [e]
          exact HS.out.buf, HS.out.fr⟩
        clear HS
        go_wp2_with fail
        go_roundw
        case rel => exact HX.out
        case measure => simp [intOf]; omega
      · obtain rfl : k = n.l.length := by omega
        obtain ⟨gb, hgb, hgg⟩ := bytes_of_own (own_base HBUF.out (fun _ _ => Nat.zero_le _)) (fun q hq => (HBUF.out.lt q hq).1)
        have HE : Hid (R (.returned u3) wr) := Lib.hid (HQ.out _ _ ⟨_, rfl, ⟨gb, by
          have e : n.head ++ (n.l.take n.l.length).flatMap (ib n.lf) = n.written := by rw [List.take_of_length_le (Nat.le_refl _)]; rfl
          rw [e] at hgb
          obtain ⟨_, _, hsh⟩ := HBUF.out.shape
          rw [e] at hsh
          exact hgb, by have := HZB.out; omega⟩, HF0.out.trans HFR.out (by simp)⟩)
        clear hgb hgg
        go_wp2_with fail

        exact HE.out
end Go.Proofs.YtpjbdpepofnleaaGreat
end
section
namespace Go.Proofs.YtpjbdpepofnleaaGreat
open Go.RowKit Go.ChangeMaps Go.MapKept Go.Maps Go.Sort Go.Shelf
def heldR (v : Value) : Option (DataW Value × List MemPlace) := some (.held v, [])
def entV (p : Nat × Value) : Lit × DataW Value := (.int .i64 (p.1 : Int), .held p.2)
def toV (m : List (Nat × Value)) : DataW Value := .map (m.map entV)
theorem insert_V (x : Nat × Value) : ∀ m : List (Nat × Value), DataW.insert (entV x) (m.map entV) = (insA x m).map entV
  | [] => rfl
  | y :: m => by
    have e : (entV x).1.before (entV y).1 = decide (x.1 < y.1) := by
      show decide ((x.1 : Int) < (y.1 : Int)) = _
      rw [Bool.eq_iff_iff, decide_eq_true_iff, decide_eq_true_iff]
      omega
    rw [List.map_cons, DataW.insert, e, insA]
    by_cases h : x.1 < y.1
    · rw [if_pos (by simpa using h), if_pos h]; rfl
    · rw [if_neg (by simpa using h), if_neg h, List.map_cons, insert_V x m]
theorem same_V (p : Nat × Value) (k : Nat) : (entV p).1.sameKey (.int .i64 (k : Int)) = decide (p.1 = k) := by
  show decide (IntKind.i64 = IntKind.i64 ∧ (p.1 : Int) = (k : Int)) = _
  rw [Bool.eq_iff_iff, decide_eq_true_iff, decide_eq_true_iff]
  exact ⟨fun h => by have := h.2; omega, fun h => ⟨rfl, by omega⟩⟩
theorem del_V (m : List (Nat × Value)) (k : Nat) : (toV m).del (.int .i64 (k : Int)) = toV (delA m k) := by
  unfold toV delA DataW.del
  simp only
  rw [List.filter_map, show ((fun p => !p.1.sameKey (.int .i64 (k : Int))) ∘ entV) = (fun p : Nat × Value => !decide (p.1 = k)) from funext fun p => by rw [Function.comp, same_V]]
theorem put_V (m : List (Nat × Value)) (k : Nat) (b : Value) : (toV m).put (.int .i64 (k : Int)) (.held b) = toV (putA m k b) := by
  unfold toV putA DataW.put
  simp only
  rw [List.filter_map, show ((fun p => !p.1.sameKey (.int .i64 (k : Int))) ∘ entV) = (fun p : Nat × Value => !decide (p.1 = k)) from funext fun p => by rw [Function.comp, same_V]]
  exact congrArg _ (insert_V (k, b) _)
theorem find_V (k : Nat) : ∀ m : List (Nat × Value), (m.map entV).find? (fun p => p.1.sameKey (.int .i64 (k : Int))) = (m.find? fun p => decide (p.1 = k)).map entV
  | [] => rfl
  | p :: m => by
    rw [List.map_cons, List.find?_cons, List.find?_cons, same_V, find_V k m]
    cases decide (p.1 = k) <;> rfl
theorem at_V (m : List (Nat × Value)) (k : Nat) (z : Value) : (toV m).atKey (.int .i64 (k : Int)) (.held z) = .held ((getA m k).getD z) := by
  unfold toV DataW.atKey getA
  simp only
  rw [find_V]
  cases m.find? fun p => decide (p.1 = k) <;> rfl
theorem has_V (m : List (Nat × Value)) (k : Nat) : Maps.has (toV m) (.int .i64 (k : Int)) = (getA m k).isSome := by
  unfold toV
  rw [Maps.has_eq, List.any_map, show ((fun p => p.1.sameKey (.int .i64 (k : Int))) ∘ entV) = (fun p : Nat × Value => decide (p.1 = k)) from funext fun p => same_V p k]
  unfold getA
  induction m with
  | nil => rfl
  | cons p m ih =>
    rw [List.any_cons, List.find?_cons]
    cases h : decide (p.1 = k)
    · simpa using ih
    · simp
theorem size_V (m : List (Nat × Value)) : Maps.size (toV m) = m.length := by unfold toV; rw [Maps.size_eq, List.length_map]
theorem keys_V (m : List (Nat × Value)) : intKeys (toV m) = m.map fun p => (p.1 : Int) := by
  unfold toV intKeys
  simp only [List.map_map]
  rfl
def VAt (w : World) (b : Nat) (m : List (Nat × Value)) : Prop := w.ownsMap Tryz.prog 3 heldR b m.length (toV m)
section
variable {w w' : World} {b : Nat} {m : List (Nat × Value)}
theorem VAt.of {n : Nat} (h : w.ownsMap Tryz.prog 3 heldR b n (toV m)) : VAt w b m := by
  obtain ⟨es, clock, hb, F, _, hD⟩ := h
  refine ⟨es, clock, hb, F, ?_, hD⟩
  have := congrArg Maps.size hD
  rw [size_V, Maps.size_eq, length_read] at this
  omega
theorem VAt.lt (h : VAt w b m) : b < w.heap.size := World.ownsMap.lt h
theorem VAt.fr {S : List Nat} (h : VAt w b m) (hf : Fr S w w') (hb : b ∉ S) : VAt w' b m := by
  have hlt := h.lt
  obtain ⟨es, clock, h1, h2⟩ := h
  exact ⟨es, clock, by rw [hf.block b hlt hb]; exact h1, h2⟩
theorem VAt.ne_blk (h : VAt w b m) {g : Nat} {t : TypeId} {cs : List Value} (hg : Blk w g t cs) : b ≠ g := by
  rintro rfl
  obtain ⟨es, clock, h1, _⟩ := h
  unfold Blk at hg
  rw [h1] at hg
  injection hg with hg
  cases hg
theorem VAt.new (w : World) : VAt (w.alloc (.map #[] 0)) w.heap.size [] := World.ownsMap_made w Tryz.prog 3 heldR
theorem held_out {v u : Value} {ps : List MemPlace} (h : heldR v = some (.held u, ps)) : v = u := by
  unfold heldR at h
  injection h with h
  injection h with h _
  injection h
theorem VAt.look_ok {t e : TypeId} {z : Value} (h : VAt w b m) (ht : Tryz.prog.underlying t = some (.map 3 e)) (hz : (zeroValue e).run Tryz.prog w = .ok z w) {k : Nat} (hk : k ≤ 9223372036854775807) :
    (Instr.lookup t (.map (some b)) (.int .i64 (k : Int)) true).run Tryz.prog w = .ok (.tuple #[(getA m k).getD z, .bool (getA m k).isSome]) w := by
  obtain ⟨v, ps, h1, h2⟩ := World.ownsMap.look_ok h int_K ht hz (zd := .held z) (zp := []) rfl (key_i64 hk)
  rw [h1, has_V]
  rw [at_V] at h2
  rw [held_out h2]
theorem VAt.look {t e : TypeId} {z : Value} (h : VAt w b m) (ht : Tryz.prog.underlying t = some (.map 3 e)) (hz : (zeroValue e).run Tryz.prog w = .ok z w) {k : Nat} (hk : k ≤ 9223372036854775807) :
    (Instr.lookup t (.map (some b)) (.int .i64 (k : Int)) false).run Tryz.prog w = .ok ((getA m k).getD z) w := by
  obtain ⟨v, ps, h1, h2⟩ := World.ownsMap.lookup h int_K ht hz (zd := .held z) (zp := []) rfl (key_i64 hk)
  rw [h1]
  rw [at_V] at h2
  rw [held_out h2]
theorem VAt.store {t e : TypeId} (h : VAt w b m) (ht : Tryz.prog.underlying t = some (.map 3 e)) {k : Nat} (hk : k ≤ 9223372036854775807) (hm : m.length < 9223372036854775807) (x : Value) :
    ∃ w', (Instr.mapUpdate t (.map (some b)) (.int .i64 (k : Int)) x).run Tryz.prog w = .ok () w' ∧ VAt w' b (putA m k x) ∧ Fr [b] w w' ∧ w'.heap.size = w.heap.size := by
  obtain ⟨w', h1, h2, h3⟩ := World.ownsMap.store h int_K ht (by unfold maxLen; exact hm) (key_i64 hk) (val := x) (d := .held x) (ps := []) rfl
  rw [put_V] at h2
  refine ⟨w', h1, VAt.of h2, (Fr.refl [b] w).grown h3.grown (fun g hg => by cases hg; exact .inl (by simp)), ?_⟩
  obtain ⟨es, clock, es', clock', _, rfl⟩ := h3
  simp [setBlock]
theorem VAt.drop {t e : TypeId} (h : VAt w b m) (ht : Tryz.prog.underlying t = some (.map 3 e)) {k : Nat} (hk : k ≤ 9223372036854775807) (ty : TypeId) :
    ∃ w', (Builtin.delete_ #[t, 3] ty #[.map (some b), .int .i64 (k : Int)]).run Tryz.prog w = .ok (.tuple #[]) w' ∧ VAt w' b (delA m k) ∧ Fr [b] w w' ∧ w'.heap.size = w.heap.size := by
  obtain ⟨w', h1, h2, h3⟩ := World.ownsMap.drop h int_K ht (key_i64 hk) ty
  rw [del_V] at h2
  refine ⟨w', h1, VAt.of h2, (Fr.refl [b] w).grown h3.grown (fun g hg => by cases hg; exact .inl (by simp)), ?_⟩
  obtain ⟨es, clock, es', clock', _, rfl⟩ := h3
  simp [setBlock]
end
section
variable {α : Type}
def Vals (R : Value → α → Prop) : List (Nat × Value) → List (Nat × α) → Prop
  | [], [] => True
  | p :: vs, q :: m => p.1 = q.1 ∧ R p.2 q.2 ∧ Vals R vs m
  | _, _ => False
theorem Vals.mono {R R' : Value → α → Prop} : ∀ {vs : List (Nat × Value)} {m : List (Nat × α)}, Vals R vs m → (∀ v a k, (k, a) ∈ m → R v a → R' v a) → Vals R' vs m
  | [], [], _, _ => trivial
  | _p :: _vs, q :: _m, h, hR => ⟨h.1, hR _ _ q.1 (List.mem_cons_self ..) h.2.1, Vals.mono h.2.2 fun v a k hk => hR v a k (List.mem_cons_of_mem _ hk)⟩
  | [], _ :: _, h, _ => h.elim
  | _ :: _, [], h, _ => h.elim
theorem Vals.len {R : Value → α → Prop} : ∀ {vs : List (Nat × Value)} {m : List (Nat × α)}, Vals R vs m → vs.length = m.length
  | [], [], _ => rfl
  | p :: vs, q :: m, h => by rw [List.length_cons, List.length_cons, Vals.len h.2.2]
  | [], _ :: _, h => h.elim
  | _ :: _, [], h => h.elim
theorem Vals.keys {R : Value → α → Prop} : ∀ {vs : List (Nat × Value)} {m : List (Nat × α)}, Vals R vs m → (vs.map fun p => p.1) = m.map fun p => p.1
  | [], [], _ => rfl
  | p :: vs, q :: m, h => by rw [List.map_cons, List.map_cons, Vals.keys h.2.2, h.1]
  | [], _ :: _, h => h.elim
  | _ :: _, [], h => h.elim
theorem Vals.get {R : Value → α → Prop} (k : Nat) : ∀ {vs : List (Nat × Value)} {m : List (Nat × α)}, Vals R vs m → (getA m k = none ∧ getA vs k = none) ∨ ∃ a v, getA m k = some a ∧ getA vs k = some v ∧ R v a
  | [], [], _ => .inl ⟨rfl, rfl⟩
  | p :: vs, q :: m, h => by
    have ih := Vals.get k h.2.2
    unfold getA at ih ⊢
    rw [List.find?_cons, List.find?_cons, h.1]
    cases hk : decide (q.1 = k)
    · exact ih
    · exact .inr ⟨q.2, p.2, rfl, rfl, h.2.1⟩
  | [], _ :: _, h => h.elim
  | _ :: _, [], h => h.elim
theorem Vals.del {R : Value → α → Prop} (k : Nat) : ∀ {vs : List (Nat × Value)} {m : List (Nat × α)}, Vals R vs m → Vals R (delA vs k) (delA m k)
  | [], [], _ => trivial
  | p :: vs, q :: m, h => by
    have ih := Vals.del k h.2.2
    unfold delA at ih ⊢
    rw [List.filter_cons, List.filter_cons, h.1]
    cases hk : !decide (q.1 = k)
    · simpa [hk] using ih
    · simpa [hk] using ⟨h.1, h.2.1, ih⟩
  | [], _ :: _, h => h.elim
  | _ :: _, [], h => h.elim
theorem Vals.ins {R : Value → α → Prop} {k : Nat} {v : Value} {a : α} (hv : R v a) : ∀ {vs : List (Nat × Value)} {m : List (Nat × α)}, Vals R vs m → Vals R (insA (k, v) vs) (insA (k, a) m)
  | [], [], _ => ⟨rfl, hv, trivial⟩
  | p :: vs, q :: m, h => by
    unfold insA
    rw [h.1]
    by_cases hk : k < q.1
    · simp only [hk, if_true]
      exact ⟨rfl, hv, h⟩
    · simp only [hk, if_false]
      exact ⟨h.1, h.2.1, Vals.ins hv h.2.2⟩
  | [], _ :: _, h => h.elim
  | _ :: _, [], h => h.elim
theorem Vals.put {R : Value → α → Prop} {k : Nat} {v : Value} {a : α} (hv : R v a) {vs : List (Nat × Value)} {m : List (Nat × α)} (h : Vals R vs m) : Vals R (putA vs k v) (putA m k a) := by
  unfold putA
  exact Vals.ins hv (Vals.del k h)
end
def kcellsA {α : Type} (m : List (Nat × α)) : List Value := m.map fun p => .int .i64 (p.1 : Int)
theorem Vals.kcells {α : Type} {R : Value → α → Prop} {vs : List (Nat × Value)} {m : List (Nat × α)} (h : Vals R vs m) : kcellsA vs = kcellsA m := by
  have := congrArg (List.map fun k : Nat => Value.int .i64 (k : Int)) h.keys
  rw [List.map_map, List.map_map] at this
  exact this
theorem sort_keysA {m : List (Nat × Value)} (hm : RiseA m) {ss : List Int} (h : ss.Perm (intKeys (toV m))) : (ss.mergeSort fun x y => decide (x ≤ y)).map encZ = kcellsA m := by
  rw [mergeSort_of_perm_i h, keys_V]
  have e : (m.map fun p => (p.1 : Int)).mergeSort leI = m.map fun p => (p.1 : Int) := by
    refine List.mergeSort_of_pairwise ?_
    rw [List.pairwise_map]
    exact hm.imp fun {a b} hab => by simp only [leI, decide_eq_true_eq]; omega
  rw [e]
  simp [kcellsA, encZ]
theorem keysN_any (b : Nat) (w : World) : Calls Tryz.prog 65 #[.map (some b)] w fun e w' => e = .returned (.func (.func 98) #[] #[.pointer (some ⟨w.heap.size, 0, none⟩)]) ∧ w' = w.alloc (.cells #[.map (some b)] 81) :=
  (callsIn_wide (n := 5)).1 (AnyZI.keys_in Tryz.keysN Fence.wide 5 trivial rfl (some b) w)
theorem keysI_any (b : Nat) (w : World) : Calls Tryz.prog 68 #[.map (some b)] w fun e w' => e = .returned (.func (.func 99) #[] #[.pointer (some ⟨w.heap.size, 0, none⟩)]) ∧ w' = w.alloc (.cells #[.map (some b)] 82) :=
  (callsIn_wide (n := 5)).1 (AnyZI.keys_in Tryz.keysI Fence.wide 5 trivial rfl (some b) w)
set_option maxHeartbeats 1000000 in
theorem sortedN_any {b : Nat} {m : List (Nat × Value)} {w : World} (h : VAt w b m) (hm : RiseA m) (hfew : m.length ≤ 65536) (w1 : World) (hw1 : w1 = w.alloc (.cells #[.map (some b)] 81)) :
    Calls Tryz.prog 64 #[.func (.func 98) #[] #[.pointer (some ⟨w.heap.size, 0, none⟩)]] w1 fun e w' => ∃ v, e = .returned v ∧ w'.ownsRow w1.heap.size 3 1 v m.length (kcellsA m) ∧ Fr [] w1 w' := by
  subst hw1
  have hbl := h.lt
  have hsz : Maps.size (toV m) = m.length := size_V m
  have hseq : SeqGives Fence.wide 2 Tryz.prog 98 #[.pointer (some ⟨w.heap.size, 0, none⟩)] encZ (fun ss => ss.Perm (intKeys (toV m))) (Maps.size (toV m)) (w.alloc (.cells #[.map (some b)] 81)) :=
    AnyZI.keys_gives (R := heldR) (nn := m.length) (ρ := Tryz.keysN_ren) { Tryz.keysN with } Fence.wide _ trivial rfl (by omega) w.heap.size b (toV m) _ (by simp) (by simp) (h.fr ((Fr.refl [] w).alloc _) (by simp))
  have cS := AnyZI.sorted_in Tryz.sortedA Fence.wide 5 trivial trivial trivial trivial rfl (by omega) (sortsA _) (enters_of Tryz.func97 (by kernel_rfl) rfl) 98 #[.pointer (some ⟨w.heap.size, 0, none⟩)] trivial (enters_of Tryz.func98 (by kernel_rfl) rfl) _ _ (by rw [hsz]; unfold maxLen; omega) (by rw [hsz]; omega) _ hseq
  have cS' := (callsIn_wide (n := 5)).1 cS
  refine Calls.mono (P := Tryz.prog) (f := 64) cS' ?_
  rintro e w' ⟨v, ss, rfl, hS, hrow, _, hb⟩
  have hl : ss.length = m.length := by
    have := hS.length_eq
    rw [keys_V, List.length_map] at this
    exact this
  rw [sort_keysA hm hS, hl] at hrow
  exact ⟨v, rfl, hrow, Fr.of_below hb []⟩
set_option maxHeartbeats 1000000 in
theorem sortedI_any {b : Nat} {m : List (Nat × Value)} {w : World} (h : VAt w b m) (hm : RiseA m) (hfew : m.length ≤ 65536) (w1 : World) (hw1 : w1 = w.alloc (.cells #[.map (some b)] 82)) :
    Calls Tryz.prog 64 #[.func (.func 99) #[] #[.pointer (some ⟨w.heap.size, 0, none⟩)]] w1 fun e w' => ∃ v, e = .returned v ∧ w'.ownsRow w1.heap.size 3 1 v m.length (kcellsA m) ∧ Fr [] w1 w' := by
  subst hw1
  have hbl := h.lt
  have hsz : Maps.size (toV m) = m.length := size_V m
  have hseq : SeqGives Fence.wide 2 Tryz.prog 99 #[.pointer (some ⟨w.heap.size, 0, none⟩)] encZ (fun ss => ss.Perm (intKeys (toV m))) (Maps.size (toV m)) (w.alloc (.cells #[.map (some b)] 82)) :=
    AnyZI.keys_gives (R := heldR) (nn := m.length) (ρ := Tryz.keysI_ren) { Tryz.keysI with } Fence.wide _ trivial rfl (by omega) w.heap.size b (toV m) _ (by simp) (by simp) (h.fr ((Fr.refl [] w).alloc _) (by simp))
  have cS := AnyZI.sorted_in Tryz.sortedA Fence.wide 5 trivial trivial trivial trivial rfl (by omega) (sortsA _) (enters_of Tryz.func97 (by kernel_rfl) rfl) 99 #[.pointer (some ⟨w.heap.size, 0, none⟩)] trivial (enters_of Tryz.func99 (by kernel_rfl) rfl) _ _ (by rw [hsz]; unfold maxLen; omega) (by rw [hsz]; omega) _ hseq
  have cS' := (callsIn_wide (n := 5)).1 cS
  refine Calls.mono (P := Tryz.prog) (f := 64) cS' ?_
  rintro e w' ⟨v, ss, rfl, hS, hrow, _, hb⟩
  have hl : ss.length = m.length := by
    have := hS.length_eq
    rw [keys_V, List.length_map] at this
    exact this
  rw [sort_keysA hm hS, hl] at hrow
  exact ⟨v, rfl, hrow, Fr.of_below hb []⟩
end Go.Proofs.YtpjbdpepofnleaaGreat
end
section
namespace Go.Proofs.YtpjbdpepofnleaaGreat
open Go.RowKit Go.ChangeMaps Go.MapKept Go.Maps Go.Sort Go.Shelf
def chC (c : CD) (g bn bs : Nat) : List Value :=
  [.int .i64 (c.next : Int), .int .i64 (c.head : Int), .int .i64 (c.roots 0 : Int), .int .i64 (c.roots 1 : Int), .int .i64 (c.roots 2 : Int), .int .i64 (c.roots 3 : Int), .int .i64 (c.roots 4 : Int), .int .i64 (c.roots 5 : Int), .int .i64 (c.roots 6 : Int), .int .i64 (c.roots 7 : Int),
    .pointer (some ⟨g, 0, none⟩), .map (some bn), .map (some bs), .int .i64 (c.e : Int)]
structure WfW (c : CD) : Prop where
  n : c.n ≤ 4096
  next : c.next ≤ c.n
  head : c.head < 65536
  pg : ∀ k, k < c.n → (c.pg k).length = 512
  rM : RiseA c.M
  rS : RiseA c.S
  mM : ∀ p ∈ c.M, p.1 < c.n ∧ p.2.ok ∧ p.2.size ≤ 512
  mS : ∀ p ∈ c.S, p.1 < c.n ∧ p.2 < 65536
  roots : ∀ t, c.roots t < 65536
structure ChAt (wS w : World) (g bc bn bs : Nat) (D : Nat → Prop) (c : CD) : Prop where
  fr : Fr [] wS w
  l1 : wS.heap.size ≤ bc
  l2 : wS.heap.size ≤ bn
  l3 : wS.heap.size ≤ bs
  ne : bn ≠ bs
  blk : Blk w bc 84 (chC c g bn bs)
  nodes : ∃ vs, VAt w bn vs ∧ Vals (fun v n => NdV D w 0 v n) vs c.M
  spare : ∃ vs, VAt w bs vs ∧ Vals (fun v n => v = .int .i64 ((n : Nat) : Int)) vs c.S
  dom : ∀ q, D q → q ≠ bc ∧ q ≠ bn ∧ q ≠ bs
  wf : WfW c
theorem rise_few {α : Type} {n : Nat} : ∀ {m : List (Nat × α)} {lo : Nat}, RiseA m → (∀ p ∈ m, lo ≤ p.1 ∧ p.1 < n) → m.length ≤ n - lo
  | [], _, _, _ => Nat.zero_le _
  | p :: m, lo, h, hm => by
    obtain ⟨h1, h2⟩ := List.pairwise_cons.1 h
    have ih := rise_few (lo := p.1 + 1) h2 fun q hq => ⟨h1 q hq, (hm q (List.mem_cons_of_mem _ hq)).2⟩
    have := hm p (List.mem_cons_self ..)
    rw [List.length_cons]
    omega
theorem WfW.fewM {c : CD} (h : WfW c) : c.M.length ≤ 4096 := by
  have := rise_few (lo := 0) h.rM fun p hp => ⟨Nat.zero_le _, (h.mM p hp).1⟩
  have := h.n; omega
theorem WfW.fewS {c : CD} (h : WfW c) : c.S.length ≤ 4096 := by
  have := rise_few (lo := 0) h.rS fun p hp => ⟨Nat.zero_le _, (h.mS p hp).1⟩
  have := h.n; omega
theorem WfW.write {c : CD} (h : WfW c) {k : Nat} {n : Nd} (h1 : k < c.n) (h2 : n.ok) (h3 : n.size ≤ 512) : WfW (c.write k n) := ⟨h.n, h.next, h.head, h.pg, h.rM.put k n, h.rS.del k, fun p hp => by
  rcases mem_putA hp with rfl | hp
  · exact ⟨h1, h2, h3⟩
  · exact h.mM p hp, fun p hp => h.mS p (mem_delA hp), h.roots⟩
theorem WfW.free {c : CD} (h : WfW c) {k : Nat} (h1 : k < c.n) : WfW (c.free k) := ⟨h.n, h.next, by have := h.n; show k < 65536; omega, h.pg, h.rM.del k, h.rS.put k _, fun p hp => h.mM p (mem_delA hp), fun p hp => by
  rcases mem_putA hp with rfl | hp
  · exact ⟨h1, h.head⟩
  · exact h.mS p hp, h.roots⟩
section
variable {wS w w' : World} {g bc bn bs : Nat} {D D' : Nat → Prop} {c : CD}
theorem ChAt.ne2 (h : ChAt wS w g bc bn bs D c) : bn ≠ bc ∧ bs ≠ bc := by
  obtain ⟨_, h1, _⟩ := h.nodes
  obtain ⟨_, h2, _⟩ := h.spare
  exact ⟨h1.ne_blk h.blk, h2.ne_blk h.blk⟩
theorem ChAt.frS {S : List Nat} (h : ChAt wS w g bc bn bs D c) (hf : Fr S w w') (h0 : ∀ q ∈ S, w.heap.size ≤ q ∨ (wS.heap.size ≤ q ∧ ¬ D q ∧ q ≠ bc ∧ q ≠ bn ∧ q ≠ bs)) : ChAt wS w' g bc bn bs D c := by
  obtain ⟨vs, h1, h2⟩ := h.nodes
  obtain ⟨ss, h3, h4⟩ := h.spare
  have hS : ∀ q, D q → q ∈ S → w.heap.size ≤ q := fun q hq hm => by
    rcases h0 q hm with h | h
    · exact h
    · exact absurd hq h.2.1
  have no : ∀ q, q < w.heap.size → (q = bc ∨ q = bn ∨ q = bs) → q ∉ S := fun q hl hq hm => by
    rcases h0 q hm with h | h
    · omega
    · omega
  refine ⟨h.fr.trans hf fun q hq => .inr ?_, h.l1, h.l2, h.l3, h.ne, h.blk.fr hf (no _ h.blk.lt (.inl rfl)), ⟨vs, h1.fr hf (no _ h1.lt (.inr (.inl rfl))), h2.mono fun v a k _ hv => hv.fr hf hS⟩, ⟨ss, h3.fr hf (no _ h3.lt (.inr (.inr rfl))), h4⟩, h.dom, h.wf⟩
  have := h.fr.size
  rcases h0 q hq with h | h <;> omega
theorem ChAt.frame (h : ChAt wS w g bc bn bs D c) (hf : Fr [] w w') : ChAt wS w' g bc bn bs D c := h.frS hf (fun q hq => by cases hq)
theorem ChAt.re (h : ChAt wS w g bc bn bs D c) (hD : ∀ q, D q → q < w.heap.size → D' q) (h0 : ∃ q, D' q ∧ w.heap.size ≤ q) (hdom : ∀ q, D' q → q ≠ bc ∧ q ≠ bn ∧ q ≠ bs) : ChAt wS w g bc bn bs D' c := by
  obtain ⟨vs, h1, h2⟩ := h.nodes
  obtain ⟨q0, hq0, hz0⟩ := h0
  refine ⟨h.fr, h.l1, h.l2, h.l3, h.ne, h.blk, ⟨vs, h1, h2.mono fun v a k _ hv => ?_⟩, h.spare, hdom, h.wf⟩
  obtain ⟨sv, cs, e1, e2, e3, e4⟩ := hv
  refine ⟨sv, cs, e1, e2, e3.re (fun q hq hl => ⟨hD q hq.1 hl, hq.2⟩) ⟨q0, hq0, fun e => by have := own_lt e2 _ e; omega⟩, fun q hq => hD q (e4 q hq) (own_lt e2 q hq)⟩
theorem ChAt.weak (h : ChAt wS w g bc bn bs D c) (hD : ∀ q, D q → D' q) (hdom : ∀ q, D' q → q ≠ bc ∧ q ≠ bn ∧ q ≠ bs) : ChAt wS w g bc bn bs D' c := by
  obtain ⟨vs, h1, h2⟩ := h.nodes
  exact ⟨h.fr, h.l1, h.l2, h.l3, h.ne, h.blk, ⟨vs, h1, h2.mono fun v a k _ hv => hv.weak hD⟩, h.spare, hdom, h.wf⟩
theorem ChAt.lts (h : ChAt wS w g bc bn bs D c) : bc < w.heap.size ∧ bn < w.heap.size ∧ bs < w.heap.size := by
  obtain ⟨_, h1, _⟩ := h.nodes
  obtain ⟨_, h2, _⟩ := h.spare
  exact ⟨h.blk.lt, h1.lt, h2.lt⟩
theorem ChAt.set (h : ChAt wS w g bc bn bs D c) {c' : CD} {_cs : List Value} (hb : Blk w' bc 84 (chC c' g bn bs)) (hf : Fr [bc] w w') (hM : c'.M = c.M) (hS : c'.S = c.S) (hw : WfW c') : ChAt wS w' g bc bn bs D c' := by
  obtain ⟨vs, h1, h2⟩ := h.nodes
  obtain ⟨ss, h3, h4⟩ := h.spare
  have hz := h.fr.size
  refine ⟨h.fr.trans hf fun q hq => .inr (by have := List.mem_singleton.1 hq; have := h.l1; omega), h.l1, h.l2, h.l3, h.ne, hb, ⟨vs, h1.fr hf (by simpa using h.ne2.1), by rw [hM]; exact h2.mono fun v a k _ hv => hv.fr hf (fun q hq hm => absurd (List.mem_singleton.1 hm) (h.dom q hq).1)⟩, ⟨ss, h3.fr hf (by simpa using h.ne2.2), by rw [hS]; exact h4⟩, h.dom, hw⟩
theorem nz_int (k : Nat) : decide (k ≠ 0) = ((k : Int) != 0) := by
  rw [Bool.eq_iff_iff, decide_eq_true_iff, bne_iff_ne]; omega
def CD.fail (c : CD) (e : Nat) : CD := if c.e = 0 then { c with e := e } else c
set_option maxRecDepth 100000 in
set_option maxHeartbeats 1000000 in
theorem fail_ch (h : ChAt wS w g bc bn bs D c) (k : Nat) :
    Calls Tryz.prog 63 #[.pointer (some ⟨bc, 0, none⟩), .int .i64 (k : Int)] w fun e w' => e = .returned (.bool (decide ((c.fail k).e ≠ 0))) ∧ ChAt wS w' g bc bn bs D (c.fail k) ∧ Fr [bc] w w' ∧ w'.heap.size = w.heap.size := by
  have c13 := h.blk.at_ (i := 13) rfl
  have hfz := h.blk.free 13
  have hlt := h.blk.lt
  by_cases h0 : c.e = 0
  · have e1 : c.fail k = { c with e := k } := by unfold CD.fail; rw [if_pos h0]
    have hfs : Fr [bc] w (w.setCell ⟨bc, 13, none⟩ (.int .i64 (k : Int))) := (Fr.refl [bc] w).setCell (.inl (by simp)) _
    have hx : ChAt wS (w.setCell ⟨bc, 13, none⟩ (.int .i64 (k : Int))) g bc bn bs D (c.fail k) := by
      rw [e1]
      exact h.set (c' := { c with e := k }) (_cs := []) (h.blk.set_ 13 (.int .i64 (k : Int))) hfs rfl rfl ⟨h.wf.n, h.wf.next, h.wf.head, h.wf.pg, h.wf.rM, h.wf.rS, h.wf.mM, h.wf.mS, h.wf.roots⟩
    have hE : (c.fail k).e = k := by rw [e1]
    have HX := Lib.hid hx; have HFS := Lib.hid hfs
    rw [hE]
    clear hx hfs h e1 hE
    rw [h0] at c13
    clear h0
    go_enter Tryz.func63, Tryz.ntmps63
    go_wp2
    go_ret
    exact ⟨by rw [nz_int]; rfl, HX.out, HFS.out, by simp [World.setCell]⟩
  · have e1 : c.fail k = c := by unfold CD.fail; rw [if_neg h0]
    rw [e1]
    have HX := Lib.hid h
    have hne : ¬ ((c.e : Nat) : Int) = 0 := by omega
    clear h e1 h0
    go_enter Tryz.func63, Tryz.ntmps63
    go_wp2
    go_ret
    exact ⟨by rw [nz_int]; rfl, HX.out, Fr.refl _ _, rfl⟩
end
end Go.Proofs.YtpjbdpepofnleaaGreat
end
section
namespace Go.Proofs.YtpjbdpepofnleaaGreat
open Go.RowKit Go.ChangeMaps Go.MapKept Go.Maps Go.Sort Go.Shelf
section
variable {wS w w' : World} {g bc bn bs : Nat} {D D' : Nat → Prop} {c : CD}
theorem zero_int (w : World) : (zeroValue 3).run Tryz.prog w = .ok (.int .i64 0) w := by kernel_rfl
theorem zero_node (w : World) : (zeroValue 88).run Tryz.prog w = .ok (.agg #[.int .i64 0, .int .i64 0, .slice none 0 0]) w := by kernel_rfl
set_option maxRecDepth 100000 in
set_option maxHeartbeats 1000000 in
/-- A node laid. -/
theorem write_ch (h : ChAt wS w g bc bn bs D c) {v : Value} {n : Nd} {k base : Nat} (hv : NdV D w base v n) (hk : k < c.n) (hok : n.ok) (hsz : n.size ≤ 512) :
    Calls Tryz.prog 34 #[.pointer (some ⟨bc, 0, none⟩), .int .i64 (k : Int), v] w fun e w' => e = .returned (.tuple #[]) ∧ ChAt wS w' g bc bn bs D (c.write k n) ∧ Fr [bn, bs] w w' := by
  have hv0 : NdV D w 0 v n := by
    obtain ⟨sv, cs, e1, e2, e3⟩ := hv
    exact ⟨sv, cs, e1, own_base e2 (fun _ _ => Nat.zero_le _), e3⟩
  obtain ⟨A, ca, cs, rfl, _, _, _, _⟩ := hv.parts
  have hn4 := h.wf.n
  have hfewS := h.wf.fewS; have hfewM := h.wf.fewM
  have hlts := h.lts
  obtain ⟨wb, hwb⟩ : ∃ wb, wb = w.alloc (.cells #[.int .i64 (kindOf n), .int .i64 (n.first : Int), .slice A n.l.length ca] 88) := ⟨_, rfl⟩
  have hf0 : Fr [] w wb := by rw [hwb]; exact (Fr.refl [] w).alloc _
  have hb0 : Blk wb w.heap.size 88 [.int .i64 (kindOf n), .int .i64 (n.first : Int), .slice A n.l.length ca] := by rw [hwb]; exact Blk.new w _ [.int .i64 (kindOf n), .int .i64 (n.first : Int), .slice A n.l.length ca]
  have hcb := h.frame hf0
  obtain ⟨ss, hs1, hs2⟩ := hcb.spare
  obtain ⟨w1, hr1, hs3, hf1, hz1⟩ := hs1.drop Tryz.underlying82 (k := k) (by omega) 0
  have hr1' : ∀ ty, (Builtin.delete_ #[82, 3] ty #[.map (some bs), .int .i64 (k : Int)]).run Tryz.prog wb = .ok (.tuple #[]) w1 := fun ty => hr1
  have c12 := hcb.blk.at_ (i := 12) rfl
  obtain ⟨vs, hn1, hn2⟩ := hcb.nodes
  have hn3 := hn1.fr hf1 (by have := h.ne; simpa using this)
  have hbq := hcb.blk.fr hf1 (by have := h.ne2.2; simp; omega)
  have c11 := hbq.at_ (i := 11) rfl
  have hb1 := hb0.fr hf1 (by simp; omega)
  have b0 := hb1.at_ (i := 0) rfl
  have b1 := hb1.at_ (i := 1) rfl
  have b2 := hb1.at_ (i := 2) rfl
  obtain ⟨w2, hr2, hn4', hf2, hz2⟩ := (hn3.fr ((Fr.refl [] w1).drew) (by simp)).store Tryz.underlying81 (k := k) (by omega) (by have := hn2.len; omega) (.agg #[.int .i64 (kindOf n), .int .i64 (n.first : Int), .slice A n.l.length ca])
  have hfw2 : Fr [bn, bs] w w2 := (((hf0.mono (T := [bn, bs]) (by simp)).trans (hf1.mono (T := [bn, bs]) (by simp)) (fun q hq => .inl hq)).drew).trans hf2 (fun q hq => .inl (by simp at hq ⊢; omega))
  have hdom : ∀ q, D q → q ∉ [bn, bs] := fun q hq hm => by have := h.dom q hq; simp at hm; omega
  have HX : Hid (ChAt wS w2 g bc bn bs D (c.write k n) ∧ Fr [bn, bs] w w2) := Lib.hid ⟨⟨h.fr.trans hfw2 (fun q hq => .inr (by have h1 := h.l2; have h2 := h.l3; simp at hq; omega)), h.l1, h.l2, h.l3, h.ne, h.blk.fr hfw2 (by have := h.ne2; simp; omega),
    ⟨_, hn4', Vals.put (hv0.fr hfw2 (fun q hq hm => absurd hm (hdom q hq))) (hn2.mono fun v a j _ hw => (hw.fr hf1 (fun q hq hm => absurd (List.mem_cons_of_mem _ hm) (hdom q hq))).fr (((Fr.refl [bn] w1).drew).trans hf2 (fun q hq => .inl hq)) (fun q hq hm => absurd (List.mem_cons.2 (.inl (List.mem_singleton.1 hm))) (hdom q hq)))⟩,
    ⟨_, hs3.fr (((Fr.refl [bn] w1).drew).trans hf2 (fun q hq => .inl hq)) (by have := h.ne; simp; omega), Vals.del k hs2⟩, h.dom, h.wf.write hk hok hsz⟩, hfw2⟩
  have HR2 := Lib.hid hr2
  clear hv hv0 hs1 hs2 hs3 hn1 hn2 hn3 hn4' hf1 hf2 hz1 hz2 hf0 hb0 hb1 hbq hcb hfw2 hdom h hr1 hr2
  go_enter Tryz.func34, Tryz.ntmps34
  go_upto_region 1 with fail
  rw [← hwb]
  clear hwb
  go_wp2_with fail
  refine wp_region_K (fun W => W.cell? ⟨bc, 11, none⟩ = some (.map (some bn)) ∧ W.cell? ⟨w.heap.size, 0, none⟩ = some (.int .i64 (kindOf n)) ∧ W.cell? ⟨w.heap.size, 1, none⟩ = some (.int .i64 (n.first : Int)) ∧ W.cell? ⟨w.heap.size, 2, none⟩ = some (.slice A n.l.length ca)) [0, 1, 2, 3, 4, 5] (by kernel_rfl) ?_
  refine wpAnyK_take (i := 0) (some 11) ?vq1_0 rfl rfl (by kernel_rfl) (fun _ _ _ h => h) ⟨c11, b0, b1, b2⟩ (.inl ⟨rfl, fun W hW => ?yq1_0⟩) ?_
  case yq1_0 => (obtain ⟨q1, q2, q3, q4⟩ := hW; go_simp) <;> with_reducible rfl
  simp only [nrm]
  refine wpAnyK_take (i := 1) (some 12) ?vq1_1 rfl rfl (by kernel_rfl) (fun _ _ _ h => h) ⟨c11, b0, b1, b2⟩ (.inl ⟨rfl, fun W hW => ?yq1_1⟩) ?_
  case yq1_1 => (obtain ⟨q1, q2, q3, q4⟩ := hW; go_simp) <;> with_reducible rfl
  simp only [nrm]
  refine wpAnyK_take (i := 2) (some 13) ?vq1_2 rfl rfl (by kernel_rfl) (fun _ _ _ h => h) ⟨c11, b0, b1, b2⟩ (.inl ⟨rfl, fun W hW => ?yq1_2⟩) ?_
  case yq1_2 => (obtain ⟨q1, q2, q3, q4⟩ := hW; go_simp) <;> with_reducible rfl
  simp only [nrm]
  refine wpAnyK_take (i := 3) (some 14) ?vq1_3 rfl rfl (by kernel_rfl) (fun _ _ _ h => h) ⟨c11, b0, b1, b2⟩ (.inl ⟨rfl, fun W hW => ?yq1_3⟩) ?_
  case yq1_3 => (obtain ⟨q1, q2, q3, q4⟩ := hW; go_simp) <;> with_reducible rfl
  simp only [nrm]
  refine wpAnyK_take (i := 4) (some 15) ?vq1_4 rfl rfl (by kernel_rfl) (fun _ _ _ h => h) ⟨c11, b0, b1, b2⟩ (.inl ⟨rfl, fun W hW => ?yq1_4⟩) ?_
  case yq1_4 => (obtain ⟨q1, q2, q3, q4⟩ := hW; go_simp) <;> with_reducible rfl
  simp only [nrm]
  refine wpAnyK_take (i := 5) (some 16) ?vq1_5 rfl rfl (by kernel_rfl) (fun _ _ _ h => h) ⟨c11, b0, b1, b2⟩ (.inl ⟨rfl, fun W hW => ?yq1_5⟩) ?_
  case yq1_5 => (obtain ⟨q1, q2, q3, q4⟩ := hW; go_simp) <;> with_reducible rfl
  simp only [nrm]
  refine wpAnyK_step (j := 6) none rfl rfl (by kernel_rfl) rfl fun K hK => ?_
  have hr := HR2.out
  refine wp_run_skip (w' := w2) (by simp [execOp, Act.eval, hr, Result.andThen]) (hK _ _ (fun h => absurd h (by decide +kernel)) ?_)
  simp only [Act.put]
  refine wpAnyK_done (by kernel_rfl) ?_ _
  clear hK hr
  go_wp2_with fail
  go_end0
  exact ⟨rfl, HX.out.1, HX.out.2⟩
set_option maxRecDepth 100000 in
set_option maxHeartbeats 1000000 in
/-- A page let go. -/
theorem free_ch (h : ChAt wS w g bc bn bs D c) {k : Nat} (hk : k < c.n) :
    Calls Tryz.prog 82 #[.pointer (some ⟨bc, 0, none⟩), .int .i64 (k : Int)] w fun e w' => e = .returned (.tuple #[]) ∧ ChAt wS w' g bc bn bs D (c.free k) ∧ Fr [bc, bn, bs] w w' := by
  have hn4 := h.wf.n
  have hfewS := h.wf.fewS; have hfewM := h.wf.fewM
  obtain ⟨vs, hn1, hn2⟩ := h.nodes
  obtain ⟨w1, hr1, hn3, hf1, hz1⟩ := hn1.drop Tryz.underlying81 (k := k) (by omega) 0
  have hr1' : ∀ ty, (Builtin.delete_ #[81, 3] ty #[.map (some bn), .int .i64 (k : Int)]).run Tryz.prog w = .ok (.tuple #[]) w1 := fun ty => hr1
  have c11 := h.blk.at_ (i := 11) rfl
  obtain ⟨ss, hs1, hs2⟩ := h.spare
  have hs3 := hs1.fr hf1 (by have := h.ne; simp; omega)
  have hb1 := h.blk.fr hf1 (by have := h.ne2.1; simp; omega)
  have d12 := hb1.at_ (i := 12) rfl
  have d1 := hb1.at_ (i := 1) rfl
  obtain ⟨w2, hr2, hs4, hf2, hz2⟩ := (hs3.fr ((Fr.refl [] w1).drew) (by simp)).store Tryz.underlying82 (k := k) (by omega) (by have := hs2.len; omega) (.int .i64 ((c.head : Nat) : Int))
  have hf2' : Fr [bs] w1 w2 := ((Fr.refl [bs] w1).drew).trans hf2 (fun q hq => .inl hq)
  have hb2 := hb1.fr hf2' (by have := h.ne2.2; simp; omega)
  have hbf := hb2.free 1
  have hbl := hb2.lt
  have e1 := hb2.at_ (i := 1) rfl
  have hf3 : Fr [bc] w2 (w2.setCell ⟨bc, 1, none⟩ (.int .i64 (k : Int))) := (Fr.refl [bc] w2).setCell (.inl (by simp)) _
  have hfw : Fr [bc, bn, bs] w (w2.setCell ⟨bc, 1, none⟩ (.int .i64 (k : Int))) := ((hf1.mono (T := [bc, bn, bs]) (fun q hq => .inl (by simp at hq ⊢; omega))).trans hf2' (fun q hq => .inl (by simp at hq ⊢; omega))).trans hf3 (fun q hq => .inl (by simp at hq ⊢; omega))
  have hdom : ∀ q, D q → q ∉ [bc, bn, bs] := fun q hq hm => by have := h.dom q hq; simp at hm; omega
  have HX : Hid (ChAt wS (w2.setCell ⟨bc, 1, none⟩ (.int .i64 (k : Int))) g bc bn bs D (c.free k) ∧ Fr [bc, bn, bs] w (w2.setCell ⟨bc, 1, none⟩ (.int .i64 (k : Int)))) := Lib.hid ⟨⟨h.fr.trans hfw (fun q hq => .inr (by have h0 := h.l1; have h1 := h.l2; have h2 := h.l3; simp at hq; omega)), h.l1, h.l2, h.l3, h.ne, hb2.set_ 1 (.int .i64 (k : Int)),
    ⟨_, (hn3.fr hf2' (by have := h.ne; simp; omega)).fr hf3 (by have := h.ne2.1; simp; omega), (Vals.del k hn2).mono fun v a j _ hw => hw.fr hfw (fun q hq hm => absurd hm (hdom q hq))⟩,
    ⟨_, hs4.fr hf3 (by have := h.ne2.2; simp; omega), Vals.put (R := fun v n => v = .int .i64 ((n : Nat) : Int)) (a := c.head) rfl hs2⟩, h.dom, h.wf.free hk⟩, hfw⟩
  have HR2 := Lib.hid hr2
  clear hs1 hs2 hs3 hs4 hn1 hn2 hn3 hf1 hf2 hf2' hz1 hz2 hf3 hb1 hb2 hfw hdom h hr1 hr2
  go_enter Tryz.func82, Tryz.ntmps82
  go_wp2_with fail
  refine wp_region_K (fun W => W.cell? ⟨bc, 12, none⟩ = some (.map (some bs)) ∧ W.cell? ⟨bc, 1, none⟩ = some (.int .i64 ((c.head : Nat) : Int))) [0, 1, 2, 3, 4, 5, 6, 7, 8, 9] (by kernel_rfl) ?_
  refine wpAnyK_take (i := 0) (some 9) ?vq2_0 rfl rfl (by kernel_rfl) (fun _ _ _ h => h) ⟨d12, d1⟩ (.inl ⟨rfl, fun W hW => ?yq2_0⟩) ?_
  case yq2_0 => (obtain ⟨q1, q2⟩ := hW; go_simp) <;> with_reducible rfl
  simp only [nrm]
  refine wpAnyK_take (i := 1) (some 10) ?vq2_1 rfl rfl (by kernel_rfl) (fun _ _ _ h => h) ⟨d12, d1⟩ (.inl ⟨rfl, fun W hW => ?yq2_1⟩) ?_
  case yq2_1 => (obtain ⟨q1, q2⟩ := hW; go_simp) <;> with_reducible rfl
  simp only [nrm]
  refine wpAnyK_take (i := 2) (some 11) ?vq2_2 rfl rfl (by kernel_rfl) (fun _ _ _ h => h) ⟨d12, d1⟩ (.inl ⟨rfl, fun W hW => ?yq2_2⟩) ?_
  case yq2_2 => (obtain ⟨q1, q2⟩ := hW; go_simp) <;> with_reducible rfl
  simp only [nrm]
  refine wpAnyK_take (i := 3) (some 12) ?vq2_3 rfl rfl (by kernel_rfl) (fun _ _ _ h => h) ⟨d12, d1⟩ (.inl ⟨rfl, fun W hW => ?yq2_3⟩) ?_
  case yq2_3 => (obtain ⟨q1, q2⟩ := hW; go_simp) <;> with_reducible rfl
  simp only [nrm]
  refine wpAnyK_take (i := 4) (some 13) ?vq2_4 rfl rfl (by kernel_rfl) (fun _ _ _ h => h) ⟨d12, d1⟩ (.inl ⟨rfl, fun W hW => ?yq2_4⟩) ?_
  case yq2_4 => (obtain ⟨q1, q2⟩ := hW; go_simp) <;> with_reducible rfl
  simp only [nrm]
  refine wpAnyK_take (i := 5) (some 14) ?vq2_5 rfl rfl (by kernel_rfl) (fun _ _ _ h => h) ⟨d12, d1⟩ (.inl ⟨rfl, fun W hW => ?yq2_5⟩) ?_
  case yq2_5 => (obtain ⟨q1, q2⟩ := hW; go_simp) <;> with_reducible rfl
  simp only [nrm]
  refine wpAnyK_take (i := 6) (some 15) ?vq2_6 rfl rfl (by kernel_rfl) (fun _ _ _ h => h) ⟨d12, d1⟩ (.inl ⟨rfl, fun W hW => ?yq2_6⟩) ?_
  case yq2_6 => (obtain ⟨q1, q2⟩ := hW; go_simp) <;> with_reducible rfl
  simp only [nrm]
  refine wpAnyK_take (i := 7) (some 16) ?vq2_7 rfl rfl (by kernel_rfl) (fun _ _ _ h => h) ⟨d12, d1⟩ (.inl ⟨rfl, fun W hW => ?yq2_7⟩) ?_
  case yq2_7 => (obtain ⟨q1, q2⟩ := hW; go_simp) <;> with_reducible rfl
  simp only [nrm]
  refine wpAnyK_take (i := 8) (some 17) ?vq2_8 rfl rfl (by kernel_rfl) (fun _ _ _ h => h) ⟨d12, d1⟩ (.inl ⟨rfl, fun W hW => ?yq2_8⟩) ?_
  case yq2_8 => (obtain ⟨q1, q2⟩ := hW; go_simp) <;> with_reducible rfl
  simp only [nrm]
  refine wpAnyK_take (i := 9) (some 18) ?vq2_9 rfl rfl (by kernel_rfl) (fun _ _ _ h => h) ⟨d12, d1⟩ (.inl ⟨rfl, fun W hW => ?yq2_9⟩) ?_
  case yq2_9 => (obtain ⟨q1, q2⟩ := hW; go_simp) <;> with_reducible rfl
  simp only [nrm]
  refine wpAnyK_step (j := 10) none rfl rfl (by kernel_rfl) rfl fun K hK => ?_
  have hr := HR2.out
  refine wp_run_skip (w' := w2) (by simp [execOp, Act.eval, hr, Result.andThen]) (hK _ _ (fun h => absurd h (by decide +kernel)) ?_)
  simp only [Act.put]
  refine wpAnyK_done (by kernel_rfl) ?_ _
  clear hK hr
  go_wp2_with fail
  go_end0
  exact ⟨rfl, HX.out.1, HX.out.2⟩
end
end Go.Proofs.YtpjbdpepofnleaaGreat
end
