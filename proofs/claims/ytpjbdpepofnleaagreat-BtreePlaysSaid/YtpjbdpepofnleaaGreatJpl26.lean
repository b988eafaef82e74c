/-
  Joined by join.py: Yi Yj Zb Yf Ym Zc Zd Yl
-/
import Derived.Test.YtpjbdpepofnleaaGreatJpl25
set_option maxRecDepth 100000
set_option maxHeartbeats 32000000
namespace Go.Proofs.YtpjbdpepofnleaaGreat
section
open Go.RowKit Go.ChangeMaps Go.MapKept Go.Maps Go.Sort Go.Shelf
def EnSl (w : World) (v : Value) (E : En) : Prop :=
 ∃ A c, v = .slice A E.length c /\ E.length <= c /\ (0 < E.length -> ∃ g off, A = some ⟨g, off, none⟩ /\ ∀ (i : Nat) (e : Ky × List UInt8), E[i]? = some e ->
  ∃ kv vv, w.cell? ⟨g, off + i * 2, none⟩ = some kv /\ w.cell? ⟨g, off + i * 2 + 1, none⟩ = some vv /\ (∃ q, BytesAt w kv e.1 q) /\ ∃ q, BytesAt w vv e.2 q)
theorem EnSl.fr {w w' : World} {v : Value} {E : En} (h : EnSl w v E) (hf : Fr [] w w') : EnSl w' v E := by
 obtain ⟨A, c, h1, h2, h3⟩ := h; refine ⟨A, c, h1, h2, fun h0 => ?_⟩; obtain ⟨g, off, h4, h5⟩ := h3 h0; refine ⟨g, off, h4, fun i e he => ?_⟩; obtain ⟨kv, vv, a, b, ⟨q1, c1⟩, ⟨q2, c2⟩⟩ := h5 i e he; exact ⟨kv, vv, fr_keep hf a, fr_keep hf b, ⟨q1, c1.fr hf (by simp)⟩, ⟨q2, c2.fr hf (by simp)⟩⟩
theorem EnSl.of_row {D : Nat -> Prop} {w : World} {base : Nat} {t : TypeId} {v : Value} {E : En} {cs : List Value} (h : w.ownsRow base t 2 v E.length cs) (he : EntsC D w E cs) : EnSl w v E := by
 obtain ⟨A, c, rfl, hc, _⟩ := own_shape h; refine ⟨A, c, rfl, hc, fun h0 => ?_⟩; obtain ⟨g, rfl, hcell⟩ := own_cell h h0; refine ⟨g, 0, rfl, fun i e hie => ?_⟩; obtain ⟨kv, vv, a, b, ⟨⟨q1, c1, _⟩, ⟨q2, c2, _⟩⟩⟩ := he.at_ hie; exact ⟨kv, vv, by rw [Nat.zero_add]; exact hcell _ _ a, by rw [Nat.zero_add]; exact hcell _ _ b, ⟨q1, c1⟩, ⟨q2, c2⟩⟩
theorem info_re : (Tryz.prog.info? 97).map (fun i => (i.zero, i.size, i.bytes)) = some (some (.agg #[.slice none 0 0, .slice none 0 0]), 2, 48) := by kernel_rfl
/-- Entries as the document's. -/
theorem theirs_any {w : World} {v : Value} {E : En} (h : EnSl w v E) (hfew : E.length <= 1000000) :
  Calls Tryz.prog 13 #[v] w fun e w' => ∃ v', e = .returned v' /\ EnSl w' v' E /\ Fr [] w w' := by
 obtain ⟨A, c, rfl, hc, hel⟩ := h; have HEL := lh hel; clear hel hc; refine calls_post fun R HQ => ?_
 go_enter Tryz.func13, Tryz.ntmps13
 go_wp2_with fail
 go_loopw [3, 4] (fun v3 v4 wr => ∃ (i : Nat) (cs : List Value), i <= E.length /\ v4 = .int .i64 (i : Int) /\ wr.ownsRow w.heap.size 97 2 v3 i cs /\ EntsC (fun q => q < w.heap.size) wr (E.take i) cs /\ Fr [] w wr) (fun _ v4 _ => E.length - (intOf v4).toNat)
 case atStart => exact ⟨0, [], Nat.zero_le _, rfl, own_nil _ _ _ _, trivial, Fr.refl _ _⟩
 case round =>
  obtain ⟨i, cs, hil, rfl, hrow, hents, hfr⟩ := hrel; obtain ⟨Ao, co, rfl, _⟩ := own_shape hrow; have HROW := lh hrow; have HENTS := lh hents; have HFR := lh hfr; clear hrow hents hfr
  by_cases hi : i < E.length
  ·obtain ⟨x, hx⟩ := gx hi; obtain ⟨g, off, hA, hg⟩ := HEL.out (by omega); subst hA; obtain ⟨kv, vv, c0, c1, ⟨q1, b1⟩, ⟨q2, b2⟩⟩ := hg i x hx; have hgl := cell_lt c0; have hee := lh (show EntC (fun q => q < w.heap.size) w x kv vv from ⟨BytesAt.re (D := fun _ => True) ⟨q1, b1, trivial⟩ (fun q _ hl => hl) ⟨g, hgl⟩, BytesAt.re (D := fun _ => True) ⟨q2, b2, trivial⟩ (fun q _ hl => hl) ⟨g, hgl⟩⟩); have HGL := lh hgl; clear hgl; obtain ⟨Ak, ck, ok, rfl, hck, hak⟩ := id b1; obtain ⟨Aw, cw, ow, rfl, hcw, haw⟩ := id b2; have hfd : Fr [] w wr.drew := HFR.out.drew; have k0 := fr_keep hfd c0; have k1 := fr_keep hfd c1; have HB1 := lh (b1.fr hfd (by simp)); have HB2 := lh (b2.fr hfd (by simp)); have HXX := lh hx; have HR2 := lh (own_fr HROW.out ((Fr.refl [] wr).drew) (by simp)); have HE2 := lh (HENTS.out.fr ((Fr.refl [] wr).drew) (by simp)); have hiI : (i : Int) < (E.length : Int) := by omega
   have hwi := wi i (by omega)
   have HSZ : Hid (w.heap.size <= wr.heap.size) := lh HFR.out.size; clear hx hg c0 c1 b1 b2 hck hak hcw haw hfd; go_upto_region 5 with fail
   refine wp_region_K (fun W => W.cell? ⟨g, off + i * 2, none⟩ = some (.slice Ak x.1.length ck) /\ W.cell? ⟨g, off + i * 2 + 1, none⟩ = some (.slice Aw x.2.length cw)) [0, 1, 2, 3, 4, 5, 6, 7, 8, 9, 10, 11] (by kernel_rfl) ?_; refine tks [0, 1, 2, 3, 4, 5, 6, 7, 8, 9, 10] ?_
   iterate 11 (refine tk rfl rfl ⟨k0, k1⟩ rfl (fun _ hW => by (obtain ⟨q0, q1⟩ := hW; go_simp) <;> with_reducible rfl) ?_; simp only [nrm])
   refine tke ?_; refine tv 11 (.agg #[.slice Ak x.1.length ck, .slice Aw x.2.length cw]) rfl rfl ⟨k0, k1⟩ (.inl ⟨rfl, fun W hW => by go_simp⟩) ?_; simp only [nrm]; obtain ⟨wx, hwx⟩ := nm (wr.drew.alloc (.cells ([.slice Ak x.1.length ck, .slice Aw x.2.length cw] : List Value).toArray 97)); have hfx : Fr [] wr.drew wx := by rw [hwx]; exact (Fr.refl [] _).alloc _
   have hbx : Blk wx wr.drew.heap.size 97 [.slice Ak x.1.length ck, .slice Aw x.2.length cw] := by rw [hwx]; exact Blk.new wr.drew _ [.slice Ak x.1.length ck, .slice Aw x.2.length cw]
   obtain ⟨te, hte, hez, hes, heb⟩ := info_get info_re; have z0 := fr_keep hfx k0; have z1 := fr_keep hfx k1; refine sp 12 rfl rfl rfl fun K hK => ?_; refine wp_build_one (.tmp 22) rfl Tryz.underlying35 hte hez [.slice Ak x.1.length ck, .slice Aw x.2.length cw] rfl hes rfl (by simp) (by simp) (hK _ _ (fun _ => by rw [<- hwx]; exact ⟨z0, z1⟩) ?_); simp only [nrm]; rw [<- hwx]; clear hK hwx; have hr3 := own_fr HR2.out hfx (by simp); refine sp 13 rfl rfl rfl fun K hK => ?_; refine wp_append_any (.tmp 11) (.tmp 23) rfl 97 2 48 Tryz.underlying35 hte hez hes heb rfl (by omega) Ao i co cs rfl (own_base hr3 (fun _ _ => Nat.zero_le _)) (some ⟨wr.drew.heap.size, 0, none⟩) 1 1 [.slice Ak x.1.length ck, .slice Aw x.2.length cw] rfl rfl (fun _ => ⟨_, rfl, fun j u hu => by rw [Addr.add_mid, Nat.zero_add]; exact hbx.at_ hu⟩) (by intro u hu; simp at hu; rcases hu with rfl | rfl <;> rfl) (by unfold maxLen; omega) (by omega) wx.heap.size rfl fun A' cap wz howz hfz hqz => ?_; have hno : ∀ q, (Value.slice Ao i co).ownBlock = some q -> w.heap.size <= q := fun q hq => (HROW.out.lt q hq).1; have hgn : g ∉ (Value.slice Ao i co).ownBlock.toList := fun hm => by have := hno g (by simpa using hm); have := HGL.out; omega
   refine hK _ _ (fun _ => ⟨fr_keepS hfz hgn z0, fr_keepS hfz hgn z1⟩) ?_; simp only [nrm]; clear hK; refine sp 14 rfl rfl rfl fun K hK => ?_; refine wp_run_same (v := ?aq1_14) ?yq1_14 (hK _ _ (fun _ => ⟨fr_keepS hfz hgn z0, fr_keepS hfz hgn z1⟩) ?_)
   case yq1_14 => go_simp <;> with_reducible rfl
   simp only [nrm]; refine wd ?_ _; have hoff : ∀ q, q < w.heap.size -> q ∈ (Value.slice Ao i co).ownBlock.toList -> wx.heap.size <= q := fun q hq hm => by have := hno q (by simpa using hm); omega
   have hfwx : Fr [] w wx := (HFR.out.drew).trans hfx (by simp)
   have hee2 : EntC (fun q => q < w.heap.size) wx x (.slice Ak x.1.length ck) (.slice Aw x.2.length cw) := by
    obtain ⟨⟨a1, a2, a3⟩, ⟨a4, a5, a6⟩⟩ := hee.out; exact ⟨⟨a1, a2.fr hfwx (by simp), a3⟩, ⟨a4, a5.fr hfwx (by simp), a6⟩⟩
   have hnew := (((HE2.out.fr hfx (by simp)).snoc hee2).fr hfz hoff)
   have HX : Hid (∃ (j : Nat) (cs : List Value), j <= E.length /\ Value.int .i64 ((i : Int) + 1) = .int .i64 (j : Int) /\ wz.ownsRow w.heap.size 97 2 (.slice A' (i + 1) cap) j cs /\ EntsC (fun q => q < w.heap.size) wz (E.take j) cs /\ Fr [] w wz) := lh ⟨i + 1, _, hi, rfl, own_base howz (fun q hq => by
    have h1 := HSZ.out; have h2 := hfx.size; rcases hqz q hq with h | h
    ·exact hno q h
    ·have h3 : wr.drew.heap.size = wr.heap.size := rfl; omega), by rw [take_one HXX.out]; exact hnew, hfwx.trans hfz fun q hq => .inr (hno q (by simpa using hq))⟩
   clear hnew hee2 hfwx hoff hgn hno howz hfz hqz z0 z1 hr3 hbx hfx k0 k1 hte hez hes heb; go_wp2_with fail
   go_roundw
   case rel => exact HX.out
   case measure => simp [intOf]; omega
  ·obtain rfl : i = E.length := by omega
   have hsl : EnSl wr (.slice Ao E.length co) E := by
    have := HENTS.out; rw [List.take_length] at this; exact EnSl.of_row HROW.out this
   have HX := lh (HQ.out _ _ ⟨_, rfl, hsl, HFR.out⟩); clear hsl; go_wp2_with fail; exact HX.out
/-- The same entries are the same. -/
theorem same_any {w : World} {va vb : Value} {E : En} (ha : EnSl w va E) (hb : EnSl w vb E) (hfew : E.length <= 1000000) :
  Calls Tryz.prog 12 #[va, vb] w fun e w' => e = .returned (.bool true) /\ Fr [] w w' := by
 obtain ⟨A, c, rfl, hc, hel⟩ := ha; obtain ⟨B, d, rfl, hd, hbl⟩ := hb; have HA := lh hel; have HB := lh hbl; clear hel hc hbl hd; refine calls_post fun R HQ => ?_
 go_enter Tryz.func12, Tryz.ntmps12
 go_wp2_with fail
 go_loopw [5] (fun v5 wr => ∃ i : Nat, i <= E.length /\ v5 = .int .i64 (i : Int) /\ Fr [] w wr) (fun v5 _ => E.length - (intOf v5).toNat)
 case atStart => exact ⟨0, Nat.zero_le _, rfl, Fr.refl _ _⟩
 case round =>
  obtain ⟨i, hil, rfl, hfr⟩ := hrel; have HFR := lh hfr; clear hfr
  by_cases hi : i < E.length
  ·obtain ⟨x, hx⟩ := gx hi; obtain ⟨g, off, hA, hg⟩ := HA.out (by omega); subst hA; obtain ⟨k, o2, hB, hg2⟩ := HB.out (by omega); subst hB; obtain ⟨ka, va, c0, c1, ⟨q1, b1⟩, ⟨q2, b2⟩⟩ := hg i x hx; obtain ⟨kb, vb, c2, c3, ⟨q3, b3⟩, ⟨q4, b4⟩⟩ := hg2 i x hx; have hfd : Fr [] w wr.drew := HFR.out.drew; have k0 := fr_keep hfd c0; have k1 := fr_keep hfd c1; have k2 := fr_keep hfd c2; have k3 := fr_keep hfd c3; have e1 := b1.fr hfd (by simp); have e2 := b2.fr hfd (by simp); have e3 := b3.fr hfd (by simp); have e4 := b4.fr hfd (by simp); have HFD := lh hfd; have hiI : (i : Int) < (E.length : Int) := by omega
   have hwi := wi i (by omega)
   clear hx hg hg2 c0 c1 c2 c3 b1 b2 b3 b4 hfd; go_upto_region 6 with fail
   refine wp_region_K (fun W => W.cell? ⟨g, off + i * 2, none⟩ = some ka /\ W.cell? ⟨g, off + i * 2 + 1, none⟩ = some va /\ W.cell? ⟨k, o2 + i * 2, none⟩ = some kb /\ W.cell? ⟨k, o2 + i * 2 + 1, none⟩ = some vb /\ BytesAt W ka x.1 q1 /\ BytesAt W va x.2 q2 /\ BytesAt W kb x.1 q3 /\ BytesAt W vb x.2 q4) [0, 1, 2, 3, 4, 5, 6, 7, 8, 9, 10, 11, 12, 13, 14, 15, 16, 17, 18, 19, 20, 21, 22, 23, 24, 25, 26, 27] (by kernel_rfl) ?_; refine tks [0, 1, 2, 3, 4] ?_
   iterate 5 (refine tk rfl rfl ⟨k0, k1, k2, k3, e1, e2, e3, e4⟩ rfl (fun _ hW => by (obtain ⟨y0, y1, y2, y3, _⟩ := hW; go_simp) <;> with_reducible rfl) ?_; simp only [nrm])
   refine tke ?_; refine tv 5 (.string ⟨x.1.toArray⟩) rfl rfl ⟨k0, k1, k2, k3, e1, e2, e3, e4⟩ (.inl ⟨rfl, fun W' hW => by have := run_string_of (P := Tryz.prog) (src := 23) (dst := 9) Tryz.underlying23 Tryz.underlying5 Tryz.underlying9 hW.2.2.2.2.1; simp [execOp, Act.eval, Result.andThen, this]⟩) ?_; simp only [nrm]; refine tks [6, 7, 8, 9, 10] ?_
   iterate 5 (refine tk rfl rfl ⟨k0, k1, k2, k3, e1, e2, e3, e4⟩ rfl (fun _ hW => by (obtain ⟨y0, y1, y2, y3, _⟩ := hW; go_simp) <;> with_reducible rfl) ?_; simp only [nrm])
   refine tke ?_; refine tv 11 (.string ⟨x.1.toArray⟩) rfl rfl ⟨k0, k1, k2, k3, e1, e2, e3, e4⟩ (.inl ⟨rfl, fun W' hW => by have := run_string_of (P := Tryz.prog) (src := 23) (dst := 9) Tryz.underlying23 Tryz.underlying5 Tryz.underlying9 hW.2.2.2.2.2.2.1; simp [execOp, Act.eval, Result.andThen, this]⟩) ?_; simp only [nrm]; refine tv 12 (.bool false) rfl rfl ⟨k0, k1, k2, k3, e1, e2, e3, e4⟩ (.inl ⟨rfl, fun W' _ => by simp [execOp, Act.eval, go_sem]⟩) ?_; simp only [nrm]; refine tks [13, 14, 15, 16, 17, 18] ?_
   iterate 6 (refine tk rfl rfl ⟨k0, k1, k2, k3, e1, e2, e3, e4⟩ rfl (fun _ hW => by (obtain ⟨y0, y1, y2, y3, _⟩ := hW; go_simp) <;> with_reducible rfl) ?_; simp only [nrm])
   refine tke ?_; refine tv 19 (.string ⟨x.2.toArray⟩) rfl rfl ⟨k0, k1, k2, k3, e1, e2, e3, e4⟩ (.inl ⟨rfl, fun W' hW => by have := run_string_of (P := Tryz.prog) (src := 23) (dst := 9) Tryz.underlying23 Tryz.underlying5 Tryz.underlying9 hW.2.2.2.2.2.1; simp [execOp, Act.eval, Result.andThen, this]⟩) ?_; simp only [nrm]; refine tks [20, 21, 22, 23, 24] ?_
   iterate 5 (refine tk rfl rfl ⟨k0, k1, k2, k3, e1, e2, e3, e4⟩ rfl (fun _ hW => by (obtain ⟨y0, y1, y2, y3, _⟩ := hW; go_simp) <;> with_reducible rfl) ?_; simp only [nrm])
   refine tke ?_; refine tv 25 (.string ⟨x.2.toArray⟩) rfl rfl ⟨k0, k1, k2, k3, e1, e2, e3, e4⟩ (.inl ⟨rfl, fun W' hW => by have := run_string_of (P := Tryz.prog) (src := 23) (dst := 9) Tryz.underlying23 Tryz.underlying5 Tryz.underlying9 hW.2.2.2.2.2.2.2; simp [execOp, Act.eval, Result.andThen, this]⟩) ?_; simp only [nrm]; refine tv 26 (.bool false) rfl rfl ⟨k0, k1, k2, k3, e1, e2, e3, e4⟩ (.inl ⟨rfl, fun W' _ => by simp [execOp, Act.eval, go_sem]⟩) ?_; simp only [nrm]; refine tks [27] ?_; refine tk rfl rfl ⟨k0, k1, k2, k3, e1, e2, e3, e4⟩ rfl (fun _ hW => by (obtain ⟨y0, y1, y2, y3, _⟩ := hW; go_simp) <;> with_reducible rfl) ?_; simp only [nrm]; refine tke ?_; refine wd ?_ _; have HX : Hid (∃ j : Nat, j <= E.length /\ Value.int .i64 ((i : Int) + 1) = .int .i64 (j : Int) /\ Fr [] w wr.drew) := lh ⟨i + 1, hi, rfl, HFD.out⟩; clear k0 k1 k2 k3 e1 e2 e3 e4; go_wp2_with fail
   go_roundw
   case rel => exact HX.out
   case measure => simp [intOf]; omega
  ·obtain rfl : i = E.length := by omega
   have HX := lh (HQ.out _ _ ⟨rfl, HFR.out⟩); go_wp2_with fail; exact HX.out
/-- A tree or a key that may not be is not put. -/
theorem Put_bad {w : World} {st gk : Nat} {t : Int} {kv vv : Value} {key : Ky} (hk : BytesAt w kv key gk) (hm : mayB t key = false) :
  Calls Tryz.prog 10 #[.pointer (some ⟨st, 0, none⟩), .int .i64 t, kv, vv] w fun e w' => e = .returned (.int .i64 1) /\ w = w' := by
 have HMAY := lh (may_any t hk); rw [hm] at HMAY; refine calls_post fun R HQ => ?_; have HX := lh (HQ.out _ _ ⟨rfl, rfl⟩); clear hm hk
 go_enter Tryz.func10, Tryz.ntmps10
 go_wp2_with fail; refine HMAY.out.mono ?_; rintro e w1 ⟨rfl, rfl⟩; go_wp2_with fail; exact HX.out
def cmpI (a b : Int) : Int := if a < b then -1 else if b < a then 1 else 0
theorem compare_any (w : World) (a b : Int) : Calls Tryz.prog 126 #[.int .i64 a, .int .i64 b] w fun e w' => e = .returned (.int .i64 (cmpI a b)) /\ w' = w := by
 refine calls_post fun R HQ => ?_
 by_cases h1 : a < b
 ·have HX := lh (HQ.out (.returned (.int .i64 (-1))) w ⟨by unfold cmpI; rw [if_pos h1], rfl⟩); clear HQ
  go_enter Tryz.func126, Tryz.ntmps126
  go_wp2_with fail; exact HX.out
 ·by_cases h2 : b < a
  ·have HX := lh (HQ.out (.returned (.int .i64 1)) w ⟨by unfold cmpI; rw [if_neg h1, if_pos h2], rfl⟩); clear HQ
   go_enter Tryz.func126, Tryz.ntmps126
   go_wp2_with fail; exact HX.out
  ·have HX := lh (HQ.out (.returned (.int .i64 0)) w ⟨by unfold cmpI; rw [if_neg h1, if_neg h2], rfl⟩); clear HQ
   go_enter Tryz.func126, Tryz.ntmps126
   go_wp2_with fail; exact HX.out
theorem enter_compare9 (vs : Array Value) (w : World) : (callFunc 126 vs).run Tryz.prog w = .ok (.enter 126 vs) w := by kernel_rfl
theorem cmp_step {a b : List UInt8} {i : Nat} {x y : UInt8} (ha : a[i]? = some x) (hb : b[i]? = some y) : Lib.compareBytes (a.drop i) (b.drop i) = if x = y then Lib.compareBytes (a.drop (i + 1)) (b.drop (i + 1)) else cmpI (x.toNat : Int) (y.toNat : Int) := by
 obtain ⟨h1, h2⟩ := List.getElem?_eq_some_iff.1 ha; obtain ⟨h3, h4⟩ := List.getElem?_eq_some_iff.1 hb; rw [List.drop_eq_getElem_cons h1, List.drop_eq_getElem_cons h3, h2, h4]; rw [show ∀ u v, Lib.compareBytes (x :: u) (y :: v) = if x < y then -1 else if y < x then 1 else Lib.compareBytes u v from fun u v => by rw [Lib.compareBytes]]; unfold cmpI
 by_cases h : x = y
 ·subst h; rw [if_neg (UInt8.lt_irrefl x), if_neg (UInt8.lt_irrefl x), if_pos rfl]
 ·rw [if_neg h]; have hn : x.toNat ≠ y.toNat := fun e => h (UInt8.toNat_inj.1 e)
  by_cases h5 : x < y
  ·have : x.toNat < y.toNat := h5; rw [if_pos h5, if_pos (by omega)]
  ·have h6 : ¬ x.toNat < y.toNat := h5; have h7 : y < x := by show y.toNat < x.toNat; omega
   rw [if_neg h5, if_pos h7, if_neg (by omega), if_pos (by omega)]
theorem cmp_end {a b : List UInt8} {i : Nat} (h : ¬ (i < a.length /\ i < b.length)) (ha : i <= a.length) (hb : i <= b.length) : Lib.compareBytes (a.drop i) (b.drop i) = cmpI (a.length : Int) (b.length : Int) := by
 by_cases h1 : i < a.length
 ·have h2 : i = b.length := by omega
  rw [show b.drop i = [] from List.drop_eq_nil_of_le (by omega), List.drop_eq_getElem_cons h1]; unfold Lib.compareBytes cmpI; rw [if_neg (by omega), if_pos (by omega)]
 ·rw [show a.drop i = [] from List.drop_eq_nil_of_le (by omega)]
  by_cases h2 : i < b.length
  ·rw [List.drop_eq_getElem_cons h2]; unfold Lib.compareBytes cmpI; rw [if_pos (by omega)]
  ·rw [show b.drop i = [] from List.drop_eq_nil_of_le (by omega)]; unfold Lib.compareBytes cmpI; rw [if_neg (by omega), if_neg (by omega)]
theorem str_at {a : List UInt8} {i : Nat} {x : UInt8} (h : a[i]? = some x) : ∀ W : World, (Instr.index 9 (.string ⟨a.toArray⟩) (.int .i64 (i : Int))).run Tryz.prog W = .ok (.int .u8 (x.toNat : Int)) W := fun W => by
 obtain ⟨h1, h2⟩ := List.getElem?_eq_some_iff.1 h; have za : (ByteArray.mk a.toArray).size = a.length := by simp [ByteArray.size]
 rw [run_index_string _ _ _ _ _ Tryz.underlying9, dif_pos ⟨by omega, by rw [za]; omega⟩]
 have h3 : ∀ (hk : (i : Int).toNat < (ByteArray.mk a.toArray).size), (ByteArray.mk a.toArray)[(i : Int).toNat]'hk = x := fun hk => by
  show (a.toArray)[(i : Int).toNat]'_ = x
  simp [h2]
 rw [h3]
theorem bytes9_any (w : World) (a b : List UInt8) (_ha : a.length <= 9223372036854775807) (hb : b.length <= 9223372036854775807) : Calls Tryz.prog 110 #[.string ⟨a.toArray⟩, .string ⟨b.toArray⟩] w fun e w' => e = .returned (.int .i64 (Lib.compareBytes a b)) /\ Fr [] w w' := by
 refine calls_post fun R HQ => ?_
 go_enter Tryz.func110, Tryz.ntmps110
 go_wp2_with fail
 go_loopw [5] (fun v5 wr => ∃ i : Nat, v5 = .int .i64 (i : Int) /\ i <= a.length /\ i <= b.length /\ Lib.compareBytes (a.drop i) (b.drop i) = Lib.compareBytes a b /\ Fr [] w wr) (fun v5 _ => a.length - (intOf v5).toNat)
 case atStart => exact ⟨0, rfl, Nat.zero_le _, Nat.zero_le _, rfl, Fr.refl _ _⟩
 case round =>
  obtain ⟨i, rfl, h1, h2, h3, hfr⟩ := hrel; have HC := lh h3; have FR := lh hfr; clear h3 hfr; have za : (ByteArray.mk a.toArray).size = a.length := by simp [ByteArray.size]
  have zb : (ByteArray.mk b.toArray).size = b.length := by simp [ByteArray.size]
  by_cases hi : i < a.length /\ i < b.length
  ·have hia : (i : Int) < (a.length : Int) := by omega
   have hib : (i : Int) < (b.length : Int) := by omega
   obtain ⟨x, hx⟩ := gx hi.1; obtain ⟨y, hy⟩ := gx hi.2; have hst := cmp_step hx hy; have sx := str_at hx; have sy := str_at hy; have HD := lh FR.out.drew
   by_cases hxy : x = y
   ·subst hxy; rw [if_pos rfl, HC.out] at hst; have HX : Hid (∃ j : Nat, Value.int .i64 ((i : Int) + 1) = .int .i64 (j : Int) /\ j <= a.length /\ j <= b.length /\ Lib.compareBytes (a.drop j) (b.drop j) = Lib.compareBytes a b /\ Fr [] w wr.drew) := lh ⟨i + 1, rfl, by omega, by omega, hst.symm, HD.out⟩; have hwi := wi i (by omega)
    clear hst hx hy; go_upto_region 4 with fail
    refine wp_region_K (fun _ => True) [0, 1, 2, 3, 4, 5, 6] (by kernel_rfl) ?_; refine tks [0, 1] ?_
    iterate 2 (refine tk rfl rfl trivial rfl (fun _ _ => by go_simp <;> with_reducible rfl) ?_; simp only [nrm])
    refine tke ?_; refine tv 2 (.int .u8 (x.toNat : Int)) rfl rfl trivial (.inl ⟨rfl, fun W' _ => by simp [execOp, Act.eval, sx, Result.andThen]⟩) ?_; simp only [nrm]; refine tks [3, 4] ?_
    iterate 2 (refine tk rfl rfl trivial rfl (fun _ _ => by go_simp <;> with_reducible rfl) ?_; simp only [nrm])
    refine tke ?_; refine tv 5 (.int .u8 (x.toNat : Int)) rfl rfl trivial (.inl ⟨rfl, fun W' _ => by simp [execOp, Act.eval, sy, Result.andThen]⟩) ?_; simp only [nrm]; refine tv 6 (.bool false) rfl rfl trivial (.inl ⟨rfl, fun W' _ => by simp [execOp, Act.eval, go_sem]⟩) ?_; simp only [nrm]; refine wd ?_ _; clear sx sy; go_wp2_with fail
    go_roundw
    case rel => exact HX.out
    case measure => simp [intOf]; omega
   ·rw [if_neg hxy, HC.out] at hst; have hxi : ¬ (x.toNat : Int) = (y.toNat : Int) := fun e => hxy (UInt8.toNat_inj.1 (by omega)); have HXI := lh hxi; have HST := lh hst; clear hst hx hy hxy hxi; go_upto_region 4 with fail
    refine wp_region_K (fun _ => True) [0, 1, 2, 3, 4, 5, 6] (by kernel_rfl) ?_; refine tks [0, 1] ?_
    iterate 2 (refine tk rfl rfl trivial rfl (fun _ _ => by go_simp <;> with_reducible rfl) ?_; simp only [nrm])
    refine tke ?_; refine tv 2 (.int .u8 (x.toNat : Int)) rfl rfl trivial (.inl ⟨rfl, fun W' _ => by simp [execOp, Act.eval, sx, Result.andThen]⟩) ?_; simp only [nrm]; refine tks [3, 4] ?_
    iterate 2 (refine tk rfl rfl trivial rfl (fun _ _ => by go_simp <;> with_reducible rfl) ?_; simp only [nrm])
    refine tke ?_; refine tv 5 (.int .u8 (y.toNat : Int)) rfl rfl trivial (.inl ⟨rfl, fun W' _ => by simp [execOp, Act.eval, sy, Result.andThen]⟩) ?_; simp only [nrm]; refine tv 6 (.bool true) rfl rfl trivial (.inl ⟨rfl, fun W' _ => by have := HXI.out; simp [execOp, Act.eval, go_sem]; omega⟩) ?_; simp only [nrm]; refine wd ?_ _; go_upto_region 5 with fail
    refine wp_region_K (fun _ => True) [0, 1, 2, 3, 4, 5, 6, 7] (by kernel_rfl) ?_; refine tks [0, 1] ?_
    iterate 2 (refine tk rfl rfl trivial rfl (fun _ _ => by go_simp <;> with_reducible rfl) ?_; simp only [nrm])
    refine tke ?_; refine tv 2 (.int .u8 (x.toNat : Int)) rfl rfl trivial (.inl ⟨rfl, fun W' _ => by simp [execOp, Act.eval, sx, Result.andThen]⟩) ?_; simp only [nrm]; refine tv 3 (.int .i64 (x.toNat : Int)) rfl rfl trivial (.inl ⟨rfl, fun W' _ => by have h := x.toNat_lt; have h2 : IntKind.i64.wrap (x.toNat : Int) = (x.toNat : Int) := (by rw [IntKind.wrap_i64]; omega); simp [execOp, Act.eval, Result.andThen, go_sem, h2]⟩) ?_; simp only [nrm]; refine tks [4, 5] ?_
    iterate 2 (refine tk rfl rfl trivial rfl (fun _ _ => by go_simp <;> with_reducible rfl) ?_; simp only [nrm])
    refine tke ?_; refine tv 6 (.int .u8 (y.toNat : Int)) rfl rfl trivial (.inl ⟨rfl, fun W' _ => by simp [execOp, Act.eval, sy, Result.andThen]⟩) ?_; simp only [nrm]; refine tv 7 (.int .i64 (y.toNat : Int)) rfl rfl trivial (.inl ⟨rfl, fun W' _ => by have h := y.toNat_lt; have h2 : IntKind.i64.wrap (y.toNat : Int) = (y.toNat : Int) := (by rw [IntKind.wrap_i64]; omega); simp [execOp, Act.eval, Result.andThen, go_sem, h2]⟩) ?_; simp only [nrm]; refine sp 8 rfl rfl rfl fun K hK => ?_; refine wp_call_f (l := [.tmp 28, .tmp 32]) rfl [.int .i64 (x.toNat : Int), .int .i64 (y.toNat : Int)] rfl (enter_compare9 _) ((compare_any _ _ _).mono ?_); rintro e wz ⟨rfl, rfl⟩; rw [<- HST.out]; have HX := lh (HQ.out _ _ ⟨rfl, HD.out.drew⟩); refine ⟨_, rfl, hK _ _ (fun _ => trivial) ?_⟩; simp only [nrm]; clear hK; refine sp 9 rfl rfl rfl fun K hK => ?_; refine wp_run_same (v := ?aq3_9) ?yq3_9 (hK _ _ (fun _ => trivial) ?_)
    case yq3_9 => go_simp <;> with_reducible rfl
    simp only [nrm]; refine wd ?_ _; clear sx sy; go_wp2_with fail; exact HX.out
  ·have hend := cmp_end hi h1 h2; rw [HC.out] at hend; have HX := lh (HQ.out _ _ ⟨rfl, FR.out⟩); rw [hend] at HX
   by_cases hia : (i : Int) < (a.length : Int)
   ·have hib : ¬ (i : Int) < (b.length : Int) := by omega
    clear hend hi; go_wp2_with fail; refine (compare_any _ _ _).mono ?_; rintro e wz ⟨rfl, rfl⟩; go_wp2_with fail; exact HX.out
   ·clear hend hi; go_wp2_with fail; refine (compare_any _ _ _).mono ?_; rintro e wz ⟨rfl, rfl⟩; go_wp2_with fail; exact HX.out
/-- How the document compares bytes. -/
theorem bytes9_sl {w : World} {av bv : Value} {a b : List UInt8} {ga gb : Nat} (ha : BytesAt w av a ga) (hb : BytesAt w bv b gb) (h1 : a.length <= 9223372036854775807) (h2 : b.length <= 9223372036854775807) : Calls Tryz.prog 86 #[av, bv] w fun e w' => e = .returned (.int .i64 (Lib.compareBytes a b)) /\ Fr [] w w' := by
 have rsa := run_string_of (P := Tryz.prog) (src := 23) (dst := 9) Tryz.underlying23 Tryz.underlying5 Tryz.underlying9 ha; have rsb := run_string_of (P := Tryz.prog) (src := 23) (dst := 9) Tryz.underlying23 Tryz.underlying5 Tryz.underlying9 hb; refine calls_post fun R HQ => ?_; clear ha hb
 go_enter Tryz.func86, Tryz.ntmps86
 go_wp2_with fail; refine (bytes9_any w a b h1 h2).mono ?_; rintro e wz ⟨rfl, hf⟩; have HX := lh (HQ.out _ _ ⟨rfl, hf⟩); clear rsa rsb hf; go_wp2_with fail; exact HX.out
end
section
open Go.RowKit
theorem getE_of {E : En} (hr : Rise E) {k : Ky} {v : List UInt8} (h : (k, v) ∈ E) : getE E k = some v := by
 induction E with
 | nil => cases h
 | cons a E ih =>
  obtain ⟨h1, h2⟩ := List.pairwise_cons.1 hr; unfold getE; rw [List.find?_cons]
  by_cases ha : a.1 = k
  ·rw [decide_eq_true ha]; rcases List.mem_cons.1 h with rfl | h
   ·rfl
   ·have := h1 _ h; rw [ha] at this; exact absurd this (klt_irrefl k)
  ·rw [decide_eq_false ha]; rcases List.mem_cons.1 h with rfl | h
   ·exact absurd rfl ha
   ·exact ih h2 h
theorem delE_len (E : En) (k : Ky) : (delE E k).length <= E.length := List.length_filter_le ..
theorem get_has (E : En) (k : Ky) : (getE E k).isSome = hasE E k := by
 unfold getE hasE
 induction E with
 | nil => rfl
 | cons e E ih =>
  rw [List.find?_cons, List.any_cons]
  by_cases h : e.1 = k
  ·simp [h]
  ·simp only [h, decide_false, Bool.false_or]; exact ih
def posE (E : En) (k : Ky) : Nat := (E.takeWhile fun e => decide (klt e.1 k)).length
theorem klt_asym {a b : Ky} (h : klt a b) : ¬ klt b a := fun h2 => klt_irrefl _ (klt_trans h h2)
theorem pos_le (E : En) (k : Ky) : posE E k <= E.length := List.IsPrefix.length_le (List.takeWhile_prefix _)
theorem pos_stop {k : Ky} : ∀ {E : En} {i : Nat} {x : Ky × List UInt8}, (∀ e ∈ E.take i, klt e.1 k) -> E[i]? = some x -> ¬ klt x.1 k -> posE E k = i
 | [], i, x, _, h, _ => by simp at h
 | a :: E, 0, x, _, h, hx => by
  simp only [List.getElem?_cons_zero, Option.some.injEq] at h; subst h; unfold posE; rw [List.takeWhile_cons, if_neg (by simpa using hx)]
  rfl
 | a :: E, i + 1, x, hall, h, hx => by
  simp only [List.getElem?_cons_succ] at h; have h1 := pos_stop (fun e he => hall e (by rw [List.take_succ_cons]; exact List.mem_cons_of_mem _ he)) h hx; have h2 := hall a (by rw [List.take_succ_cons]; exact List.mem_cons_self ..); unfold posE at h1 ⊢; rw [List.takeWhile_cons, if_pos (by simpa using h2), List.length_cons, h1]
theorem has_stop {k : Ky} {E : En} {i : Nat} {x : Ky × List UInt8} (hr : Rise E) (hall : ∀ e ∈ E.take i, klt e.1 k) (h : E[i]? = some x) (hx : ¬ klt x.1 k) : hasE E k = decide (x.1 = k) := by
 rw [Bool.eq_iff_iff, hasE_iff, decide_eq_true_eq]; obtain ⟨h1, h2⟩ := List.getElem?_eq_some_iff.1 h
 constructor
 ·rintro ⟨e, he, rfl⟩; obtain ⟨j, hj, hje⟩ := List.mem_iff_getElem.1 he; rcases Nat.lt_trichotomy j i with hji | rfl | hij
  ·have := hall e (by rw [<- hje]; exact List.mem_take_iff_getElem.2 ⟨j, by omega, rfl⟩); exact absurd this (klt_irrefl _)
  ·rw [<- h2, hje]
  ·have h3 := List.pairwise_iff_getElem.1 hr i j h1 hj hij; rw [h2, hje] at h3; exact absurd h3 hx
 ·rintro rfl; exact ⟨x, by rw [<- h2]; exact List.getElem_mem _, rfl⟩
theorem has_none {k : Ky} {E : En} (hall : ∀ e ∈ E, klt e.1 k) : hasE E k = false /\ posE E k = E.length := by
 constructor
 ·cases h : hasE E k with
  | false => rfl
  | true =>
   obtain ⟨e, he, rfl⟩ := (hasE_iff E _).1 h; exact absurd (hall e he) (klt_irrefl _)
 ·unfold posE
  induction E with
  | nil => rfl
  | cons a E ih =>
   rw [List.takeWhile_cons, if_pos (by simpa using hall a (List.mem_cons_self ..)), List.length_cons, List.length_cons, ih fun e he => hall e (List.mem_cons_of_mem _ he)]
theorem around (k : Ky) : ∀ {E : En}, Rise E -> (E.filter fun e => decide (klt e.1 k)) = E.take (posE E k) /\ (E.filter fun e => decide (klt k e.1)) = E.drop (posE E k + if hasE E k then 1 else 0) /\
  (hasE E k = true -> ∃ v, E[posE E k]? = some (k, v))
 | [], _ => ⟨rfl, by simp, fun h => by cases h⟩
 | a :: E, hr => by
  obtain ⟨h1, h2⟩ := List.pairwise_cons.1 hr; obtain ⟨i1, i2, i3⟩ := around k h2; have hc : hasE (a :: E) k = (decide (a.1 = k) || hasE E k) := rfl
  have hlow : ∀ (_ : ¬ klt a.1 k), (E.filter fun e => decide (klt e.1 k)) = [] := fun hn => List.filter_eq_nil_iff.2 fun e he => by
   have := h1 e he; simp only [decide_eq_true_eq]; exact fun h => hn (klt_trans this h)
  rcases klt_lt (a := a.1) (b := k) with h | h | h
  ·have h3 := klt_asym h; have h4 : ¬ a.1 = k := fun e => by rw [e] at h; exact klt_irrefl _ h
   have hp : posE (a :: E) k = posE E k + 1 := by unfold posE; rw [List.takeWhile_cons, if_pos (by simpa using h)]; rfl
   rw [hp, hc, List.filter_cons, List.filter_cons]; simp only [h, h3, h4, decide_true, decide_false, if_true, Bool.false_eq_true, if_false, Bool.false_or]; refine ⟨by rw [i1, List.take_succ_cons], by rw [i2, show posE E k + 1 + (if hasE E k = true then 1 else 0) = (posE E k + if hasE E k = true then 1 else 0) + 1 by omega, List.drop_succ_cons], fun hh => ?_⟩; obtain ⟨v, hv⟩ := i3 hh; exact ⟨v, by rw [List.getElem?_cons_succ]; exact hv⟩
  ·have h3 : ¬ klt a.1 k := by rw [h]; exact klt_irrefl k
   have h4 : ¬ klt k a.1 := by rw [h]; exact klt_irrefl k
   have hp : posE (a :: E) k = 0 := by unfold posE; rw [List.takeWhile_cons, if_neg (by simpa using h3)]; rfl
   have hall : (E.filter fun e => decide (klt k e.1)) = E := List.filter_eq_self.2 fun e he => by
    have := h1 e he; rw [h] at this
    simpa using this
   rw [hp, hc, List.filter_cons, List.filter_cons, hlow h3, hall]; have h5 : ¬ klt k k := klt_irrefl k; simp only [h5, h, decide_true, decide_false, Bool.false_eq_true, if_false, Bool.true_or, if_true]; exact ⟨rfl, rfl, fun _ => ⟨a.2, by rw [List.getElem?_cons_zero, <- h]⟩⟩
  ·have h3 := klt_asym h; have h4 : ¬ a.1 = k := fun e => by rw [e] at h; exact klt_irrefl _ h
   have hp : posE (a :: E) k = 0 := by unfold posE; rw [List.takeWhile_cons, if_neg (by simpa using h3)]; rfl
   have hall : (E.filter fun e => decide (klt k e.1)) = E := List.filter_eq_self.2 fun e he => by
    simpa using klt_trans h (h1 e he)
   have hno : hasE E k = false := by
    cases hh : hasE E k with
    | false => rfl
    | true =>
     obtain ⟨e, he, hk⟩ := (hasE_iff E k).1 hh; have := h1 e he; rw [hk] at this; exact absurd this h3
   rw [hp, hc, List.filter_cons, List.filter_cons, hlow h3, hall, hno]; simp only [h, h3, h4, decide_true, decide_false, Bool.false_eq_true, if_false, if_true, Bool.or_false]; exact ⟨rfl, rfl, fun hh => by cases hh⟩
theorem put_new {E : En} {k : Ky} (hr : Rise E) (hh : hasE E k = false) (v : List UInt8) : putE E k v = E.take (posE E k) ++ (k, v) :: E.drop (posE E k) := by
 obtain ⟨h1, h2, _⟩ := around k hr; unfold putE; rw [h1, h2, hh]
 simp
theorem put_old {E : En} {k : Ky} (hr : Rise E) (hh : hasE E k = true) (v : List UInt8) : ∃ u, E[posE E k]? = some (k, u) /\ putE E k v = E.set (posE E k) (k, v) := by
 obtain ⟨h1, h2, h3⟩ := around k hr; obtain ⟨u, hu⟩ := h3 hh; obtain ⟨hl, _⟩ := List.getElem?_eq_some_iff.1 hu; refine ⟨u, hu, ?_⟩; unfold putE; rw [h1, h2, hh, if_pos rfl, List.set_eq_take_append_cons_drop, if_pos hl]
theorem del_has {E : En} {k : Ky} (hr : Rise E) (hh : hasE E k = true) : delE E k = E.take (posE E k) ++ E.drop (posE E k + 1) := by
 obtain ⟨h1, h2, _⟩ := around k hr; rw [hh, if_pos rfl] at h2; rw [<- h1, <- h2]; unfold delE
 have hp : ∀ {F : En}, Rise F -> F.filter (fun e => !decide (e.1 = k)) = F.filter (fun e => decide (klt e.1 k)) ++ F.filter fun e => decide (klt k e.1) := by
  intro F
  induction F with
  | nil => intro _; rfl
  | cons a F ih =>
   intro hF; obtain ⟨f1, f2⟩ := List.pairwise_cons.1 hF; have ih := ih f2; rw [List.filter_cons, List.filter_cons, List.filter_cons]
   have hlow : ∀ (_ : ¬ klt a.1 k), (F.filter fun e => decide (klt e.1 k)) = [] := fun hn => List.filter_eq_nil_iff.2 fun e he => by
    have := f1 e he; simp only [decide_eq_true_eq]; exact fun h => hn (klt_trans this h)
   rcases klt_lt (a := a.1) (b := k) with h | h | h
   ·have h3 := klt_asym h; have h4 : ¬ a.1 = k := fun e => by rw [e] at h; exact klt_irrefl _ h
    simp [h, h3, h4, ih]
   ·have h3 : ¬ klt k k := klt_irrefl k
    simp [h, h3, ih]
   ·have h3 := klt_asym h; have h4 : ¬ a.1 = k := fun e => by rw [e] at h; exact klt_irrefl _ h
    rw [hlow h3] at ih ⊢
    simp [h, h3, h4, ih]
 exact hp hr
theorem del_none {E : En} {k : Ky} (hh : hasE E k = false) : delE E k = E := List.filter_eq_self.2 fun e he => by
 have : ¬ e.1 = k := fun h => by
  have := (hasE_iff E k).2 ⟨e, he, h⟩; rw [hh] at this
  cases this
 simp [this]
theorem get_stop {E : En} {k : Ky} (hr : Rise E) (hh : hasE E k = true) : ∃ v, E[posE E k]? = some (k, v) /\ getE E k = some v := by
 obtain ⟨v, hv⟩ := (around k hr).2.2 hh; exact ⟨v, hv, getE_of hr (List.mem_of_getElem? hv)⟩
theorem get_none {E : En} {k : Ky} (hh : hasE E k = false) : getE E k = none := by
 have := get_has E k; rw [hh] at this
 simpa using this
theorem cmp_ge (a b : Ky) : (0 <= Lib.compareBytes a b) ↔ ¬ klt a b := by unfold klt; omega
theorem cmp_eq (a b : Ky) : Lib.compareBytes a b = 0 ↔ a = b := by
 rcases klt_lt (a := a) (b := b) with h | h | h
 ·have h2 := h; unfold klt at h; exact ⟨fun e => by omega, fun e => by subst e; exact absurd h2 (klt_irrefl _)⟩
 ·subst h; exact ⟨fun _ => rfl, fun _ => cmp_self _⟩
 ·have h2 := h; unfold klt at h; have := cmp_anti b a; exact ⟨fun e => by omega, fun e => by subst e; exact absurd h2 (klt_irrefl _)⟩
theorem told_step {E : En} {i : Nat} {x : Ky × List UInt8} (p : Ky × List UInt8 -> Bool) (h : E[i]? = some x) : (E.take (i + 1)).filter p = (E.take i).filter p ++ if p x = true then [x] else [] := by
 rw [take_one h, List.filter_append]; rw [List.filter_cons]
 rfl
theorem told_full {E : En} {i most : Nat} (p : Ky × List UInt8 -> Bool) (h : ((E.take i).filter p).length = most) : (E.filter p).take most = (E.take i).filter p := by
 have h1 : E.filter p = (E.take i).filter p ++ (E.drop i).filter p := by rw [<- List.filter_append, List.take_append_drop]
 rw [h1, <- h, List.take_left']
 rfl
end
section
open Go.RowKit Go.ChangeMaps Go.MapKept Go.Maps Go.Sort Go.Shelf
theorem right_any {w : World} {kv : Value} {key : Ky} {gk : Nat} (t : Int) (hk : BytesAt w kv key gk) : Calls Tryz.prog 54 #[.int .i64 t, kv] w fun e w' => e = .returned (.bool (mayB t key)) /\ w = w' := by
 obtain ⟨A, c, _, rfl, _, _⟩ := hk; refine calls_post fun R HQ => ?_; have HX := lh (HQ.out _ _ ⟨rfl, rfl⟩)
 by_cases h1 : 0 <= t
 ·by_cases h2 : t < 8
  ·by_cases h3 : 0 < key.length
   ·have h3' : (0 : Int) < (key.length : Int) := by omega
    by_cases h4 : key.length <= 96
    ·have h4' : (key.length : Int) <= 96 := by omega
     have e : mayB t key = true := by unfold mayB; simp [h1, h2, h3, h4]
     rw [e] at HX
     go_enter Tryz.func54, Tryz.ntmps54
     go_wp2_with fail; exact HX.out
    ·have h4' : ¬ (key.length : Int) <= 96 := by omega
     have e : mayB t key = false := by unfold mayB; simp [h4]
     rw [e] at HX
     go_enter Tryz.func54, Tryz.ntmps54
     go_wp2_with fail; exact HX.out
   ·have h3' : ¬ (0 : Int) < (key.length : Int) := by omega
    have e : mayB t key = false := by unfold mayB; simp [h3]
    rw [e] at HX
    go_enter Tryz.func54, Tryz.ntmps54
    go_wp2_with fail; exact HX.out
  ·have e : mayB t key = false := by unfold mayB; simp [h2]
   rw [e] at HX
   go_enter Tryz.func54, Tryz.ntmps54
   go_wp2_with fail; exact HX.out
 ·have e : mayB t key = false := by unfold mayB; simp [h1]
  rw [e] at HX
  go_enter Tryz.func54, Tryz.ntmps54
  go_wp2_with fail; exact HX.out
def KFew (E : En) : Prop := ∀ e ∈ E, e.1.length <= 600
/-- Where a key is, or would be. -/
theorem place_any {w : World} {v kv : Value} {E : En} {key : Ky} {gk : Nat} (h : EnSl w v E) (hr : Rise E) (hk : BytesAt w kv key gk) (hfew : E.length <= 1000000) (hkl : key.length <= 1000000) (hel : KFew E) :
  Calls Tryz.prog 55 #[v, kv] w fun e w' => e = .returned (.tuple #[.int .i64 (posE E key : Int), .bool (hasE E key)]) /\ Fr [] w w' := by
 obtain ⟨A, c, rfl, hc, hcells⟩ := h; have HCE := lh hcells; have HR := lh hr; have HK := lh hk; have HEL := lh hel; obtain ⟨Ak, ck, ok, rfl, _, _⟩ := hk; clear hcells hr hel hc; refine calls_post fun R HQ => ?_
 go_enter Tryz.func55, Tryz.ntmps55
 go_wp2_with fail
 go_loopw [6] (fun v6 wr => ∃ i : Nat, v6 = .int .i64 (i : Int) /\ i <= E.length /\ (∀ e ∈ E.take i, klt e.1 key) /\ Fr [] w wr) (fun v6 _ => E.length - (intOf v6).toNat)
 case atStart => exact ⟨0, rfl, Nat.zero_le _, fun e he => by simp at he, Fr.refl _ _⟩
 case round =>
  obtain ⟨i, rfl, hil, hall, hfr⟩ := hrel; have FR := lh hfr; have HALL := lh hall; clear hfr hall
  by_cases hi : i < E.length
  ·obtain ⟨x, hx⟩ := gx hi; obtain ⟨g, off, hA, hg⟩ := HCE.out (by omega); subst hA; obtain ⟨kx, _, c0, _, ⟨q1, b1⟩, _⟩ := hg i x hx; have k0 := fr_keep FR.out c0; have HXX := lh hx; have HB := lh (bytes9_sl (b1.fr FR.out (by simp)) (HK.out.fr FR.out (by simp)) (by have := HEL.out x (List.mem_of_getElem? hx); omega) (by omega)); obtain ⟨n, hn⟩ : ∃ n, n = Lib.compareBytes x.1 key := ⟨_, rfl⟩; rw [<- hn] at HB; have hge := cmp_ge x.1 key; have heq := cmp_eq x.1 key; rw [<- hn] at hge heq; have hwi := wi i (by omega)
   clear hn hg c0 b1 hx; go_wp2_with fail; refine HB.out.mono ?_; rintro e w2 ⟨rfl, hf2⟩; have F2 := lh (FR.out.trans hf2 (by simp)); clear hf2 HB k0
   by_cases h0 : 0 <= n
   ·have hnl := hge.1 h0; have hpos := pos_stop HALL.out HXX.out hnl; have hhas := has_stop HR.out HALL.out HXX.out hnl
    by_cases hz : n = 0
    ·have hxk := heq.1 hz; subst hz; have HX := lh (HQ.out (.returned (.tuple #[.int .i64 (i : Int), .bool true])) w2 ⟨by rw [hpos, hhas, decide_eq_true hxk], F2.out⟩); clear hge heq hnl hpos hhas hxk; go_wp2_with fail; exact HX.out
    ·have hxk : ¬ x.1 = key := fun e => hz (heq.2 e); have hzb : (n == 0) = false := by rw [beq_eq_false_iff_ne]; exact hz
     have HX := lh (HQ.out (.returned (.tuple #[.int .i64 (i : Int), .bool false])) w2 ⟨by rw [hpos, hhas, decide_eq_false hxk], F2.out⟩); clear hge heq hnl hpos hhas hxk; go_wp2_with fail; exact HX.out
   ·have hlt : klt x.1 key := Classical.byContradiction fun h => h0 (hge.2 h)
    have HX : Hid (∃ j : Nat, Value.int .i64 ((i : Int) + 1) = .int .i64 (j : Int) /\ j <= E.length /\ (∀ e ∈ E.take j, klt e.1 key) /\ Fr [] w w2) := lh ⟨i + 1, rfl, hi, fun e he => by
     rw [take_one HXX.out] at he; rcases List.mem_append.1 he with he | he
     ·exact HALL.out e he
     ·rw [List.mem_singleton.1 he]; exact hlt, F2.out⟩
    clear hge heq hlt; go_wp2_with fail
    go_roundw
    case rel => exact HX.out
    case measure => simp [intOf]; omega
  ·obtain rfl : i = E.length := by omega
   have hall := HALL.out; rw [List.take_length] at hall; obtain ⟨hno, hpos⟩ := has_none hall; have HX := lh (HQ.out (.returned (.tuple #[.int .i64 (E.length : Int), .bool false])) wr ⟨by rw [hno, hpos], FR.out⟩); clear hall hno hpos; go_wp2_with fail; exact HX.out
def rowsOf (vs : List Value) : List Nat := vs.filterMap Value.ownBlock
def fl (m : Nat) (vs : List Value) : List Nat := m :: rowsOf vs
theorem fl_row {m q : Nat} {vs : List Value} {v : Value} (hv : v ∈ vs) (hq : v.ownBlock = some q) : q ∈ fl m vs := List.mem_cons_of_mem _ (List.mem_filterMap.2 ⟨v, hv, hq⟩)
theorem fl_mem {m q : Nat} {vs : List Value} : q ∈ fl m vs ↔ q = m ∨ ∃ v ∈ vs, v.ownBlock = some q := by
 unfold fl rowsOf; rw [List.mem_cons, List.mem_filterMap]
def RRow (p H : Nat) (w : World) (v : Value) (E : En) : Prop := ∃ cs, w.ownsRow H 97 2 v E.length cs /\ EntsC (fun q => q < p) w E cs
theorem RRow.sl {p H : Nat} {w : World} {v : Value} {E : En} (h : RRow p H w v E) : EnSl w v E := by
 obtain ⟨cs, h1, h2⟩ := h; exact EnSl.of_row h1 h2
theorem RRow.fr {p H : Nat} {S : List Nat} {w w' : World} {v : Value} {E : En} (h : RRow p H w v E) (hf : Fr S w w') (hS : ∀ q ∈ S, v.ownBlock ≠ some q /\ p <= q) : RRow p H w' v E := by
 obtain ⟨cs, h1, h2⟩ := h; exact ⟨cs, own_fr h1 hf fun g hg hm => (hS g hm).1 hg, h2.fr hf fun q hq hm => by have := (hS q hm).2; omega⟩
theorem RRow.base {p H H' : Nat} {w : World} {v : Value} {E : En} (h : RRow p H w v E) (hb : ∀ q, v.ownBlock = some q -> H' <= q) : RRow p H' w v E := by
 obtain ⟨cs, h1, h2⟩ := h; exact ⟨cs, own_base h1 hb, h2⟩
theorem RRow.low {p H : Nat} {w : World} {v : Value} {E : En} (h : RRow p H w v E) : ∀ q, v.ownBlock = some q -> H <= q /\ q < w.heap.size := by
 obtain ⟨cs, h1, _⟩ := h; intro q hq; refine ⟨?_, own_lt h1 q hq⟩; rcases h1.2 with ⟨hv, _⟩ | ⟨g, _, _, hv, hb, _⟩
 ·rw [hv] at hq; simp [Value.ownBlock] at hq
 ·rw [hv] at hq; obtain rfl : g = q := by simpa [Value.ownBlock] using hq
  exact hb
theorem RRow.nil (p H : Nat) (w : World) : RRow p H w (.slice none 0 0) [] := ⟨[], own_nil _ _ _ _, trivial⟩
structure RefAt (p H : Nat) (w : World) (m : Nat) (vs : List Value) (E : Nat -> En) : Prop where
 pH : p <= H
 low : H <= m
 len : vs.length = 8
 blk : Blk w m 56 vs
 row : ∀ (t : Nat) (v : Value), vs[t]? = some v -> RRow p H w v (E t)
 apart : ∀ (t u : Nat) (v v' : Value) (q : Nat), vs[t]? = some v -> vs[u]? = some v' -> t ≠ u -> v.ownBlock = some q -> v'.ownBlock ≠ some q
section
variable {p H m : Nat} {w w' : World} {vs : List Value} {E : Nat -> En}
theorem RefAt.fr {S : List Nat} (h : RefAt p H w m vs E) (hf : Fr S w w') (hS : ∀ q ∈ S, q ∉ fl m vs /\ p <= q) : RefAt p H w' m vs E := by
 refine ⟨h.pH, h.low, h.len, h.blk.fr hf (fun hm => (hS m hm).1 (List.mem_cons_self ..)), fun t v hv => (h.row t v hv).fr hf fun q hq => ⟨fun hv2 => (hS q hq).1 (fl_row (List.mem_of_getElem? hv) hv2), (hS q hq).2⟩, h.apart⟩
theorem RefAt.fr0 (h : RefAt p H w m vs E) (hf : Fr [] w w') : RefAt p H w' m vs E := h.fr hf (by simp)
theorem RefAt.lt (h : RefAt p H w m vs E) : ∀ q ∈ fl m vs, H <= q /\ q < w.heap.size := fun q hq => by
 rcases fl_mem.1 hq with rfl | ⟨v, hv, hvq⟩
 ·exact ⟨h.low, h.blk.lt⟩
 ·obtain ⟨t, ht⟩ := List.mem_iff_getElem?.1 hv; exact (h.row t v ht).low q hvq
theorem RefAt.at_ (h : RefAt p H w m vs E) {t : Nat} (ht : t < 8) : ∃ A c, vs[t]? = some (.slice A (E t).length c) /\ (E t).length <= c /\ w.cell? ⟨m, t, none⟩ = some (.slice A (E t).length c) /\ RRow p H w (.slice A (E t).length c) (E t) := by
 obtain ⟨v, hv⟩ : ∃ v, vs[t]? = some v := gx (by rw [h.len]; exact ht); have hr := h.row t v hv; obtain ⟨cs, h1, h2⟩ := hr; obtain ⟨A, c, rfl, hc, _⟩ := own_shape h1; exact ⟨A, c, hv, hc, h.blk.at_ hv, ⟨cs, h1, h2⟩⟩
theorem RefAt.put_row {w1 : World} {t : Nat} {v : Value} {F : En} (h : RefAt p H w m vs E) (ht : t < 8) (hf : Fr [] w w1) (hv : RRow p w.heap.size w1 v F) : RefAt p H (w1.setCell ⟨m, t, none⟩ v) m (vs.set t v) (setR E t F) /\ Fr [m] w (w1.setCell ⟨m, t, none⟩ v) /\ ∀ q ∈ fl m (vs.set t v), q ∈ fl m vs ∨ w.heap.size <= q := by
 have hb1 := h.blk.fr hf (by simp); have hm := h.blk.lt; have hs : Fr [m] w1 (w1.setCell ⟨m, t, none⟩ v) := (Fr.refl _ _).setCell (.inl (by simp)) _
 have hnm : ∀ {x : Value} {G : En} {b : Nat}, RRow p b w1 x G -> x.ownBlock ≠ some m := fun {x G b} hx => by
  obtain ⟨cs, h1, _⟩ := hx; exact own_ne h1 hb1 (by decide)
 have hset : ∀ (u : Nat) (x : Value), (vs.set t v)[u]? = some x -> (u = t /\ x = v) ∨ (u ≠ t /\ vs[u]? = some x) := fun u x hx => by
  by_cases hu : u = t
  ·subst hu; rw [List.getElem?_set_self (by rw [h.len]; exact ht)] at hx; exact .inl ⟨rfl, (Option.some.inj hx).symm⟩
  ·rw [List.getElem?_set_ne (fun e => hu e.symm)] at hx; exact .inr ⟨hu, hx⟩
 have hz : H <= w.heap.size := by have := h.low; omega
 refine ⟨⟨h.pH, h.low, by rw [List.length_set]; exact h.len, hb1.set_ t v, fun u x hx => ?_, fun a b x y q hx hy hab hq => ?_⟩, (hf.mono (by simp)).trans hs (by simp), fun q hq => ?_⟩
 ·rcases hset u x hx with ⟨rfl, rfl⟩ | ⟨hu, hx⟩
  ·rw [setR_at]; exact (hv.fr hs fun q hq => ⟨by rw [List.mem_singleton.1 hq]; exact hnm hv, by rw [List.mem_singleton.1 hq]; have := h.low; have := h.pH; omega⟩).base fun q hq => by have := (hv.low q hq).1; omega
  ·rw [setR_off _ _ hu]; have h1 := (h.row u x hx).fr hf (by simp); exact h1.fr hs fun q hq => ⟨by rw [List.mem_singleton.1 hq]; exact hnm h1, by rw [List.mem_singleton.1 hq]; have := h.low; have := h.pH; omega⟩
 ·rcases hset a x hx with ⟨ha, hxv⟩ | ⟨_, hx2⟩
  ·rcases hset b y hy with ⟨hb, _⟩ | ⟨_, hy2⟩
   ·exact absurd (ha.trans hb.symm) hab
   ·intro he; rw [hxv] at hq; have h1 := (hv.low q hq).1; have h2 := ((h.row b y hy2).low q he).2; omega
  ·rcases hset b y hy with ⟨_, hyv⟩ | ⟨_, hy2⟩
   ·intro he; rw [hyv] at he; have h1 := (hv.low q he).1; have h2 := ((h.row a x hx2).low q hq).2; omega
   ·exact h.apart a b x y q hx2 hy2 hab hq
 ·rcases fl_mem.1 hq with rfl | ⟨x, hx, hxq⟩
  ·exact .inl (List.mem_cons_self ..)
  ·obtain ⟨u, hu⟩ := List.mem_iff_getElem?.1 hx; rcases hset u x hu with ⟨rfl, rfl⟩ | ⟨_, hu⟩
   ·exact .inr (hv.low q hxq).1
   ·exact .inl (fl_row (List.mem_of_getElem? hu) hxq)
/-- Get. -/
theorem rget_any (h : RefAt p H w m vs E) (t : Int) (hr : ∀ t, Rise (E t)) {kv : Value} {key : Ky} {gk : Nat} (hk : BytesAt w kv key gk) (hfew : ∀ t, (E t).length <= 1000000) (hel : ∀ t, KFew (E t)) :
  Calls Tryz.prog 26 #[.pointer (some ⟨m, 0, none⟩), .int .i64 t, kv] w fun e w' => ∃ v, e = .returned (.tuple #[v, .bool (mayB t key && (getE (E t.toNat) key).isSome), .int .i64 (if mayB t key = true then 0 else 1)]) /\
   (∃ q, BytesAt w' v (if mayB t key = true then (getE (E t.toNat) key).getD [] else []) q) /\ Fr [] w w' := by
 refine calls_post fun R HQ => ?_; have HRT := lh (right_any t hk)
 cases hm : mayB t key with
 | false =>
  rw [hm] at HRT HQ; have HX := lh (HQ.out (.returned (.tuple #[.slice none 0 0, .bool false, .int .i64 1])) w ⟨_, rfl, ⟨0, BytesAt.nil _ _⟩, Fr.refl _ _⟩); clear hm HQ hk
  go_enter Tryz.func26, Tryz.ntmps26
  go_wp2_with fail; refine HRT.out.mono ?_; rintro e w1 ⟨rfl, rfl⟩; go_wp2_with fail; exact bodyPost_ret (results_ttt rfl) rfl HX.out
 | true =>
  rw [hm] at HRT HQ
  obtain ⟨tn, rfl, ht8, hk96⟩ : ∃ tn : Nat, t = (tn : Int) /\ tn < 8 /\ key.length <= 96 := by
   unfold mayB at hm; simp only [Bool.and_eq_true, decide_eq_true_eq] at hm; exact ⟨t.toNat, by omega, by omega, hm.2⟩
  rw [Int.toNat_natCast] at HQ; obtain ⟨A, c, hv, hc, hcell, hrow⟩ := h.at_ ht8; have HPL := lh (place_any hrow.sl (hr tn) hk (hfew tn) (by omega) (hel tn)); have HT8 := lh ht8; have htI : (tn : Int) < 8 := by omega
  obtain ⟨Ak, ck, ok, rfl, _, _⟩ := id hk; have HE0 := lh (hrow.sl); have HRI := lh (hr tn); clear hm hk hv hrow ht8 hr hel h
  go_enter Tryz.func26, Tryz.ntmps26
  go_wp2_with fail; refine HRT.out.mono ?_; rintro e w1 ⟨rfl, rfl⟩; clear HRT; go_wp2_with fail; refine HPL.out.mono ?_; rintro e w2 ⟨rfl, hf⟩; have F2 := lh hf
  cases hh : hasE (E tn) key with
  | false =>
   have hg := get_none hh; rw [hg] at HQ; have HX := lh (HQ.out (.returned (.tuple #[.slice none 0 0, .bool false, .int .i64 0])) w2 ⟨_, rfl, ⟨0, BytesAt.nil _ _⟩, hf⟩); clear hh hg HQ hf HPL hcell; go_wp2_with fail; exact bodyPost_ret (results_ttt rfl) rfl HX.out
  | true =>
   obtain ⟨u, hu, hg⟩ := get_stop HRI.out hh; rw [hg] at HQ; obtain ⟨hl, _⟩ := List.getElem?_eq_some_iff.1 hu; obtain ⟨A', c', hsh, _, hcl⟩ := HE0.out; injection hsh with hA _ hc'; obtain ⟨g, off, hA2, hcells⟩ := hcl (by omega); rw [hA2] at hA; subst hA; obtain ⟨_, vx, _, c1, _, ⟨q2, b2⟩⟩ := hcells _ _ hu; have cr := fr_keep hf hcell; have k1 := fr_keep hf c1; have HX := lh (HQ.out (.returned (.tuple #[vx, .bool true, .int .i64 0])) w2 ⟨_, rfl, ⟨_, b2.fr hf (by simp)⟩, hf⟩); obtain ⟨i, hi⟩ := nm (posE (E tn) key); rw [<- hi] at k1 hl; obtain ⟨Av, cv, ov, rfl, _, _⟩ := b2; have hlI : (i : Int) < ((E tn).length : Int) := by omega
   rw [<- hi]; clear hh hg HQ hf HPL hcell hu hcells hcl hA2 c1 hc' hi; go_wp2_with fail; exact bodyPost_ret (results_ttt rfl) rfl HX.out
end
section
variable {P : Program} {o : Oper} {a : Act} {w : World} {K : Act -> World -> Prop} {Q : Exit -> Act -> World -> Prop}
theorem run_build_none {t e : TypeId} {i : TypeInfo} (ht : P.underlying t = some (.slice e)) (hi : P.info? e = some i) :
  (Instr.buildSlice t 0 #[]).run P w = .ok (.slice (some ⟨w.heap.size, 0, none⟩) 0 0) (w.alloc (.cells #[] e)) := by
 have h0 : Array.range 0 = #[] := Array.eq_empty_of_size_eq_zero (by simp)
 simp [Instr.buildSlice, run_underlying ht, sizeOf, typeInfo, hi, newRow, Instr.fill, h0]
theorem wp_build_none {t e : TypeId} (ho : o.op = .buildSlice t 0 #[]) {i : TypeInfo} (ht : P.underlying t = some (.slice e)) (hi : P.info? e = some i)
  (h : K (a.put o.dst (.slice (some ⟨w.heap.size, 0, none⟩) 0 0)) (w.alloc (.cells #[] e))) : Oper.wp P o a w K Q := by
 have hrun := run_build_none (P := P) (w := w) ht hi; refine wp_run_value (v := .slice (some ⟨w.heap.size, 0, none⟩) 0 0) (w' := w.alloc (.cells #[] e)) ?_ h
 simp [execOp, ho, hrun, Result.andThen]
end
theorem EntsC.app {D : Nat -> Prop} {w : World} {F : En} {ds : List Value} (hF : EntsC D w F ds) : ∀ {E : En} {cs : List Value}, EntsC D w E cs -> EntsC D w (E ++ F) (cs ++ ds)
 | [], [], _ => hF
 | _ :: _, _ :: _ :: _, h => ⟨h.1, EntsC.app hF h.2⟩
theorem EntsC.one {D : Nat -> Prop} {w : World} : ∀ {E : En} {cs : List Value}, EntsC D w E cs -> ∀ u ∈ cs, u.oneCell' = true
 | [], [], _ => fun u hu => by simp at hu
 | _ :: _, _ :: _ :: _, ⟨⟨⟨_, h1, _⟩, ⟨_, h2, _⟩⟩, h⟩ => fun u hu => by
  obtain ⟨_, _, _, rfl, _⟩ := h1; obtain ⟨_, _, _, rfl, _⟩ := h2; rcases List.mem_cons.1 hu with rfl | hu
  ·rfl
  ·rcases List.mem_cons.1 hu with rfl | hu
   ·rfl
   ·exact EntsC.one h u hu
end
end Go.Proofs.YtpjbdpepofnleaaGreat
