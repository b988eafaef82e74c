/-
  Joined by join.py: Pv Px
-/
import Derived.Test.YtpjbdpepofnleaaGreatJpl7
set_option maxRecDepth 100000
set_option maxHeartbeats 32000000
namespace Go.Proofs.YtpjbdpepofnleaaGreat
section
open Go.RowKit
def pgCells (d lg bl bh : Nat) (s : PS) : List Value := [.pointer (some ⟨d, 0, none⟩), .pointer (some ⟨lg, 0, none⟩), .int .i64 (s.n : Int), .int .i64 (s.l.n : Int), .map (some bl), .map (some bh), .bool s.br]
structure PgrAt (w : World) (g d lg bl bh : Nat) (s : PS) (fp : List Nat) : Prop where
 blk : Blk w g 118 (pgCells d lg bl bh s)
 jn : Jn w lg d s.l s.D fp
 late : MapAt w bl s.late
 held : MapAt w bh s.held
 ne : bl ≠ bh
 gout : g ∉ fp
 lout : bl ∉ fp
 hout : bh ∉ fp
 lok : PgOk s.n s.late
 hok : PgOk s.n s.held
 few : s.n <= 4096
def pfp (g lg bl bh : Nat) (fp : List Nat) : List Nat := g :: lg :: bl :: bh :: fp
def PStep (w w' : World) (g d lg bl bh : Nat) (s : PS) (fp : List Nat) : Prop := ∃ fp', PgrAt w' g d lg bl bh s fp' /\ Fr (pfp g lg bl bh fp) w w' /\ ∀ k ∈ fp', k ∈ fp ∨ w.heap.size <= k
section
variable {w w' : World} {g d lg bl bh : Nat} {s : PS} {fp : List Nat}
theorem PgrAt.ne1 (h : PgrAt w g d lg bl bh s fp) : g ≠ lg := h.blk.ne_ h.jn.log (by decide)
theorem PgrAt.ne2 (h : PgrAt w g d lg bl bh s fp) : bl ≠ g /\ bh ≠ g /\ bl ≠ lg /\ bh ≠ lg := ⟨h.late.ne_blk h.blk, h.held.ne_blk h.blk, h.late.ne_blk h.jn.log, h.held.ne_blk h.jn.log⟩
theorem PgrAt.fr {S : List Nat} (h : PgrAt w g d lg bl bh s fp) (hf : Fr S w w') (hS : ∀ k ∈ pfp g lg bl bh fp, k ∉ S) : PgrAt w' g d lg bl bh s fp := by
 have h1 := hS g (by simp [pfp]); have h2 := hS lg (by simp [pfp]); have h3 := hS bl (by simp [pfp]); have h4 := hS bh (by simp [pfp]); exact ⟨h.blk.fr hf h1, h.jn.fr hf h2 (fun k hk => hS k (by simp [pfp, hk])), h.late.fr hf h3, h.held.fr hf h4, h.ne, h.gout, h.lout, h.hout, h.lok, h.hok, h.few⟩
theorem PgrAt.lt (h : PgrAt w g d lg bl bh s fp) : ∀ k ∈ pfp g lg bl bh fp, k < w.heap.size := by
 intro k hk; simp only [pfp, List.mem_cons] at hk; rcases hk with rfl | rfl | rfl | rfl | hk
 ·exact h.blk.lt
 ·exact h.jn.log.lt
 ·exact h.late.lt
 ·exact h.held.lt
 ·exact h.jn.disk.lt k hk
theorem PStep.same (h : PgrAt w g d lg bl bh s fp) : PStep w w g d lg bl bh s fp := ⟨fp, h, Fr.refl _ _, fun _ hk => .inl hk⟩
theorem PStep.comp {w1 w2 : World} {s2 : PS} {fp1 : List Nat} (hf : Fr (pfp g lg bl bh fp) w w1) (hn : ∀ k ∈ fp1, k ∈ fp ∨ w.heap.size <= k) (h2 : PStep w1 w2 g d lg bl bh s2 fp1) : PStep w w2 g d lg bl bh s2 fp := by
 obtain ⟨fp2, h3, h4, h5⟩ := h2; have hz := hf.size; refine ⟨fp2, h3, hf.trans h4 (fun x hx => ?_), fun k hk => ?_⟩
 ·simp only [pfp, List.mem_cons] at hx ⊢; rcases hx with rfl | rfl | rfl | rfl | hx
  ·simp
  ·simp
  ·simp
  ·simp
  ·rcases hn x hx with h | h
   ·simp [h]
   ·exact .inr h
 ·rcases h5 k hk with h | h
  ·exact hn k h
  ·exact .inr (by omega)
theorem PgrAt.late_ {m : PgM} (h : PgrAt w g d lg bl bh s fp) (hm : MapAt w' bl m) (hf : Fr [bl] w w') (hok : PgOk s.n m) : PgrAt w' g d lg bl bh { s with late := m } fp := by
 have h2 := h.ne2; exact ⟨h.blk.fr hf (by simp only [List.mem_singleton]; exact fun e => h2.1 e.symm), h.jn.fr hf (by simp only [List.mem_singleton]; exact fun e => h2.2.2.1 e.symm) (fun k hk => by simp only [List.mem_singleton]; exact fun e => h.lout (e ▸ hk)), hm, h.held.fr hf (by simp only [List.mem_singleton]; exact fun e => h.ne e.symm), h.ne, h.gout, h.lout, h.hout, hok, h.hok, h.few⟩
theorem PgrAt.held_ {m : PgM} (h : PgrAt w g d lg bl bh s fp) (hm : MapAt w' bh m) (hf : Fr [bh] w w') (hok : PgOk s.n m) : PgrAt w' g d lg bl bh { s with held := m } fp := by
 have h2 := h.ne2; exact ⟨h.blk.fr hf (by simp only [List.mem_singleton]; exact fun e => h2.2.1 e.symm), h.jn.fr hf (by simp only [List.mem_singleton]; exact fun e => h2.2.2.2 e.symm) (fun k hk => by simp only [List.mem_singleton]; exact fun e => h.hout (e ▸ hk)), h.late.fr hf (by simp only [List.mem_singleton]; exact h.ne), hm, h.ne, h.gout, h.lout, h.hout, h.lok, hok, h.few⟩
end
section
variable {w : World} {g d lg bl bh : Nat} {s : PS} {fp : List Nat}
theorem gone_P (h : PgrAt w g d lg bl bh s fp) : Calls Tryz.prog 50 #[.pointer (some ⟨g, 0, none⟩)] w fun e w' => e = .returned (.bool s.br) /\ w = w' := by
 refine calls_post fun R HQ => ?_; have c0 := h.blk.at_ (i := 0) rfl; have c6 := h.blk.at_ (i := 6) rfl; clear h
 go_enter Tryz.func50, Tryz.ntmps50
 go_wp2_with fail; exact HQ.out _ _ ⟨rfl, rfl⟩
theorem pages_P (h : PgrAt w g d lg bl bh s fp) : Calls Tryz.prog 62 #[.pointer (some ⟨g, 0, none⟩)] w fun e w' => e = .returned (.int .i64 (s.n : Int)) /\ w = w' := by
 refine calls_post fun R HQ => ?_; have c2 := h.blk.at_ (i := 2) rfl; clear h
 go_enter Tryz.func62, Tryz.ntmps62
 go_wp2_with fail; exact HQ.out _ _ ⟨rfl, rfl⟩
theorem rollback_P (h : PgrAt w g d lg bl bh s fp) : Calls Tryz.prog 24 #[.pointer (some ⟨g, 0, none⟩)] w fun e w' => e = .returned (.tuple #[]) /\ PStep w w' g d lg bl bh { s with late := [] } fp := by
 refine calls_post fun R HQ => ?_; have c4 := h.blk.at_ (i := 4) rfl; obtain ⟨w1, hr, hm, hf, hz⟩ := h.late.clear 0; have HX : Hid (PStep w w1 g d lg bl bh { s with late := [] } fp) := lh ⟨fp, h.late_ hm hf (PgOk.nil _), hf.mono (fun x hx => .inl (by simp only [List.mem_singleton] at hx; simp [pfp, hx])), fun _ hk => .inl hk⟩; have hr' : ∀ ty, (Builtin.clear_ #[116] ty #[.map (some bl)]).run Tryz.prog w = .ok (.tuple #[]) w1 := fun ty => hr; clear h hr hm hf hz
 go_enter Tryz.func24, Tryz.ntmps24
 go_wp2_with fail
 go_end0
 exact HQ.out _ _ ⟨rfl, HX.out⟩
end

open Go.RowKit
def pad512 (b : List UInt8) : List UInt8 := b ++ List.replicate (512 - b.length) 0
theorem pad512_len {b : List UInt8} (h : b.length <= 512) : (pad512 b).length = 512 := by
 unfold pad512; rw [List.length_append, List.length_replicate]; omega
theorem zero_pg : (Tryz.prog.info? 123).map (·.zero) = some (some (pageV zpage)) := by kernel_rfl
theorem size_pg : (Tryz.prog.info? 123).map (·.size) = some 512 := by kernel_rfl
theorem splice_page (b : List UInt8) : splice (bcells zpage) 0 (bcells b) = bcells (pad512 b) := by
 have e : (bcells zpage).drop b.length = bcells (List.replicate (512 - b.length) 0) := by
  rw [zpage, <- bcells_drop, List.drop_replicate]
 unfold splice pad512; rw [bcells_append, bcells_len, List.take_zero, List.nil_append, Nat.zero_add, e]
def PS.write (s : PS) (k : Nat) (b : List UInt8) : PS := { s with late := putP s.late k (pad512 b) }
theorem write_P {w : World} {g d lg bl bh : Nat} {s : PS} {fp : List Nat} (h : PgrAt w g d lg bl bh s fp) (hbr : s.br = false) (k : Nat) (hk : k < s.n) (v : Value) (b : List UInt8) (gb : Nat) (hv : BytesAt w v b gb) (hb : b.length <= 512) :
  Calls Tryz.prog 66 #[.pointer (some ⟨g, 0, none⟩), .int .i64 (k : Int), v] w fun e w' => e = .returned (.int .i64 0) /\ PStep w w' g d lg bl bh (s.write k b) fp := by
 refine calls_post fun R HQ => ?_; obtain ⟨A, c, off, rfl, hc, hbc⟩ := hv; have c2 := h.blk.at_ (i := 2) rfl; have hn := h.few; have HA := lh h; have HB := lh hbc; have hgo := gone_P h; rw [hbr] at hgo; have HGO := lh hgo; clear h hbc hbr hgo
 go_enter Tryz.func66, Tryz.ntmps66
 go_wp2_with fail; refine HGO.out.mono ?_; rintro e w' ⟨rfl, rfl⟩
 have hsrc : ∀ o, BytesAt (w.alloc o) (.slice A b.length c) b gb := fun o => by
  by_cases h0 : 0 < b.length
  ·have hB : BytesAt w (.slice A b.length c) b gb := ⟨A, c, off, rfl, hc, HB.out⟩; exact hB.fr ((Fr.refl [] w).alloc o) (by simp)
  ·exact ⟨A, c, off, rfl, hc, fun h => absurd h h0⟩
 have HS := lh hsrc; clear hsrc HB
 go_wp2_with (first
  | (with_reducible refine wpList_alloc_z rfl 123 rfl (pageV zpage) (bcells zpage).toArray zero_pg rfl ?_)
  | (with_reducible refine wpList_copy_blk rfl (.tmp 27) (.tmp 28) 23 23 rfl 5 Tryz.underlying23 size_u8 _ _ _ _ _ _ rfl rfl w.heap.size 0 (bcells zpage) 123 (Blk.new w 123 _) (bcells b) ?cn ?cp ?cf (bcells_one _) ?_))
 case cn => rw [bcells_len]; exact (Nat.min_eq_left hb).symm
 case cp =>
  intro h0; obtain ⟨A', c', off', hv', _, hb'⟩ := HS.out (.cells (bcells zpage).toArray 123); injection hv' with hA _ _; obtain ⟨hA', hcell⟩ := hb' (by rw [bcells_len] at h0; exact h0); refine ⟨⟨gb, off', none⟩, by rw [hA, hA'], fun j v hj => ?_⟩; rw [Addr.add_mid]; exact hcell j v hj
 case cf => rw [bcells_len, bcells_len, zpage_len]; omega
 intro w3 hb3 hf3 hz3; rw [splice_page b] at hb3; have hfw : Fr [] w w3 := ((Fr.refl [] w).alloc (.cells (bcells zpage).toArray 123)).trans hf3 (by simp); have hp3 := HA.out.fr hfw (by simp); have c4 := hp3.blk.at_ (i := 4) rfl; have hfr := hb3.free; obtain ⟨pg, hpg⟩ := nm (pad512 b); have hpl : pg.length = 512 := by rw [hpg]; exact pad512_len hb
 rw [<- hpg] at hb3; have hml : s.late.length < 9223372036854775807 := by have := HA.out.lok.few; omega
 have hst := fun w' (h : MapAt w' bl s.late) => h.store (k := k) (by omega) hml hpl; have HPG := lh hpg; have HB3 := lh hb3; have HFW := lh hfw; have HP3 := lh hp3; have HPL := lh hpl; have HST := lh hst; have hq := hb3.lt; generalize w.heap.size = q at *; clear hpg hb3 hfw hp3 hpl hst hml hf3 hz3 hfr HS HGO; go_wp2_with fail; refine wp_region_K (fun W => W.cell? ⟨g, 4, none⟩ = some (.map (some bl)) /\ Blk W q 123 (bcells pg)) [0, 1, 2, 3, 4, 5] (by kernel_rfl) ?_; refine tks [0, 1, 2, 3, 4] ?_
 iterate 5 (refine tk rfl rfl ⟨c4, HB3.out⟩ rfl (fun _ hW => by (obtain ⟨c4', hb'⟩ := hW; go_simp) <;> with_reducible rfl) ?_; simp only [nrm])
 refine tke ?_; refine tv 5 (.agg (bcells pg).toArray) rfl rfl ⟨c4, HB3.out⟩ (yieldsIf_load_mid rfl 123 (.tmp 7) rfl q 0 rfl (bcells pg) _ (fun W hW j v hj => by rw [Nat.zero_add]; exact hW.2.at_ hj) Tryz.underlying123 rfl (by rw [bcells_len, HPL.out]; exact size_pg)) ?_; simp only [nrm]; refine wpAnyK_step (j := 6) none rfl rfl (by kernel_rfl) rfl fun K hK => ?_; have hd3 : Fr [] w3 w3.drew := (Fr.refl [] w3).drew; obtain ⟨w9, hr, hm9, hf9, _⟩ := HST.out w3.drew (HP3.out.late.fr hd3 (by simp)); unfold pageV at hr; refine wp_run_skip (w' := w9) (by simp [execOp, Act.eval, hr, Result.andThen]) (hK _ _ (fun h => absurd h (by decide +kernel)) ?_); simp only [Act.put]; refine wd ?_ _; rw [HPG.out] at hm9; have HX : Hid (PStep w w9 g d lg bl bh (s.write k b) fp) := lh ⟨fp, (HP3.out.fr hd3 (by simp)).late_ hm9 hf9 (HA.out.lok.put hk (pad512_len hb)), ((HFW.out.drew).mono (T := pfp g lg bl bh fp) (by simp)).trans hf9 (fun x hx => .inl (by simp only [List.mem_singleton] at hx; subst hx; simp [pfp])), fun _ hk => .inl hk⟩; clear hr hm9 hf9 hd3 hK; go_wp2_with fail; exact HQ.out _ _ ⟨rfl, HX.out⟩
theorem build_two (a b : Int) (w : World) : (Instr.buildSlice 23 2 #[(0, .int .u8 a), (1, .int .u8 b)]).run Tryz.prog w = .ok (.slice (some ⟨w.heap.size, 0, none⟩) 2 2) (w.alloc (.cells #[.int .u8 a, .int .u8 b] 5)) := by kernel_rfl
def KeysAt (w : World) (v : Value) (m : PgM) (b0 : Nat) : Prop := ∃ A c, v = .slice A m.length c /\ m.length <= c /\ (0 < m.length -> ∃ g, A = some ⟨g, 0, none⟩ /\ b0 <= g /\ g < w.heap.size /\ ∀ (j : Nat) (u : Value), (kcells m)[j]? = some u -> w.cell? ⟨g, j, none⟩ = some u)
theorem KeysAt.of {w : World} {v : Value} {m : PgM} {b : Nat} (h : w.ownsRow b 3 1 v m.length (kcells m)) : KeysAt w v m b := by
 obtain ⟨A, c, rfl, hc, _⟩ := own_shape h; refine ⟨A, c, rfl, hc, fun h0 => ?_⟩; obtain ⟨g, rfl, hg⟩ := own_cell h h0; refine ⟨g, rfl, ?_, own_lt h g rfl, hg⟩; rcases h.2 with ⟨_, h1⟩ | ⟨g', cap, cur, hv, hb, _⟩
 ·omega
 ·injection hv with hv _ _; injection hv with hv; injection hv with hv _ _; rw [hv]; exact hb
def RecRes (w : World) (m : PgM) (e : Ending) (w' : World) : Prop := ∃ v gb, e = .returned v /\ BytesAt w' v (recP m) gb /\ w.heap.size <= gb /\ Fr [] w w'
def RcRel (w2 : World) (m : PgM) (v3 v14 : Value) (wr : World) : Prop :=
 ∃ k : Nat, k <= m.length /\ v14 = .int .i64 (k : Int) /\ wr.ownsRow 0 5 1 v3 (recP (m.take k)).length (bcells (recP (m.take k))) /\ (∀ x, v3.ownBlock = some x -> w2.heap.size <= x) /\ Fr [] w2 wr
theorem record_P {w : World} {g d lg bl bh : Nat} {s : PS} {fp : List Nat} (h : PgrAt w g d lg bl bh s fp) :
  Calls Tryz.prog 52 #[.pointer (some ⟨g, 0, none⟩)] w (RecRes w s.late) := by
 refine calls_post fun R HQ => ?_; have c4 := h.blk.at_ (i := 4) rfl; have hn := h.few; have hfew := h.lok.few; have HA := lh h; clear h
 go_enter Tryz.func52, Tryz.ntmps52
 go_wp2_with fail; refine (keys_any bl w).mono ?_; rintro e w1 ⟨rfl, hw1⟩; have hf1 : Fr [] w w1 := by rw [hw1]; exact (Fr.refl [] w).alloc _
 have hs1 : w1.heap.size = w.heap.size + 1 := by rw [hw1]; simp
 have HSO := lh (sorted_any HA.out.late HA.out.lok (by omega) w1 hw1); have HF1 := lh hf1; clear hw1 hf1; go_wp2_with fail; refine HSO.out.mono ?_; rintro e w2 ⟨kv, rfl, hrow, hf2⟩; have HK := lh (KeysAt.of hrow); have HF2 := lh (HF1.out.trans hf2 (by simp)); obtain ⟨A, c, hkv, hc, _⟩ := KeysAt.of hrow; subst hkv; have hz2 := hf2.size; obtain ⟨m, hm⟩ := nm (s.late); rw [<- hm] at HK hc hfew HQ ⊢; have HM := lh hm; obtain ⟨n, hnl⟩ := nm (m.length); rw [<- hnl] at hc hfew ⊢; have HN := lh hnl; clear hrow hf2 HSO HF1 hm hnl c4; go_wp2_with fail
 go_loopw [3, 14] (fun v3 v14 wr => RcRel w2 m v3 v14 wr) (fun _ v _ => n - (intOf v).toNat)
 case atStart => exact ⟨0, Nat.zero_le _, rfl, by rw [List.take_zero]; exact own_nil _ _ _ _, by simp [Value.ownBlock], Fr.refl _ _⟩
 case round =>
  obtain ⟨k, hk, rfl, hown, hge, hf⟩ := hrel; rw [<- HN.out] at hk; have HF := lh hf; have HFW := lh (HF2.out.trans hf (by simp)); have HOWN := lh hown; obtain ⟨oA, oc, rfl, hoc, _⟩ := own_shape hown; have HGE := lh hge
  have htl : (recP (m.take k)).length = 514 * k := by
   rw [recP_len (n := s.n) (fun p hp => HA.out.lok.mem p (by rw [<- HM.out]; exact List.mem_of_mem_take hp)), List.length_take, <- HN.out, Nat.min_eq_left hk]
  have HTL := lh htl; clear hf hown hge htl
  by_cases hkn : k < n
  ·obtain ⟨p, hp⟩ : ∃ p, m[k]? = some p := gx (by rw [<- HN.out]; exact hkn); have hpm : p ∈ m := List.mem_of_getElem? hp; have hpb : p.1 < s.n /\ p.2.length = 512 := HA.out.lok.mem p (by rw [<- HM.out]; exact hpm); have hP := HA.out.fr HFW.out (by simp); have c4 := hP.blk.at_ (i := 4) rfl; have hlk := hP.late.look (k := p.1) (by omega); rw [getP_of_mem HA.out.lok (j := p.1) (b := p.2) (by rw [<- HM.out]; exact hpm), Option.getD_some] at hlk; unfold pageV at hlk; obtain ⟨A', c', hv, _, hkc⟩ := HK.out; obtain ⟨kg, hA, hkg, hklt, hcell⟩ := hkc (by rw [<- HN.out]; omega); injection hv with hv1 _ hv3; subst hv1; subst hv3; subst hA
   have kc : wr.cell? ⟨kg, k, none⟩ = some (.int .i64 (p.1 : Int)) := by
    rw [HF.out.cell (p := ⟨kg, k, none⟩) hklt (by simp)]; exact hcell k _ (by simp [kcells, hp])
   have HP := lh hp; have HPB := lh hpb; clear hp hpm hP hcell hkc hpb
   go_wp2_with (first
    | (with_reducible refine wpList_alloc_z rfl 123 rfl (pageV zpage) (bcells zpage).toArray zero_pg rfl ?_)
    | (with_reducible refine wpList_store_z (W := wr) rfl 123 (.tmp 6) (.tmp 23) rfl (bcells p.2) rfl rfl rfl ?zi ?zl ?z1 ?_))
   case zi => have h := size_pg; simpa [bcells_len, HPB.out.2] using h
   case zl => show (bcells zpage).length = (bcells p.2).length; rw [bcells_len, bcells_len, zpage_len, HPB.out.2]
   case z1 => exact bcells_one _
   intro w4 hb4 hf4 hz4; have HB4 := lh hb4; have HF4 := lh hf4; have hzr : wr.heap.size < w4.heap.size := by omega
   have hown4 := own_fr HOWN.out hf4 (by simp); have HOWN4 := lh hown4; clear hb4 hf4 hown4 hlk c4 kc; go_upto_region 6 with fail
   refine wp_region_lit ?_
   iterate 6 (refine rn rfl (by go_simp <;> with_reducible rfl) ?_; simp only [nrm])
   obtain ⟨b1, hb1⟩ := nm (byteAt p.1 1); obtain ⟨b0, hb0⟩ := nm (byteAt p.1 0); have hw1 : IntKind.u8.wrap ((p.1 : Int) / 256) = (b1.toNat : Int) := by rw [hb1, byte_of, IntKind.wrap_u8]; simp
   have hw0 : IntKind.u8.wrap (p.1 : Int) = (b0.toNat : Int) := by rw [hb0, byte_of, IntKind.wrap_u8]; simp
   rw [hw1, hw0]; have HB1 := lh hb1; have HB0 := lh hb0; clear hw1 hw0 hb1 hb0; obtain ⟨iu, hi, hz', hsz', hby⟩ := info_parts info_u8; obtain ⟨pre, hpre⟩ := nm (recP (m.take k)); rw [<- hpre] at hoc HOWN HOWN4 HGE HTL ⊢; have hpl : pre.length <= 2105344 := by rw [HTL.out]; omega
   have HPRE := lh hpre; clear hpre; obtain ⟨ov, hov⟩ := nm (Value.slice oA pre.length oc); rw [<- hov] at HOWN HOWN4 HGE ⊢; have HOV := lh hov; clear hov; refine lp fun K hK => ?_; refine wp_run_value (v := .slice (some ⟨w4.heap.size, 0, none⟩) 2 2) (w' := w4.alloc (.cells #[.int .u8 (b1.toNat : Int), .int .u8 (b0.toNat : Int)] 5)) (by simp [execOp, Act.eval, build_two, Result.andThen]) (hK _ _ ?_); simp only [nrm]; clear hK; have hb5 : Blk (w4.alloc (.cells #[.int .u8 (b1.toNat : Int), .int .u8 (b0.toNat : Int)] 5)) w4.heap.size 5 (bcells [b1, b0]) := Blk.new w4 5 (bcells [b1, b0]); have hf5 : Fr [] w4 (w4.alloc (.cells #[.int .u8 (b1.toNat : Int), .int .u8 (b0.toNat : Int)] 5)) := (Fr.refl [] w4).alloc _; have hz5 : (w4.alloc (.cells #[.int .u8 (b1.toNat : Int), .int .u8 (b0.toNat : Int)] 5)).heap.size = w4.heap.size + 1 := by simp
   generalize w4.alloc (.cells #[.int .u8 (b1.toNat : Int), .int .u8 (b0.toNat : Int)] 5) = w5 at *; refine lp fun K hK => ?_; refine wp_append_fr (.tmp 24) (.tmp 30) rfl 5 1 1 Tryz.underlying23 hi hz' hsz' hby rfl (by omega) ov pre.length (bcells pre) rfl (own_fr HOWN4.out hf5 (by simp)) ⟨w4.heap.size, 0, none⟩ 2 2 (bcells [b1, b0]) rfl rfl (fun j u hu => by rw [Addr.add_mid, Nat.zero_add]; exact hb5.at_ hu) (bcells_one _) (by omega) (by unfold maxLen; omega) (by omega) (w4.heap.size + 1) hz5 fun g7 cap w7 ho7 hf7 hat7 hlt7 => hK _ _ ?_; simp only [nrm]; clear hK; refine rn rfl (by go_simp <;> with_reducible rfl) ?_; simp only [nrm]; refine wpList_nil ?_; have hov0 := HOV.out; have hne4 : ∀ x, ov.ownBlock = some x -> x < wr.heap.size := own_lt HOWN.out; have hf47 : Fr ov.ownBlock.toList w4 w7 := (hf5.mono (by simp)).trans hf7 (fun x hx => .inl hx); have hb7 : Blk w7 wr.heap.size 123 (bcells p.2) := HB4.out.fr hf47 (fun hm => by have := hne4 wr.heap.size (by simpa using hm); omega)
   have hge7 : w2.heap.size <= g7 /\ g7 < w7.heap.size /\ g7 ≠ wr.heap.size := by
    have hz := HF.out.size; rcases hat7 with h | h
    ·have h1 := HGE.out _ h; have h2 := hne4 _ h; exact ⟨h1, hlt7, by omega⟩
    ·exact ⟨by omega, hlt7, by omega⟩
   have hfr7 : Fr [] w2 w7 := (HF.out.trans HF4.out (by simp)).trans hf47 (fun x hx => .inr (HGE.out x (by simpa using hx))); have HB7 := lh hb7; have HG7 := lh hge7; have HFR7 := lh hfr7; have HO7 : Hid (w7.ownsRow 0 5 1 (.slice (some ⟨g7, 0, none⟩) (pre.length + 2) cap) (pre.length + 2) (bcells (pre ++ [b1, b0]))) := lh (by rw [bcells_append]; exact ho7); clear hb7 hge7 hfr7 hf47 hne4 ho7 hf7 hat7 hlt7 hf5 hb5 hz5 hov0 HB4 HF4 HOWN4 hzr hz4; go_upto_region 7 with fail
   refine wp_region_lit ?_
   iterate 2 (refine rn rfl (by go_simp <;> with_reducible rfl) ?_; simp only [nrm])
   refine lp fun K hK => ?_; refine wp_append_fr (.tmp 32) (.tmp 33) rfl 5 1 1 Tryz.underlying23 hi hz' hsz' hby rfl (by omega) (.slice (some ⟨g7, 0, none⟩) (pre.length + 2) cap) (pre.length + 2) (bcells (pre ++ [b1, b0])) rfl HO7.out ⟨wr.heap.size, 0, none⟩ 512 512 (bcells p.2) rfl (by rw [bcells_len, HPB.out.2]) (fun j u hu => by rw [Addr.add_mid, Nat.zero_add]; exact HB7.out.at_ hu) (bcells_one _) (by omega) (by unfold maxLen; omega) (by omega) w7.heap.size rfl fun g9 cap9 w9 ho9 hf9 hat9 hlt9 => hK _ _ ?_; simp only [nrm]; clear hK; refine rn rfl (by go_simp <;> with_reducible rfl) ?_; simp only [nrm]; refine wpList_nil ?_; have HFR9 : Hid (Fr [] w2 w9) := lh (HFR7.out.trans hf9 (fun x hx => .inr (by simp [Value.ownBlock] at hx; subst hx; exact HG7.out.1)))
   have HG9 : Hid (∀ x, (Value.slice (some ⟨g9, 0, none⟩) (pre.length + 2 + 512) cap9).ownBlock = some x -> w2.heap.size <= x) := lh (fun x hx => by
    simp [Value.ownBlock] at hx
    subst hx; rcases hat9 with h | h
    ·simp [Value.ownBlock] at h; subst h; exact HG7.out.1
    ·have := HFR7.out.size; omega)
   have hrec : recP (m.take (k + 1)) = pre ++ [b1, b0] ++ p.2 := by
    have e : m.take (k + 1) = m.take k ++ [p] := by
     obtain ⟨h1, h2⟩ := List.getElem?_eq_some_iff.1 HP.out; rw [List.take_succ_eq_append_getElem h1, h2]
    rw [e, recP_snoc, <- HPRE.out, HB1.out, HB0.out, List.append_assoc]
    rfl
   have HO9 : Hid (w9.ownsRow 0 5 1 (.slice (some ⟨g9, 0, none⟩) (pre.length + 2 + 512) cap9) (recP (m.take (k + 1))).length (bcells (recP (m.take (k + 1))))) := lh (by
    rw [hrec, bcells_append]; have : (pre ++ [b1, b0] ++ p.2).length = pre.length + 2 + 512 := by simp [HPB.out.2]
    rw [this]; exact ho9)
   clear ho9 hf9 hat9 hlt9 hrec hi hz' hsz' hby HO7 HB7 HFR7 HG7; go_wp2_with fail
   go_roundw
   case rel => exact ⟨k + 1, by rw [<- HN.out]; omega, by go_num, HO9.out, HG9.out, HFR9.out⟩
   case measure => simp [intOf]; omega
  ·have HE : Hid (m.take k = m) := lh (List.take_of_length_le (by rw [<- HN.out]; omega))
   have HBY : Hid (∃ gb, BytesAt wr (.slice oA (recP (m.take k)).length oc) (recP m) gb /\ w2.heap.size <= gb) := lh (by
    have h := bytes_of_own HOWN.out HGE.out; rw [HE.out] at h; rw [HE.out]; exact h)
   have hz2' := HF2.out.size; go_wp2_with fail; obtain ⟨gb, h1, h2⟩ := HBY.out; exact HQ.out _ _ ⟨_, gb, rfl, h1, by omega, HFW.out⟩

open Go.RowKit
section
variable {w w' : World} {g d lg bl bh : Nat} {s : PS} {fp : List Nat}
theorem PgrAt.disk_ {D' : DM} (h : PgrAt w g d lg bl bh s fp) (hs : DStep w w' d D' fp) (hl : D'.S.length = s.D.S.length) : PStep w w' g d lg bl bh { s with D := D' } fp := by
 obtain ⟨fp', hd', hf, hn⟩ := hs; have hlt := h.lt
 have out : ∀ k, k < w.heap.size -> k ∉ fp -> k ∉ fp' := fun k hk hk' hm => by
  rcases hn k hm with h | h
  ·exact hk' h
  ·omega
 have j := h.jn
 exact ⟨fp', ⟨h.blk.fr hf h.gout, ⟨j.log.fr hf j.apart, hd', out lg (hlt lg (by simp [pfp])) j.apart, j.at_, by show _ <= D'.S.length; rw [hl]; exact j.fit, j.num, j.ses⟩, h.late.fr hf h.lout, h.held.fr hf h.hout, h.ne, out g (hlt g (by simp [pfp])) h.gout, out bl (hlt bl (by simp [pfp])) h.lout, out bh (hlt bh (by simp [pfp])) h.hout, h.lok, h.hok, h.few⟩,
  hf.mono (fun x hx => .inl (by simp [pfp, hx])), hn⟩
theorem PgrAt.log_ {D' : DM} {l' : LG} (h : PgrAt w g d lg bl bh s fp) (hs : JStep w w' lg d l' D' fp) (hl : l'.n = s.l.n) : PStep w w' g d lg bl bh { s with D := D', l := l' } fp := by
 obtain ⟨fp', hj', hf, hn⟩ := hs; have hlt := h.lt; have hne := h.ne2
 have out : ∀ k, k < w.heap.size -> k ∉ fp -> k ∉ fp' := fun k hk hk' hm => by
  rcases hn k hm with h | h
  ·exact hk' h
  ·omega
 have far : ∀ k, k ≠ lg -> k ∉ fp -> k ∉ lg :: fp := fun k h1 h2 hm => by
  rcases List.mem_cons.1 hm with rfl | hm
  ·exact h1 rfl
  ·exact h2 hm
 refine ⟨fp', ⟨?_, hj', h.late.fr hf (far bl hne.2.2.1 h.lout), h.held.fr hf (far bh hne.2.2.2 h.hout), h.ne, out g (hlt g (by simp [pfp])) h.gout, out bl (hlt bl (by simp [pfp])) h.lout, out bh (hlt bh (by simp [pfp])) h.hout, h.lok, h.hok, h.few⟩,
  hf.mono (fun x hx => .inl (by rcases List.mem_cons.1 hx with rfl | hx <;> simp_all [pfp])), hn⟩
 have := h.blk.fr hf (far g h.ne1 h.gout); unfold pgCells at this ⊢; rw [show ({ s with D := D', l := l' } : PS).l.n = s.l.n from hl]; exact this
end
theorem enter_dwrite8 (vs : Array Value) (w : World) : (callFunc 127 vs).run Tryz.prog w = .ok (.enter 127 vs) w := by kernel_rfl
theorem secsM_get {log : Nat} : ∀ (m : PgM) (k i : Nat) (p : Nat × List UInt8), m[k]? = some p -> i < 8 -> (secsM log m)[8 * k + i]? = some (log + 8 * p.1 + i, (p.2.drop (64 * i)).take 64)
 | [], _, _, _, h, _ => by simp at h
 | q :: m, 0, i, p, h, hi => by
  simp at h
  subst h; unfold secsM; rw [List.flatMap_cons, List.getElem?_append_left (by simp; omega), List.getElem?_map, List.getElem?_range (by omega)]
  simp
 | q :: m, k + 1, i, p, h, hi => by
  have ih := secsM_get (log := log) m k i p (by simpa using h) hi; unfold secsM at ih ⊢; rw [List.flatMap_cons, List.getElem?_append_right (by simp; omega)]; simp only [List.length_map, List.length_range]; rw [show 8 * (k + 1) + i - 8 = 8 * k + i by omega]; exact ih
theorem slice_sec0 (q : Nat) (W : World) : (Instr.sliceAt 123 (.pointer (some ⟨q, 0, none⟩)) (some (.int .i64 0)) (some (.int .i64 64)) none).run Tryz.prog W = .ok (.slice (some ⟨q, 0, none⟩) 64 512) W := by kernel_rfl
theorem slice_sec1 (q : Nat) (W : World) : (Instr.sliceAt 123 (.pointer (some ⟨q, 0, none⟩)) (some (.int .i64 64)) (some (.int .i64 128)) none).run Tryz.prog W = .ok (.slice (some ⟨q, 64, none⟩) 64 448) W := by kernel_rfl
theorem slice_sec2 (q : Nat) (W : World) : (Instr.sliceAt 123 (.pointer (some ⟨q, 0, none⟩)) (some (.int .i64 128)) (some (.int .i64 192)) none).run Tryz.prog W = .ok (.slice (some ⟨q, 128, none⟩) 64 384) W := by kernel_rfl
theorem slice_sec3 (q : Nat) (W : World) : (Instr.sliceAt 123 (.pointer (some ⟨q, 0, none⟩)) (some (.int .i64 192)) (some (.int .i64 256)) none).run Tryz.prog W = .ok (.slice (some ⟨q, 192, none⟩) 64 320) W := by kernel_rfl
theorem slice_sec4 (q : Nat) (W : World) : (Instr.sliceAt 123 (.pointer (some ⟨q, 0, none⟩)) (some (.int .i64 256)) (some (.int .i64 320)) none).run Tryz.prog W = .ok (.slice (some ⟨q, 256, none⟩) 64 256) W := by kernel_rfl
theorem slice_sec5 (q : Nat) (W : World) : (Instr.sliceAt 123 (.pointer (some ⟨q, 0, none⟩)) (some (.int .i64 320)) (some (.int .i64 384)) none).run Tryz.prog W = .ok (.slice (some ⟨q, 320, none⟩) 64 192) W := by kernel_rfl
theorem slice_sec6 (q : Nat) (W : World) : (Instr.sliceAt 123 (.pointer (some ⟨q, 0, none⟩)) (some (.int .i64 384)) (some (.int .i64 448)) none).run Tryz.prog W = .ok (.slice (some ⟨q, 384, none⟩) 64 128) W := by kernel_rfl
theorem slice_sec7 (q : Nat) (W : World) : (Instr.sliceAt 123 (.pointer (some ⟨q, 0, none⟩)) (some (.int .i64 448)) (some (.int .i64 512)) none).run Tryz.prog W = .ok (.slice (some ⟨q, 448, none⟩) 64 64) W := by kernel_rfl
theorem slice_sec (q i : Nat) (hi : i < 8) (W : World) : (Instr.sliceAt 123 (.pointer (some ⟨q, 0, none⟩)) (some (.int .i64 ((64 * i : Nat) : Int))) (some (.int .i64 ((64 * (i + 1) : Nat) : Int))) none).run Tryz.prog W = .ok (.slice (some ⟨q, 64 * i, none⟩) 64 (512 - 64 * i)) W := by
 match i, hi with
 | 0, _ => exact slice_sec0 q W
 | 1, _ => exact slice_sec1 q W
 | 2, _ => exact slice_sec2 q W
 | 3, _ => exact slice_sec3 q W
 | 4, _ => exact slice_sec4 q W
 | 5, _ => exact slice_sec5 q W
 | 6, _ => exact slice_sec6 q W
 | 7, _ => exact slice_sec7 q W
theorem appendL_n (D : DM) (l : LG) (b : List UInt8) : (appendL D l b).n = l.n := by
 unfold appendL
 repeat' split
 all_goals rfl
def StOut (w2 : World) (g d lg bl bh : Nat) (s : PS) (fp : List Nat) (k : Nat) (wr : World) : Prop :=
 ∃ D, seqW s.D (secsM s.l.n s.held) = seqW D ((secsM s.l.n s.held).drop k) /\ PStep w2 wr g d lg bl bh { s with D := D } fp /\ D.S.length = s.D.S.length /\ D.done <= s.D.done + k
def StRes (w : World) (g d lg bl bh : Nat) (s : PS) (fp : List Nat) (e : Ending) (w' : World) : Prop :=
 e = .returned (.int .i64 (settleR s).2.2) /\ PStep w w' g d lg bl bh { s with D := (settleR s).1, l := (settleR s).2.1 } fp
theorem settle_P {w : World} {g d lg bl bh : Nat} {s : PS} {fp : List Nat} (h : PgrAt w g d lg bl bh s fp) (hdone : s.D.done + 200000 < 1099511627776) :
  Calls Tryz.prog 114 #[.pointer (some ⟨g, 0, none⟩)] w (StRes w g d lg bl bh s fp) := by
 refine calls_post fun R HQ => ?_; have c5 := h.blk.at_ (i := 5) rfl; have hn := h.few; have hfew := h.hok.few; have hlog : s.l.n <= 65536 := by have := h.jn.fit; have := h.jn.disk.ok.most; omega
 have HA := lh h; clear h
 go_enter Tryz.func114, Tryz.ntmps114
 go_wp2_with fail; refine (keys_any bh w).mono ?_; rintro e w1 ⟨rfl, hw1⟩; have hf1 : Fr [] w w1 := by rw [hw1]; exact (Fr.refl [] w).alloc _
 have hs1 : w1.heap.size = w.heap.size + 1 := by rw [hw1]; simp
 have HSO := lh (sorted_any HA.out.held HA.out.hok (by omega) w1 hw1); have HF1 := lh hf1; clear hw1 hf1; go_wp2_with fail; refine HSO.out.mono ?_; rintro e w2 ⟨kv, rfl, hrow, hf2⟩; have HK := lh (KeysAt.of hrow); have HF2 := lh (HF1.out.trans hf2 (by simp)); obtain ⟨A, c, hkv, hc, _⟩ := KeysAt.of hrow; subst hkv; have hz2 := hf2.size; have hA2 := HA.out.fr HF2.out (by simp); have HA2 := lh hA2; obtain ⟨n, hnl⟩ := nm (s.held.length); rw [<- hnl] at hc hfew ⊢; have HN := lh hnl; clear hrow hf2 HSO HF1 hnl c5 hA2; go_wp2_with fail
 go_loopw [16] (fun v16 wr => ∃ k : Nat, k <= n /\ v16 = .int .i64 (k : Int) /\ StOut w2 g d lg bl bh s fp (8 * k) wr) (fun v _ => n - (intOf v).toNat)
 case atStart => exact ⟨0, Nat.zero_le _, rfl, s.D, by rw [Nat.mul_zero, List.drop_zero], PStep.same HA2.out, rfl, Nat.le_refl _⟩
 case round =>
  obtain ⟨wo, rfl⟩ : ∃ wo : World, wo = wr := ⟨_, rfl⟩; obtain ⟨k, hk, rfl, Dk, hseq, hst, hSl, hdn⟩ := hrel; obtain ⟨fpk, hAk, hfk, hnk⟩ := hst; have HSEQ := lh hseq; have HAK := lh hAk; have HFK := lh hfk; have HNK := lh hnk; have HSL := lh hSl; clear hseq hfk hnk hSl
  by_cases hkn : k < n
  ·obtain ⟨p, hp⟩ : ∃ p, s.held[k]? = some p := gx (by rw [<- HN.out]; exact hkn); have hpm : p ∈ s.held := List.mem_of_getElem? hp; have hpb : p.1 < s.n /\ p.2.length = 512 := HA.out.hok.mem p hpm; have c5 := hAk.blk.at_ (i := 5) rfl; have hlk := hAk.held.look (k := p.1) (by omega); rw [getP_of_mem HA.out.hok (j := p.1) (b := p.2) hpm, Option.getD_some] at hlk; unfold pageV at hlk; obtain ⟨A', c', hv, _, hkc⟩ := HK.out; obtain ⟨kg, hA, hkg, hklt, hcell⟩ := hkc (by rw [<- HN.out]; omega); injection hv with hv1 _ hv3; subst hv1; subst hv3; subst hA; have hkout : kg ∉ pfp g lg bl bh fp := fun hm => by have := HA.out.lt kg hm; omega
   have kc : wo.cell? ⟨kg, k, none⟩ = some (.int .i64 (p.1 : Int)) := by
    rw [HFK.out.cell (p := ⟨kg, k, none⟩) hklt hkout]; exact hcell k _ (by simp [kcells, hp])
   have HP := lh hp; have HPB := lh hpb; have hpn : p.1 < 4096 := by omega
   clear hp hpm hAk hcell hkc hpb hkout
   go_wp2_with (first
    | (with_reducible refine wpList_alloc_z rfl 123 rfl (pageV zpage) (bcells zpage).toArray zero_pg rfl ?_)
    | (with_reducible refine wpList_store_z (W := wo) rfl 123 (.tmp 5) (.tmp 25) rfl (bcells p.2) rfl rfl rfl ?zi ?zl ?z1 ?_))
   case zi => have h := size_pg; simpa [bcells_len, HPB.out.2] using h
   case zl => show (bcells zpage).length = (bcells p.2).length; rw [bcells_len, bcells_len, zpage_len, HPB.out.2]
   case z1 => exact bcells_one _
   intro w4 hb4 hf4 hz4; have HB4 := lh hb4; have HF4 := lh hf4; have HA4 := lh (HAK.out.fr hf4 (by simp)); have hqlt : wo.heap.size < w4.heap.size := by omega
   clear hb4 hf4 hlk c5 kc; go_wp2_with fail
   go_loopw [26] (fun v26 wr => ∃ i : Nat, i <= 8 /\ v26 = .int .i64 (i : Int) /\ ∃ D, seqW s.D (secsM s.l.n s.held) = seqW D ((secsM s.l.n s.held).drop (8 * k + i)) /\ PStep w4 wr g d lg bl bh { s with D := D } fpk /\ D.S.length = s.D.S.length /\ D.done <= s.D.done + (8 * k + i)) (fun v _ => 8 - (intOf v).toNat)
   case atStart => exact ⟨0, by omega, rfl, Dk, HSEQ.out, PStep.same HA4.out, HSL.out, hdn⟩
   case round =>
    obtain ⟨i, hi, rfl, Di, hseqi, hsti, hSli, hdni⟩ := hrel; obtain ⟨fpi, hAi, hfi, hni⟩ := hsti; have HSEQI := lh hseqi; have HAI := lh hAi; have HFI := lh hfi; have HNI := lh hni; have HSLI := lh hSli; have c0 := hAi.blk.at_ (i := 0) rfl; have c3 := hAi.blk.at_ (i := 3) rfl; clear hseqi hfi hni hSli hAi
    by_cases hi8 : i < 8
    ·have hqo : wo.heap.size ∉ pfp g lg bl bh fpk := fun hm => by have := HAK.out.lt _ hm; omega
     have hbi := HB4.out.fr HFI.out hqo; have hsl := slice_sec wo.heap.size i hi8
     have hby : BytesAt wr (.slice (some ⟨wo.heap.size, 64 * i, none⟩) 64 (512 - 64 * i)) ((p.2.drop (64 * i)).take 64) wo.heap.size := by
      have h0 := (BytesAt.of_blk hbi 512 (by rw [HPB.out.2]; exact Nat.le_refl _)).sub (64 * i) 64 (by rw [HPB.out.2]; omega); rw [show (if 512 = 64 * i then some (⟨wo.heap.size, 0, none⟩ : Addr) else (some (⟨wo.heap.size, 0, none⟩ : Addr)).map (·.add (64 * i))) = some ⟨wo.heap.size, 64 * i, none⟩ by rw [if_neg (by omega)]; simp [Addr.add_mid]] at h0; exact h0
     have HBY := lh hby; have HSLC := lh hsl; have hqi : wo.heap.size < wr.heap.size := hbi.lt; have HLQ : Hid (∀ x ∈ fpk, x < wo.heap.size) := lh (fun x hx => HAK.out.lt x (by simp [pfp, hx])); have hdd : Di.done < 1099511627776 := by omega
     generalize wo.heap.size = q at *; clear hbi hsl hby hqo; have x1 : IntKind.i64.wrap (8 * (p.1 : Int)) = 8 * (p.1 : Int) := by rw [IntKind.wrap_i64]; omega
     have x2 : IntKind.i64.wrap ((s.l.n : Int) + 8 * (p.1 : Int)) = (s.l.n : Int) + 8 * (p.1 : Int) := by rw [IntKind.wrap_i64]; omega
     have x3 : IntKind.i64.wrap ((s.l.n : Int) + 8 * (p.1 : Int) + (i : Int)) = (s.l.n : Int) + 8 * (p.1 : Int) + (i : Int) := by rw [IntKind.wrap_i64]; omega
     have x4 : IntKind.i64.wrap (64 * (i : Int)) = ((64 * i : Nat) : Int) := by rw [IntKind.wrap_i64]; omega
     have x5 := wi i (by omega)
     have x6 : IntKind.i64.wrap (64 * ((i : Int) + 1)) = ((64 * (i + 1) : Nat) : Int) := by rw [IntKind.wrap_i64]; omega
     go_wp2_with fail; refine wp_region_K (fun W => W.cell? ⟨g, 0, none⟩ = some (.pointer (some ⟨d, 0, none⟩)) /\ W.cell? ⟨g, 3, none⟩ = some (.int .i64 (s.l.n : Int))) [0, 1, 2, 3, 4, 5, 6, 7, 8, 9, 10, 11, 12, 13, 14, 15, 16, 17, 18] (by kernel_rfl) ?_; refine tks [0, 1, 2, 3, 4, 5, 6, 7, 8, 9, 10, 11, 12, 13, 14, 15, 16, 17] ?_
     iterate 18 (refine tk rfl rfl ⟨c0, c3⟩ rfl (fun _ hW => by (obtain ⟨c0', c3'⟩ := hW; go_simp) <;> with_reducible rfl) ?_; simp only [nrm])
     refine tke ?_; refine tv 18 (.slice (some ⟨q, 64 * i, none⟩) 64 (512 - 64 * i)) rfl rfl ⟨c0, c3⟩ (.inl ⟨rfl, fun W _ => exec_slice rfl rfl rfl rfl (HSLC.out W)⟩) ?_; simp only [nrm]; refine sp 19 rfl rfl rfl fun K hK => ?_; have hdr : Fr [] wr wr.drew := (Fr.refl [] wr).drew; refine wp_call_f (l := [.tmp 32, .tmp 41, .tmp 47]) rfl [.pointer (some ⟨d, 0, none⟩), .int .i64 ((s.l.n : Int) + 8 * (p.1 : Int) + (i : Int)), .slice (some ⟨q, 64 * i, none⟩) 64 (512 - 64 * i)] rfl (enter_dwrite8 _) ((write_at (HAI.out.jn.disk.fr hdr (by simp)) _ _ _ _ (HBY.out.fr hdr (by simp)) (fun e => ?ne) hdd).mono ?_)
     case ne =>
      have h1 := HAI.out.jn.disk.mem; rcases HNI.out _ h1 with h | h
      ·have := HLQ.out d h; omega
      ·omega
     rintro e w7 ⟨rfl, hs7⟩; have hst7 := (HAI.out.fr hdr (by simp)).disk_ hs7 (by rw [write_S])
     have c07 : w7.cell? ⟨g, 0, none⟩ = some (.pointer (some ⟨d, 0, none⟩)) /\ w7.cell? ⟨g, 3, none⟩ = some (.int .i64 (s.l.n : Int)) := by
      obtain ⟨_, h7, _⟩ := hst7; exact ⟨h7.blk.at_ (i := 0) rfl, h7.blk.at_ (i := 3) rfl⟩
     refine ⟨_, rfl, hK _ _ (fun _ => c07) ?_⟩; simp only [nrm]; refine sp 20 rfl rfl rfl fun K hK => ?_; refine wp_run_same (v := ?aq13_20) ?yq13_20 (hK _ _ (fun _ => c07) ?_)
     case yq13_20 => go_simp <;> with_reducible rfl
     simp only [nrm]; refine wd ?_ _; rw [show (s.l.n : Int) + 8 * (p.1 : Int) + (i : Int) = ((s.l.n + 8 * p.1 + i : Nat) : Int) by omega] at hst7 ⊢
     have hdrop : (secsM s.l.n s.held).drop (8 * k + i) = (s.l.n + 8 * p.1 + i, (p.2.drop (64 * i)).take 64) :: (secsM s.l.n s.held).drop (8 * k + (i + 1)) := by
      have hg := secsM_get (log := s.l.n) s.held k i p HP.out hi8; obtain ⟨h1, h2⟩ := List.getElem?_eq_some_iff.1 hg; rw [List.drop_eq_getElem_cons h1, h2]
      rfl
     have hsq := HSEQI.out; rw [hdrop] at hsq; have hS8 := write_S Di ((s.l.n + 8 * p.1 + i : Nat) : Int) ((p.2.drop (64 * i)).take 64); have hD8 := write_done Di ((s.l.n + 8 * p.1 + i : Nat) : Int) ((p.2.drop (64 * i)).take 64)
     have hps : PStep w4 w7 g d lg bl bh { s with D := Di.write ((s.l.n + 8 * p.1 + i : Nat) : Int) ((p.2.drop (64 * i)).take 64) } fpk := by
      have h2 : PStep wr w7 g d lg bl bh { s with D := Di.write ((s.l.n + 8 * p.1 + i : Nat) : Int) ((p.2.drop (64 * i)).take 64) } fpi := PStep.comp (hdr.mono (by simp)) (fun _ hk => .inl hk) hst7; exact PStep.comp HFI.out HNI.out h2
     have HPS := lh hps; have HS8 := lh hS8; clear hs7 hst7 c07 hK hdr hdrop hps hS8 x1 x2 x3 x4 x5 x6 c0 c3
     by_cases he : Di.writeE ((s.l.n + 8 * p.1 + i : Nat) : Int) ((p.2.drop (64 * i)).take 64) = 0
     ·have hsq2 : seqW s.D (secsM s.l.n s.held) = seqW (Di.write ((s.l.n + 8 * p.1 + i : Nat) : Int) ((p.2.drop (64 * i)).take 64)) ((secsM s.l.n s.held).drop (8 * k + (i + 1))) := by
       rw [hsq, seqW, if_pos he]
      have HSQ := lh hsq2; rw [he]; clear hsq hsq2 he; generalize Di.write ((s.l.n + 8 * p.1 + i : Nat) : Int) ((p.2.drop (64 * i)).take 64) = D8 at *; go_wp2_with fail
      go_roundw
      case rel => exact ⟨i + 1, by omega, by go_num, D8, HSQ.out, HPS.out, by rw [HS8.out]; exact HSLI.out, by omega⟩
      case measure => simp [intOf]; omega
     ·have hsq2 : seqW s.D (secsM s.l.n s.held) = (Di.write ((s.l.n + 8 * p.1 + i : Nat) : Int) ((p.2.drop (64 * i)).take 64), Di.writeE ((s.l.n + 8 * p.1 + i : Nat) : Int) ((p.2.drop (64 * i)).take 64)) := by
       rw [hsq, seqW, if_neg he]
      generalize Di.write ((s.l.n + 8 * p.1 + i : Nat) : Int) ((p.2.drop (64 * i)).take 64) = D8 at *; generalize Di.writeE ((s.l.n + 8 * p.1 + i : Nat) : Int) ((p.2.drop (64 * i)).take 64) = e8 at *
      have hset : settleR s = (D8, s.l, e8) := by
       unfold settleR; rw [hsq2, if_pos he]
      have HX : Hid (StRes w g d lg bl bh s fp (.returned (.int .i64 e8)) w7) := lh (by
       unfold StRes; rw [hset]; exact ⟨rfl, PStep.comp (HF2.out.mono (by simp)) (fun _ hk => .inl hk) (PStep.comp (HFK.out.trans HF4.out (by simp)) HNK.out HPS.out)⟩)
      have hne : (e8 != 0) = true := by rw [bne_iff_ne]; exact he
      clear he hsq hsq2 hset; go_wp2_with fail; exact HQ.out _ _ HX.out
    ·obtain rfl : i = 8 := by omega
     have HPS : Hid (PStep w2 wr g d lg bl bh { s with D := Di } fp) := lh (PStep.comp (HFK.out.trans HF4.out (by simp)) HNK.out ⟨fpi, HAI.out, HFI.out, HNI.out⟩); clear c0 c3; go_wp2_with fail
     go_roundw
     case rel => exact ⟨k + 1, by omega, by go_num, Di, HSEQI.out, HPS.out, HSLI.out, by omega⟩
     case measure => simp [intOf]; omega
  ·obtain rfl : k = n := by omega
   have hL : (secsM s.l.n s.held).drop (8 * k) = [] := List.drop_of_length_le (by rw [secsM_len, <- HN.out]; exact Nat.le_refl _); have hsq : seqW s.D (secsM s.l.n s.held) = (Dk, 0) := by rw [HSEQ.out, hL]; rfl
   have HSQ := lh hsq; have c0 := hAk.blk.at_ (i := 0) rfl; clear hsq hL hAk; have HSY : Hid (Calls Tryz.prog 129 #[.pointer (some ⟨d, 0, none⟩)] wo fun e w' => e = .returned (.int .i64 Dk.syncE) /\ DStep wo w' d Dk.sync fpk) := lh (sync_at HAK.out.jn.disk (by show Dk.done < _; omega)); go_wp2_with fail; refine HSY.out.mono ?_; rintro e w5 ⟨rfl, hs5⟩
   have hS5 : Dk.sync.S.length = Dk.S.length := by
    unfold DM.sync
    split
    ·rfl
    ·split
     ·rfl
     ·exact layAll_len _ _
   have hst5 := HAK.out.disk_ hs5 (by show Dk.sync.S.length = Dk.S.length; exact hS5); have hps5 : PStep w w5 g d lg bl bh { s with D := Dk.sync } fp := PStep.comp (HF2.out.mono (by simp)) (fun _ hk => .inl hk) (PStep.comp HFK.out HNK.out hst5); obtain ⟨fp5, hA5, hf5, hn5⟩ := id hps5; have HPS5 := lh hps5; have HA5 := lh hA5; have HF5 := lh hf5; have HN5 := lh hn5; have c15 := hA5.blk.at_ (i := 1) rfl
   have hd5 : Dk.sync.done <= Dk.done + 1 := by
    unfold DM.sync
    split
    ·omega
    ·split
     ·show Dk.done <= _; omega
     ·exact Nat.le_refl _
   clear hs5 hst5 hps5 hA5 hf5 hn5 c0 HSY
   by_cases he : Dk.syncE = 0
   ·rw [he]
    have hset : settleR s = (appendD Dk.sync { s.l with at_ := 0 } [], appendL Dk.sync { s.l with at_ := 0 } [], appendE Dk.sync { s.l with at_ := 0 } []) := by
     unfold settleR; rw [HSQ.out, if_neg (by simp), if_neg (by simpa using he)]
    have HSET := lh hset; have HRS := lh (reset_at HA5.out.jn.log); clear hset he; go_wp2_with fail; refine HRS.out.mono ?_; rintro e w6 ⟨rfl, hb6, hf6⟩; have j := HA5.out.jn; have hj6 : JStep w5 w6 lg d { s.l with at_ := 0 } Dk.sync fp5 := ⟨fp5, ⟨hb6, j.disk.fr hf6 (fun k hk hm => by simp only [List.mem_singleton] at hm; subst hm; exact j.apart hk), j.apart, Nat.zero_le _, j.fit, j.num, j.ses⟩, hf6.mono (fun x hx => .inl (by simp only [List.mem_singleton] at hx; simp [hx])), fun _ hk => .inl hk⟩; have hst6 : PStep w5 w6 g d lg bl bh { s with D := Dk.sync, l := { s.l with at_ := 0 } } fp5 := HA5.out.log_ hj6 rfl; obtain ⟨fp6, hA6, hf6', hn6⟩ := id hst6; have HST6 := lh hst6; have HA6 := lh hA6; have HF6 := lh hf6'; have HN6 := lh hn6; have c16 := hA6.blk.at_ (i := 1) rfl; have HAP : Hid (Calls Tryz.prog 87 #[.pointer (some ⟨lg, 0, none⟩), .slice none 0 0] w6 fun e w' => e = .returned (.int .i64 (appendE Dk.sync { s.l with at_ := 0 } [])) /\ JStep w6 w' lg d (appendL Dk.sync { s.l with at_ := 0 } []) (appendD Dk.sync { s.l with at_ := 0 } []) fp6) := lh (append_at hA6.jn (BytesAt.nil w6 g) hA6.gout hA6.blk.lt (by simp) (by show Dk.sync.done + 65536 < _; omega)); clear j hj6 hst6 hA6 hf6' hn6 hb6 hf6 HRS c15; go_wp2_with fail; refine HAP.out.mono ?_; rintro e w7 ⟨rfl, hs7⟩; have hst7 := HA6.out.log_ hs7 (by show (appendL Dk.sync { s.l with at_ := 0 } []).n = s.l.n; rw [appendL_n])
    have HX : Hid (StRes w g d lg bl bh s fp (.returned (.int .i64 (appendE Dk.sync { s.l with at_ := 0 } []))) w7) := lh (by
     unfold StRes; rw [HSET.out]; exact ⟨rfl, PStep.comp HF5.out HN5.out (PStep.comp HF6.out HN6.out hst7)⟩)
    clear hs7 hst7 c16; go_wp2_with fail; exact HQ.out _ _ HX.out
   ·have hset : settleR s = (Dk.sync, s.l, Dk.syncE) := by
     unfold settleR; rw [HSQ.out, if_neg (by simp), if_pos (by simpa using he)]
    have HX : Hid (StRes w g d lg bl bh s fp (.returned (.int .i64 Dk.syncE)) w5) := lh (by
     unfold StRes; rw [hset]; exact ⟨rfl, HPS5.out⟩)
    have hne : (Dk.syncE != 0) = true := by rw [bne_iff_ne]; exact he
    clear hset he c15; go_wp2_with fail; exact HQ.out _ _ HX.out
end
end Go.Proofs.YtpjbdpepofnleaaGreat
