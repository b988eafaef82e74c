/-
  The pager in memory, and the contracts of its small functions: gone, Pages, Dirty, Rollback. The contract of (*Pager).Write.
-/
import Derived.Test.YtidpleejgalljaaPu
import Derived.Test.YtidpleejgalljaaGen
namespace Go.Proofs.Ytidpleejgalljaa
open Go.RowKit

def pgCells (d lg bl bh : Nat) (s : PS) : List Value := [.pointer (some ⟨d, 0, none⟩), .pointer (some ⟨lg, 0, none⟩), .int .i64 (s.n : Int), .int .i64 (s.l.n : Int), .map (some bl), .map (some bh), .bool s.br]
structure PgrAt (w : World) (g d lg bl bh : Nat) (s : PS) (fp : List Nat) : Prop where
  blk : Blk w g 63 (pgCells d lg bl bh s)
  jn : Jn w lg d s.l s.D fp
  late : MapAt w bl s.late
  held : MapAt w bh s.held
  ne : bl ≠ bh
  gout : g ∉ fp
  lout : bl ∉ fp
  hout : bh ∉ fp
  lok : PgOk s.n s.late
  hok : PgOk s.n s.held
  few : s.n ≤ 4096
def pfp (g lg bl bh : Nat) (fp : List Nat) : List Nat := g :: lg :: bl :: bh :: fp
/-- What an operation on a pager leaves. -/
def PStep (w w' : World) (g d lg bl bh : Nat) (s : PS) (fp : List Nat) : Prop := ∃ fp', PgrAt w' g d lg bl bh s fp' ∧ Fr (pfp g lg bl bh fp) w w' ∧ ∀ k ∈ fp', k ∈ fp ∨ w.heap.size ≤ k
section
variable {w w' : World} {g d lg bl bh : Nat} {s : PS} {fp : List Nat}
theorem PgrAt.ne1 (h : PgrAt w g d lg bl bh s fp) : g ≠ lg := h.blk.ne_ h.jn.log (by decide)
theorem PgrAt.ne2 (h : PgrAt w g d lg bl bh s fp) : bl ≠ g ∧ bh ≠ g ∧ bl ≠ lg ∧ bh ≠ lg := ⟨h.late.ne_blk h.blk, h.held.ne_blk h.blk, h.late.ne_blk h.jn.log, h.held.ne_blk h.jn.log⟩
theorem PgrAt.fr {S : List Nat} (h : PgrAt w g d lg bl bh s fp) (hf : Fr S w w') (hS : ∀ k ∈ pfp g lg bl bh fp, k ∉ S) : PgrAt w' g d lg bl bh s fp := by
  have h1 := hS g (by simp [pfp]); have h2 := hS lg (by simp [pfp]); have h3 := hS bl (by simp [pfp]); have h4 := hS bh (by simp [pfp])
  exact ⟨h.blk.fr hf h1, h.jn.fr hf h2 (fun k hk => hS k (by simp [pfp, hk])), h.late.fr hf h3, h.held.fr hf h4, h.ne, h.gout, h.lout, h.hout, h.lok, h.hok, h.few⟩
theorem PgrAt.lt (h : PgrAt w g d lg bl bh s fp) : ∀ k ∈ pfp g lg bl bh fp, k < w.heap.size := by
  intro k hk
  simp only [pfp, List.mem_cons] at hk
  rcases hk with rfl | rfl | rfl | rfl | hk
  · exact h.blk.lt
  · exact h.jn.log.lt
  · exact h.late.lt
  · exact h.held.lt
  · exact h.jn.disk.lt k hk
theorem PStep.same (h : PgrAt w g d lg bl bh s fp) : PStep w w g d lg bl bh s fp := ⟨fp, h, Fr.refl _ _, fun _ hk => .inl hk⟩
theorem PStep.of_fr (h : PgrAt w g d lg bl bh s fp) (hf : Fr [] w w') : PStep w w' g d lg bl bh s fp := ⟨fp, h.fr hf (by simp), hf.mono (by simp), fun _ hk => .inl hk⟩
theorem PStep.comp {w1 w2 : World} {s2 : PS} {fp1 : List Nat} (hf : Fr (pfp g lg bl bh fp) w w1) (hn : ∀ k ∈ fp1, k ∈ fp ∨ w.heap.size ≤ k) (h2 : PStep w1 w2 g d lg bl bh s2 fp1) : PStep w w2 g d lg bl bh s2 fp := by
  obtain ⟨fp2, h3, h4, h5⟩ := h2
  have hz := hf.size
  refine ⟨fp2, h3, hf.trans h4 (fun x hx => ?_), fun k hk => ?_⟩
  · simp only [pfp, List.mem_cons] at hx ⊢
    rcases hx with rfl | rfl | rfl | rfl | hx
    · simp
    · simp
    · simp
    · simp
    · rcases hn x hx with h | h
      · simp [h]
      · exact .inr h
  · rcases h5 k hk with h | h
    · exact hn k h
    · exact .inr (by omega)
/-- The map of what is late has turned. -/
theorem PgrAt.late_ {m : PgM} (h : PgrAt w g d lg bl bh s fp) (hm : MapAt w' bl m) (hf : Fr [bl] w w') (hok : PgOk s.n m) : PgrAt w' g d lg bl bh { s with late := m } fp := by
  have h2 := h.ne2
  exact ⟨h.blk.fr hf (by simp only [List.mem_singleton]; exact fun e => h2.1 e.symm), h.jn.fr hf (by simp only [List.mem_singleton]; exact fun e => h2.2.2.1 e.symm) (fun k hk => by simp only [List.mem_singleton]; exact fun e => h.lout (e ▸ hk)), hm, h.held.fr hf (by simp only [List.mem_singleton]; exact fun e => h.ne e.symm), h.ne, h.gout, h.lout, h.hout, hok, h.hok, h.few⟩
theorem PgrAt.held_ {m : PgM} (h : PgrAt w g d lg bl bh s fp) (hm : MapAt w' bh m) (hf : Fr [bh] w w') (hok : PgOk s.n m) : PgrAt w' g d lg bl bh { s with held := m } fp := by
  have h2 := h.ne2
  exact ⟨h.blk.fr hf (by simp only [List.mem_singleton]; exact fun e => h2.2.1 e.symm), h.jn.fr hf (by simp only [List.mem_singleton]; exact fun e => h2.2.2.2 e.symm) (fun k hk => by simp only [List.mem_singleton]; exact fun e => h.hout (e ▸ hk)), h.late.fr hf (by simp only [List.mem_singleton]; exact h.ne), hm, h.ne, h.gout, h.lout, h.hout, h.lok, hok, h.few⟩
end

/-! ### gone, Pages, Dirty, Rollback -/
section
variable {w : World} {g d lg bl bh : Nat} {s : PS} {fp : List Nat}
theorem gone_P (h : PgrAt w g d lg bl bh s fp) : Calls Try.prog 29 #[.pointer (some ⟨g, 0, none⟩)] w fun e w' => e = .returned (.bool s.br) ∧ w = w' := by
  refine calls_post fun R HQ => ?_
  have c0 := h.blk.at_ (i := 0) rfl; have c6 := h.blk.at_ (i := 6) rfl
  clear h
  go_enter Try.func29, Try.ntmps29
  go_wp2_with fail
  exact HQ.out _ _ ⟨rfl, rfl⟩
theorem gone_Pnil (w : World) : Calls Try.prog 29 #[.pointer none] w fun e w' => e = .returned (.bool true) ∧ w = w' := by
  refine calls_post fun R HQ => ?_
  go_enter Try.func29, Try.ntmps29
  go_wp2_with fail
  exact HQ.out _ _ ⟨rfl, rfl⟩
theorem pages_P (h : PgrAt w g d lg bl bh s fp) : Calls Try.prog 24 #[.pointer (some ⟨g, 0, none⟩)] w fun e w' => e = .returned (.int .i64 (s.n : Int)) ∧ w = w' := by
  refine calls_post fun R HQ => ?_
  have c2 := h.blk.at_ (i := 2) rfl
  clear h
  go_enter Try.func24, Try.ntmps24
  go_wp2_with fail
  exact HQ.out _ _ ⟨rfl, rfl⟩
theorem pages_Pnil (w : World) : Calls Try.prog 24 #[.pointer none] w fun e w' => e = .returned (.int .i64 0) ∧ w = w' := by
  refine calls_post fun R HQ => ?_
  go_enter Try.func24, Try.ntmps24
  go_wp2_with fail
  exact HQ.out _ _ ⟨rfl, rfl⟩
theorem dirty_P (h : PgrAt w g d lg bl bh s fp) : Calls Try.prog 22 #[.pointer (some ⟨g, 0, none⟩)] w fun e w' => e = .returned (.int .i64 (s.late.length : Int)) ∧ w = w' := by
  refine calls_post fun R HQ => ?_
  have c4 := h.blk.at_ (i := 4) rfl
  have hl := fun ty => h.late.len ty
  clear h
  go_enter Try.func22, Try.ntmps22
  go_wp2_with fail
  exact HQ.out _ _ ⟨rfl, rfl⟩
theorem dirty_Pnil (w : World) : Calls Try.prog 22 #[.pointer none] w fun e w' => e = .returned (.int .i64 0) ∧ w = w' := by
  refine calls_post fun R HQ => ?_
  go_enter Try.func22, Try.ntmps22
  go_wp2_with fail
  exact HQ.out _ _ ⟨rfl, rfl⟩
theorem rollback_P (h : PgrAt w g d lg bl bh s fp) : Calls Try.prog 20 #[.pointer (some ⟨g, 0, none⟩)] w fun e w' => e = .returned (.tuple #[]) ∧ PStep w w' g d lg bl bh { s with late := [] } fp := by
  refine calls_post fun R HQ => ?_
  have c4 := h.blk.at_ (i := 4) rfl
  obtain ⟨w1, hr, hm, hf, hz⟩ := h.late.clear 0
  have HX : Hid (PStep w w1 g d lg bl bh { s with late := [] } fp) := Lib.hid ⟨fp, h.late_ hm hf (PgOk.nil _), hf.mono (fun x hx => .inl (by simp only [List.mem_singleton] at hx; simp [pfp, hx])), fun _ hk => .inl hk⟩
  have hr' : ∀ ty, (Builtin.clear_ #[61] ty #[.map (some bl)]).run Try.prog w = .ok (.tuple #[]) w1 := fun ty => hr
  clear h hr hm hf hz
  go_enter Try.func20, Try.ntmps20
  go_wp2_with fail
  go_end0
  exact HQ.out _ _ ⟨rfl, HX.out⟩
theorem rollback_Pnil (w : World) : Calls Try.prog 20 #[.pointer none] w fun e w' => e = .returned (.tuple #[]) ∧ w = w' := by
  refine calls_post fun R HQ => ?_
  go_enter Try.func20, Try.ntmps20
  go_wp2_with fail
  go_end0
  exact HQ.out _ _ ⟨rfl, rfl⟩
end

end Go.Proofs.Ytidpleejgalljaa

namespace Go.Proofs.Ytidpleejgalljaa
open Go.RowKit

def pad512 (b : List UInt8) : List UInt8 := b ++ List.replicate (512 - b.length) 0
theorem pad512_len {b : List UInt8} (h : b.length ≤ 512) : (pad512 b).length = 512 := by
  unfold pad512
  rw [List.length_append, List.length_replicate]
  omega
theorem zero_pg : (Try.prog.info? 66).map (·.zero) = some (some (pageV zpage)) := by kernel_rfl
theorem size_pg : (Try.prog.info? 66).map (·.size) = some 512 := by kernel_rfl
theorem splice_page (b : List UInt8) : splice (bcells zpage) 0 (bcells b) = bcells (pad512 b) := by
  have e : (bcells zpage).drop b.length = bcells (List.replicate (512 - b.length) 0) := by
    rw [zpage, ← bcells_drop, List.drop_replicate]
  unfold splice pad512
  rw [bcells_append, bcells_len, List.take_zero, List.nil_append, Nat.zero_add, e]

def PS.write (s : PS) (k : Nat) (b : List UInt8) : PS := { s with late := putP s.late k (pad512 b) }
set_option maxRecDepth 100000 in
set_option maxHeartbeats 1000000 in
theorem write_P {w : World} {g d lg bl bh : Nat} {s : PS} {fp : List Nat} (h : PgrAt w g d lg bl bh s fp) (hbr : s.br = false) (k : Nat) (hk : k < s.n) (v : Value) (b : List UInt8) (gb : Nat) (hv : BytesAt w v b gb) (hb : b.length ≤ 512) :
    Calls Try.prog 14 #[.pointer (some ⟨g, 0, none⟩), .int .i64 (k : Int), v] w fun e w' => e = .returned (.int .i64 0) ∧ PStep w w' g d lg bl bh (s.write k b) fp := by
  refine calls_post fun R HQ => ?_
  obtain ⟨A, c, off, rfl, hc, hbc⟩ := hv
  have c2 := h.blk.at_ (i := 2) rfl
  have hn := h.few
  have HA := Lib.hid h; have HB := Lib.hid hbc
  have hgo := gone_P h
  rw [hbr] at hgo
  have HGO := Lib.hid hgo
  clear h hbc hbr hgo
  go_enter Try.func14, Try.ntmps14
  go_wp2_with fail
  refine HGO.out.mono ?_
  rintro e w' ⟨rfl, rfl⟩
  have hsrc : ∀ o, BytesAt (w.alloc o) (.slice A b.length c) b gb := fun o => by
    by_cases h0 : 0 < b.length
    · have hB : BytesAt w (.slice A b.length c) b gb := ⟨A, c, off, rfl, hc, HB.out⟩
      exact hB.fr ((Fr.refl [] w).alloc o) (by simp)
    · exact ⟨A, c, off, rfl, hc, fun h => absurd h h0⟩
  have HS := Lib.hid hsrc
  clear hsrc HB
  go_wp2_with (first
    | (with_reducible refine wpList_alloc_z rfl 66 rfl (pageV zpage) (bcells zpage).toArray zero_pg rfl ?_)
    | (with_reducible refine wpList_copy_blk rfl (.tmp 27) (.tmp 28) 35 35 rfl 5 Try.underlying35 size_u8 _ _ _ _ _ _ rfl rfl w.heap.size 0 (bcells zpage) 66 (Blk.new w 66 _) (bcells b) ?cn ?cp ?cf (bcells_one _) ?_))
  case cn => rw [bcells_len]; exact (Nat.min_eq_left hb).symm
  case cp =>
    intro h0
    obtain ⟨A', c', off', hv', _, hb'⟩ := HS.out (.cells (bcells zpage).toArray 66)
    injection hv' with hA _ _
    obtain ⟨hA', hcell⟩ := hb' (by rw [bcells_len] at h0; exact h0)
    refine ⟨⟨gb, off', none⟩, by rw [hA, hA'], fun j v hj => ?_⟩
    rw [Addr.add_mid]
    exact hcell j v hj
  case cf => rw [bcells_len, bcells_len, zpage_len]; omega
  intro w3 hb3 hf3 hz3
  rw [splice_page b] at hb3
  have hfw : Fr [] w w3 := ((Fr.refl [] w).alloc (.cells (bcells zpage).toArray 66)).trans hf3 (by simp)
  have hp3 := HA.out.fr hfw (by simp)
  have c4 := hp3.blk.at_ (i := 4) rfl
  have hfr := hb3.free
  obtain ⟨pg, hpg⟩ : ∃ pg, pg = pad512 b := ⟨_, rfl⟩
  have hpl : pg.length = 512 := by rw [hpg]; exact pad512_len hb
  rw [← hpg] at hb3
  have hml : s.late.length < 9223372036854775807 := by have := HA.out.lok.few; omega
  have hst := fun w' (h : MapAt w' bl s.late) => h.store (k := k) (by omega) hml hpl
  have HPG := Lib.hid hpg; have HB3 := Lib.hid hb3; have HFW := Lib.hid hfw; have HP3 := Lib.hid hp3; have HPL := Lib.hid hpl; have HST := Lib.hid hst
  have hq := hb3.lt
  generalize w.heap.size = q at *
  clear hpg hb3 hfw hp3 hpl hst hml hf3 hz3 hfr HS HGO
  go_wp2_with fail
  refine wp_region_K (fun W => W.cell? ⟨g, 4, none⟩ = some (.map (some bl)) ∧ Blk W q 66 (bcells pg)) [0, 1, 2, 3, 4, 5] (by kernel_rfl) ?_
  refine wpAnyK_take (i := 0) (some 30) ?vq1_0 rfl rfl (by kernel_rfl) (fun _ _ _ h => h) ⟨c4, HB3.out⟩ (.inl ⟨rfl, fun W hW => ?yq1_0⟩) ?_
  case yq1_0 => (obtain ⟨c4', hb'⟩ := hW; go_simp) <;> with_reducible rfl
  simp only [Act.put, List.setIfInBounds_toArray, List.set_cons_zero, List.set_cons_succ]
  refine wpAnyK_take (i := 1) (some 31) ?vq1_1 rfl rfl (by kernel_rfl) (fun _ _ _ h => h) ⟨c4, HB3.out⟩ (.inl ⟨rfl, fun W hW => ?yq1_1⟩) ?_
  case yq1_1 => (obtain ⟨c4', hb'⟩ := hW; go_simp) <;> with_reducible rfl
  simp only [Act.put, List.setIfInBounds_toArray, List.set_cons_zero, List.set_cons_succ]
  refine wpAnyK_take (i := 2) (some 32) ?vq1_2 rfl rfl (by kernel_rfl) (fun _ _ _ h => h) ⟨c4, HB3.out⟩ (.inl ⟨rfl, fun W hW => ?yq1_2⟩) ?_
  case yq1_2 => (obtain ⟨c4', hb'⟩ := hW; go_simp) <;> with_reducible rfl
  simp only [Act.put, List.setIfInBounds_toArray, List.set_cons_zero, List.set_cons_succ]
  refine wpAnyK_take (i := 3) (some 33) ?vq1_3 rfl rfl (by kernel_rfl) (fun _ _ _ h => h) ⟨c4, HB3.out⟩ (.inl ⟨rfl, fun W hW => ?yq1_3⟩) ?_
  case yq1_3 => (obtain ⟨c4', hb'⟩ := hW; go_simp) <;> with_reducible rfl
  simp only [Act.put, List.setIfInBounds_toArray, List.set_cons_zero, List.set_cons_succ]
  refine wpAnyK_take (i := 4) (some 34) ?vq1_4 rfl rfl (by kernel_rfl) (fun _ _ _ h => h) ⟨c4, HB3.out⟩ (.inl ⟨rfl, fun W hW => ?yq1_4⟩) ?_
  case yq1_4 => (obtain ⟨c4', hb'⟩ := hW; go_simp) <;> with_reducible rfl
  simp only [Act.put, List.setIfInBounds_toArray, List.set_cons_zero, List.set_cons_succ]
  refine wpAnyK_take (i := 5) (some 35) (.agg (bcells pg).toArray) rfl rfl (by kernel_rfl) (fun _ _ _ h => h) ⟨c4, HB3.out⟩ (yieldsIf_load_mid rfl 66 (.tmp 7) rfl q 0 rfl (bcells pg) _ (fun W hW j v hj => by rw [Nat.zero_add]; exact hW.2.at_ hj) Try.underlying66 rfl (by rw [bcells_len, HPL.out]; exact size_pg)) ?_
  simp only [Act.put, List.setIfInBounds_toArray, List.set_cons_zero, List.set_cons_succ]
  refine wpAnyK_step (j := 6) none rfl rfl (by kernel_rfl) rfl fun K hK => ?_
  have hd3 : Fr [] w3 w3.drew := (Fr.refl [] w3).drew
  obtain ⟨w9, hr, hm9, hf9, _⟩ := HST.out w3.drew (HP3.out.late.fr hd3 (by simp))
  unfold pageV at hr
  refine wp_run_skip (w' := w9) (by simp [execOp, Act.eval, hr, Result.andThen]) (hK _ _ (fun h => absurd h (by decide +kernel)) ?_)
  simp only [Act.put]
  refine wpAnyK_done (by kernel_rfl) ?_ _
  rw [HPG.out] at hm9
  have HX : Hid (PStep w w9 g d lg bl bh (s.write k b) fp) := Lib.hid ⟨fp, (HP3.out.fr hd3 (by simp)).late_ hm9 hf9 (HA.out.lok.put hk (pad512_len hb)), ((HFW.out.drew).mono (T := pfp g lg bl bh fp) (by simp)).trans hf9 (fun x hx => .inl (by simp only [List.mem_singleton] at hx; subst hx; simp [pfp])), fun _ hk => .inl hk⟩
  clear hr hm9 hf9 hd3 hK
  go_wp2_with fail
  exact HQ.out _ _ ⟨rfl, HX.out⟩

end Go.Proofs.Ytidpleejgalljaa
