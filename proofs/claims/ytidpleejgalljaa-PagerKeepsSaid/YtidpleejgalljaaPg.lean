/-
  For the laws of layer 8: a pager of the call's own and what is none of it; its operations, its disk's; 'awake', 'filled', 'shown'. For the laws of layer 8: 'awake'. The walk of PagerDirty.
-/
import Derived.Test.YtidpleejgalljaaPf
import Derived.Lib.SlBytesConst
import Derived.Test.YtidpleejgalljaaRow
namespace Go.Proofs.Ytidpleejgalljaa
open Go.RowKit

/-- A pager of the call's own, on a disk of its own, that began in world w0; the blocks of X are none of theirs. -/
def PgX (w0 w : World) (d g : Nat) (s : PS) (X : Nat → Prop) : Prop := ∃ lg bl bh fp, PgrAt w g d lg bl bh s fp ∧ (∀ k ∈ pfp g lg bl bh fp, w0.heap.size ≤ k ∧ ¬ X k) ∧ Fr [] w0 w ∧ ∀ k, X k → k < w.heap.size
section
variable {w0 w w' : World} {d g : Nat} {s s' : PS} {X Y : Nat → Prop}
theorem PgX.step {lg bl bh : Nat} {fp : List Nat} (h2 : ∀ k ∈ pfp g lg bl bh fp, w0.heap.size ≤ k ∧ ¬ X k) (h3 : Fr [] w0 w) (h4 : ∀ k, X k → k < w.heap.size) (hs : PStep w w' g d lg bl bh s' fp) : PgX w0 w' d g s' X ∧ Kp X w w' := by
  obtain ⟨fp', h1, hf, hn⟩ := hs
  have hz := h3.size
  have hz' := hf.size
  refine ⟨⟨lg, bl, bh, fp', h1, fun k hk => ?_, h3.trans hf (fun x hx => .inr (h2 x hx).1), fun k hk => Nat.lt_of_lt_of_le (h4 k hk) hz'⟩, _, hf, fun x hx => (h2 x hx).2⟩
  simp only [pfp, List.mem_cons] at hk
  rcases hk with rfl | rfl | rfl | rfl | hk
  · exact h2 _ (by simp [pfp])
  · exact h2 _ (by simp [pfp])
  · exact h2 _ (by simp [pfp])
  · exact h2 _ (by simp [pfp])
  · rcases hn k hk with h | h
    · exact h2 k (by simp [pfp, h])
    · exact ⟨by omega, fun hx => by have := h4 k hx; omega⟩
theorem PgX.fr (h : PgX w0 w d g s X) (hf : Fr [] w w') : PgX w0 w' d g s (fun k => X k ∨ w.heap.size ≤ k ∧ k < w'.heap.size) := by
  obtain ⟨lg, bl, bh, fp, h1, h2, h3, h4⟩ := h
  have hz := hf.size
  refine ⟨lg, bl, bh, fp, h1.fr hf (by simp), fun k hk => ⟨(h2 k hk).1, ?_⟩, h3.trans hf (by simp), ?_⟩
  · rintro (hx | hx)
    · exact (h2 k hk).2 hx
    · have := h1.lt k hk; omega
  · rintro k (hx | hx)
    · have := h4 k hx; omega
    · exact hx.2
theorem PgX.weak (h : PgX w0 w d g s X) (hY : ∀ k, Y k → X k) : PgX w0 w d g s Y := by
  obtain ⟨lg, bl, bh, fp, h1, h2, h3, h4⟩ := h
  exact ⟨lg, bl, bh, fp, h1, fun k hk => ⟨(h2 k hk).1, fun hy => (h2 k hk).2 (hY k hy)⟩, h3, fun k hk => h4 k (hY k hk)⟩
theorem PgX.stay (h : PgX w0 w d g s X) (hf : Fr [] w w') : PgX w0 w' d g s X := (h.fr hf).weak fun _ hk => .inl hk
theorem PgX.frame (h : PgX w0 w d g s X) : Fr [] w0 w := by obtain ⟨_, _, _, _, _, _, h, _⟩ := h; exact h
/-- What is none of the pager's, once more written: it stays. -/
theorem PgX.other {S : List Nat} (h : PgX w0 w d g s X) (hf : Fr S w w') (hS : ∀ x ∈ S, X x) (h0 : ∀ x ∈ S, w0.heap.size ≤ x) : PgX w0 w' d g s X := by
  obtain ⟨lg, bl, bh, fp, h1, h2, h3, h4⟩ := h
  exact ⟨lg, bl, bh, fp, h1.fr hf (fun k hk hm => (h2 k hk).2 (hS k hm)), h2, h3.trans hf (fun x hx => .inr (h0 x hx)), fun k hk => Nat.lt_of_lt_of_le (h4 k hk) hf.size⟩
/-- The disk alone: the pager is let go. -/
theorem PgX.disk (h : PgX w0 w d g s X) : DkX w0 w d s.D X := by
  obtain ⟨lg, bl, bh, fp, h1, h2, h3, h4⟩ := h
  exact ⟨fp, h1.jn.disk, fun k hk => h2 k (by simp [pfp, hk]), h3, h4⟩
theorem open_Y {n log : Nat} {D : DM} {H : PgM} (h : DkX w0 w d D X) (hdead : D.dead = false) (hpend : D.P = []) (h1 : 1 ≤ n) (h2 : n ≤ 4096) (h3 : 1 ≤ log) (hfit : log + 8 * n ≤ D.S.length) (hnew : (newestOf (D.S.take log)).1 < 4294967295) (ht : takeAll n ((recordsOf log none (D.S.take log)).map (·.2)) [] = some H) :
    Calls Try.prog 11 #[.pointer (some ⟨d, 0, none⟩), .int .i64 (n : Int), .int .i64 (log : Int)] w fun e w' => ∃ g, e = .returned (.tuple #[.pointer (some ⟨g, 0, none⟩), .int .i64 0]) ∧ PgX w0 w' d g (openP n log D H) X ∧ Kp X w w' := by
  obtain ⟨fp, g1, g2, g3, g4⟩ := h
  refine (open_P g1 hdead hpend h1 h2 h3 hfit hnew ht).mono ?_
  rintro e w' ⟨g, lg, bl, bh, fp', he, hp, hf, hn, k1, k2, k3, k4⟩
  have hz := g3.size
  have hz' := hf.size
  have new : ∀ k, w.heap.size ≤ k → w0.heap.size ≤ k ∧ ¬ X k := fun k hk => ⟨by omega, fun hx => by have := g4 k hx; omega⟩
  refine ⟨g, he, ⟨lg, bl, bh, fp', hp, fun k hk => ?_, g3.trans hf (fun x hx => .inr (g2 x hx).1), fun k hk => Nat.lt_of_lt_of_le (g4 k hk) hz'⟩, fp, hf, fun x hx => (g2 x hx).2⟩
  simp only [pfp, List.mem_cons] at hk
  rcases hk with rfl | rfl | rfl | rfl | hk
  · exact new _ k1
  · exact new _ k2
  · exact new _ k3
  · exact new _ k4
  · rcases hn k hk with h | h
    · exact g2 k h
    · exact new k h
theorem write_Y (h : PgX w0 w d g s X) (hbr : s.br = false) (k : Nat) (hk : k < s.n) (v : Value) (b : List UInt8) (gb : Nat) (hv : BytesAt w v b gb) (hb : b.length ≤ 512) :
    Calls Try.prog 14 #[.pointer (some ⟨g, 0, none⟩), .int .i64 (k : Int), v] w fun e w' => e = .returned (.int .i64 0) ∧ PgX w0 w' d g (s.write k b) X ∧ Kp X w w' := by
  obtain ⟨lg, bl, bh, fp, h1, h2, h3, h4⟩ := h
  exact (write_P h1 hbr k hk v b gb hv hb).mono fun e w' ⟨he, hs⟩ => ⟨he, PgX.step h2 h3 h4 hs⟩
theorem commit_Y (h : PgX w0 w d g s X) (hdone : s.D.done + 400000 < 1099511627776) :
    Calls Try.prog 16 #[.pointer (some ⟨g, 0, none⟩)] w fun e w' => e = .returned (.int .i64 s.commit.2) ∧ PgX w0 w' d g s.commit.1 X ∧ Kp X w w' := by
  obtain ⟨lg, bl, bh, fp, h1, h2, h3, h4⟩ := h
  exact (commit_P h1 hdone).mono fun e w' ⟨he, hs⟩ => ⟨he, PgX.step h2 h3 h4 hs⟩
theorem check_Y (h : PgX w0 w d g s X) (hdone : s.D.done + 200000 < 1099511627776) :
    Calls Try.prog 19 #[.pointer (some ⟨g, 0, none⟩)] w fun e w' => e = .returned (.int .i64 s.check.2) ∧ PgX w0 w' d g s.check.1 X ∧ Kp X w w' := by
  obtain ⟨lg, bl, bh, fp, h1, h2, h3, h4⟩ := h
  exact (check_P h1 hdone).mono fun e w' ⟨he, hs⟩ => ⟨he, PgX.step h2 h3 h4 hs⟩
theorem rollback_Y (h : PgX w0 w d g s X) :
    Calls Try.prog 20 #[.pointer (some ⟨g, 0, none⟩)] w fun e w' => e = .returned (.tuple #[]) ∧ PgX w0 w' d g { s with late := [] } X ∧ Kp X w w' := by
  obtain ⟨lg, bl, bh, fp, h1, h2, h3, h4⟩ := h
  exact (rollback_P h1).mono fun e w' ⟨he, hs⟩ => ⟨he, PgX.step h2 h3 h4 hs⟩
theorem dirty_Y (h : PgX w0 w d g s X) : Calls Try.prog 22 #[.pointer (some ⟨g, 0, none⟩)] w fun e w' => e = .returned (.int .i64 (s.late.length : Int)) ∧ w = w' := by
  obtain ⟨lg, bl, bh, fp, h1, _⟩ := h; exact dirty_P h1
theorem read_Y (h : PgX w0 w d g s X) (hbr : s.br = false) (hc : Calm s) (k : Nat) (hk : k < s.n) : Calls Try.prog 23 #[.pointer (some ⟨g, 0, none⟩), .int .i64 (k : Int)] w (PgAns w (s.page k)) := by
  obtain ⟨lg, bl, bh, fp, h1, _⟩ := h; exact read_P h1 hbr hc k hk
theorem limit_Y (h : PgX w0 w d g s X) (k : Int) (hk : k ≤ 9223372036854775807) :
    Calls Try.prog 12 #[.pointer (some ⟨d, 0, none⟩), .int .i64 k] w fun e w' => e = .returned (.tuple #[]) ∧ PgX w0 w' d g { s with D := s.D.limited k } X ∧ Kp X w w' := by
  obtain ⟨lg, bl, bh, fp, h1, h2, h3, h4⟩ := h
  exact (limit_at h1.jn.disk k hk).mono fun e w' ⟨he, hs⟩ => ⟨he, PgX.step h2 h3 h4 (h1.disk_ hs rfl)⟩
end
/-- On a disk without a limit, and with room in the log, Commit does. -/
theorem PInv.free {c : Nat} {s : PS} {C : Nat → List UInt8} (h : PInv c s C) (hc : c + 4 < 4294967296) (hl : s.D.limit = -1) (hroom : 514 * s.late.length + 48 ≤ 48 * s.l.n) (hlog : 2 ≤ s.l.n) :
    s.commit.2 = 0 ∧ PInv (c + 3) s.commit.1 (over C s.late) ∧ s.commit.1.late = [] ∧ s.commit.1.n = s.n ∧ s.commit.1.l.n = s.l.n ∧ s.commit.1.D.limit = -1 := by
  have h1 := h.late.few
  have h2 := recP_len h.late.mem
  have h3 := h.fit
  have h4 := h.ok.most
  rcases h.committed hc with ⟨a1, a2, a3, a4, a5, a6⟩ | ⟨_, _, _, _, _, _, a7⟩ | ⟨_, _, a3, _⟩
  · exact ⟨a1, a2, a3, a4, a5, a6 hl⟩
  · unfold needOf at a7
    split at a7 <;> omega
  · exact absurd hl a3

end Go.Proofs.Ytidpleejgalljaa

namespace Go.Proofs.Ytidpleejgalljaa
open Go.RowKit

theorem pad_len1 (b : List UInt8) (h : b.length ≤ 512) : (pad512 b).length = 512 := pad512_len h
theorem over_nil (C : Nat → List UInt8) (k : Nat) : over C [] k = C k := rfl
set_option maxRecDepth 100000 in
set_option maxHeartbeats 2000000 in
theorem awake08 (w : World) : Calls Try.prog 8 #[] w fun e w' => e = .returned (.bool true) ∧ Fr [] w w' := by
  have kc := fun (w : World) (C : Array Value) (n c : Nat) => Lib.run_convert_bytes_const (P := Try.prog) w 35 5 C n c Try.underlying35 Try.underlying5
  obtain ⟨H1, ht1, hi1, hn1⟩ := (PDisk.new (n := 4) (log := 30) (N := 100) (by omega) (by omega) (by omega) (by omega) (by omega)).open_ (by omega)
  go_enter Try.func8, Try.ntmps8
  go_wp2_with fail
  refine (new_X (X := fun _ => False) w w 100 (by omega) (by omega) (Fr.refl _ _) (by simp)).mono ?_
  rintro e w1 ⟨d, rfl, hd1, _⟩
  have HD1 := Lib.hid hd1; clear hd1
  have HT1 := Lib.hid ht1; have HI1 := Lib.hid hi1; clear ht1 hi1
  go_wp2_with fail
  refine (open_Y (n := 4) (log := 30) HD1.out rfl rfl (by omega) (by omega) (by omega) HI1.out.fit hn1 HT1.out).mono ?_
  rintro e w2 ⟨g, rfl, hp2, _⟩
  have HP2 := Lib.hid hp2
  clear hp2 hn1 HD1 HT1
  generalize hs1 : openP 4 30 (DM.new 100) H1 = s1 at *
  have l1 : s1.late = [] ∧ s1.n = 4 ∧ s1.l.n = 30 ∧ s1.D.limit = -1 ∧ s1.D.done = 0 ∧ s1.br = false := by rw [← hs1]; exact ⟨rfl, rfl, rfl, rfl, rfl, rfl⟩
  obtain ⟨l1a, l1b, l1c, l1d, l1e, l1f⟩ := l1
  clear hs1
  have hi2 : PInv 1 (s1.write 1 [97]) fun _ => List.replicate 512 0 := HI1.out.wrote (by omega) (pad512_len (by decide))
  obtain ⟨f1, f2, f3, f4, f5, f6⟩ := hi2.free (by omega) l1d (by show 514 * (putP s1.late 1 (pad512 [97])).length + 48 ≤ 48 * s1.l.n; rw [l1a, l1c]; decide) (by show 2 ≤ s1.l.n; omega)
  have c1 : ∀ k, over (fun _ => List.replicate 512 0) (s1.write 1 [97]).late k = if k = 1 then pad512 [97] else List.replicate 512 0 := fun k => by
    show (getP (putP s1.late 1 (pad512 [97])) k).getD _ = _
    rw [l1a, getP_put]
    by_cases hk : k = 1
    · rw [if_pos hk, if_pos hk]; rfl
    · rw [if_neg hk, if_neg hk]; rfl
  have hn3 : (s1.write 1 [97]).commit.1.n = 4 := by rw [f4]; exact l1b
  have hl3 : (s1.write 1 [97]).commit.1.l.n = 30 := by rw [f5]; exact l1c
  have F2 := Lib.hid (f2.congr (fun k _ => c1 k))
  clear hi2 c1 f2 f4 f5 HI1
  go_wp2_with fail
  refine (write_Y (HP2.out.stay ((Fr.refl [] w2).alloc (.cells #[.int .u8 97] 5 (1, 2)))) l1f 1 (by omega) _ [97] w2.heap.size (bytes_mark (w := w2) (C := [97]) (fz := (1, 2)) _ rfl) (by decide)).mono ?_
  rintro e w3 ⟨rfl, hp3, _⟩
  have HP3 := Lib.hid hp3
  clear hp3 HP2
  go_wp2_with fail
  refine (commit_Y HP3.out (by show s1.D.done + _ < _; omega)).mono ?_
  rintro e w4 ⟨rfl, hp4, _⟩
  rw [f1]
  generalize (s1.write 1 [97]).commit.1 = s4 at *
  have HP4 := Lib.hid hp4
  clear hp4 HP3 f1
  go_wp2_with fail
  refine (write_Y (HP4.out.stay ((Fr.refl [] w4).alloc (.cells #[.int .u8 98] 5 (1, 2)))) F2.out.br 2 (by omega) _ [98] w4.heap.size (bytes_mark (w := w4) (C := [98]) (fz := (1, 2)) _ rfl) (by decide)).mono ?_
  rintro e w5 ⟨rfl, hp5, _⟩
  have hi5 : PInv 4 (s4.write 2 [98]) _ := F2.out.wrote (by omega) (pad512_len (by decide))
  have hd5 := hi5.closed []
  have n5 : (s4.write 2 [98]).n = 4 ∧ (s4.write 2 [98]).l.n = 30 := ⟨hn3, hl3⟩
  rw [n5.1, n5.2] at hd5
  have HP5 := Lib.hid hp5
  generalize s4.write 2 [98] = s5 at *
  obtain ⟨H6, ht6, hi6, hn6⟩ := hd5.open_ (by omega)
  have HD5 := Lib.hid hd5; have HT6 := Lib.hid ht6; have HI6 := Lib.hid hi6; have HN6 := Lib.hid hn6
  clear hp5 hi5 hd5 ht6 hi6 hn6 HP4
  go_wp2_with fail
  refine (reopen_X HP5.out.disk _ [] w5.heap.size (BoolsAt.nil _ _) (.inr (Nat.le_refl _)) (by decide)).mono ?_
  rintro e w6 ⟨rfl, hd6, _⟩
  have HX6 := Lib.hid hd6
  clear hd6 HP5
  generalize s5.D.reopen [] = D6 at *
  go_wp2_with fail
  refine (open_Y (n := 4) (log := 30) HX6.out HD5.out.dead HD5.out.pend (by omega) (by omega) (by omega) HD5.out.fit HN6.out HT6.out).mono ?_
  rintro e w7 ⟨g7, rfl, hp7, _⟩
  have HP7 := Lib.hid hp7
  have hcal := HI6.out.calm
  have hp1 : (openP 4 30 D6 H6).page 1 = pad512 [97] := by rw [HI6.out.page_eq (k := 1) (by show 1 < 4; omega)]; rfl
  have hp2 : (openP 4 30 D6 H6).page 2 = zpage := by rw [HI6.out.page_eq (k := 2) (by show 2 < 4; omega)]; rfl
  have hr1 := read_Y HP7.out HI6.out.br hcal 1 (by show 1 < 4; omega)
  rw [hp1] at hr1
  have HR1 := Lib.hid hr1; have HP2' := Lib.hid hp2; have HCAL := Lib.hid hcal
  clear hp7 hr1 hcal hp1 hp2 HX6
  go_wp2_with fail
  refine HR1.out.mono ?_
  rintro e w8 ⟨vx, gx, rfl, hvx, hgx, hf8⟩
  obtain ⟨Ax, cx, ox, rfl, hcx, hbx⟩ := hvx
  obtain ⟨rfl, hbx'⟩ := hbx (by decide)
  have kx := hbx' 0 (.int .u8 97) rfl
  rw [Nat.add_zero] at kx
  have hr2 := read_Y (HP7.out.stay hf8) HI6.out.br HCAL.out 2 (by show 2 < 4; omega)
  rw [HP2'.out] at hr2
  have HR2 := Lib.hid hr2; have HF8 := Lib.hid (HP7.out.frame.trans hf8 (by simp))
  rw [show (pad512 [97]).length = 512 from pad512_len (by decide)] at hcx ⊢
  have hgxl := World.block_lt_of_cell? w8 _ kx
  clear hbx hbx' hr2 hf8 HP7 HR1
  go_wp2_with fail
  refine HR2.out.mono ?_
  rintro e w9 ⟨vy, gy, rfl, hvy, hgy, hf9⟩
  obtain ⟨Ay, cy, oy, rfl, hcy, hby⟩ := hvy
  obtain ⟨rfl, hby'⟩ := hby (by decide)
  have ky := hby' 0 (.int .u8 0) rfl
  rw [Nat.add_zero] at ky
  have kx9 : w9.cell? ⟨gx, ox, none⟩ = some (.int .u8 97) := by rw [hf9.cell (p := ⟨gx, ox, none⟩) hgxl (by simp)]; exact kx
  have HF9 := Lib.hid (HF8.out.trans hf9 (by simp))
  rw [zpage_len] at hcy ⊢
  clear hby hby' hf9 kx HF8 HR2
  go_wp2_with fail
  go_ret
  exact ⟨rfl, HF9.out⟩

end Go.Proofs.Ytidpleejgalljaa

namespace Go.Proofs.Ytidpleejgalljaa
open Go.RowKit

set_option maxRecDepth 100000 in
theorem write_Pnil (w : World) (k v : Value) : Calls Try.prog 14 #[.pointer none, k, v] w fun e w' => e = .returned (.int .i64 10) ∧ w = w' := by
  refine calls_post fun R HQ => ?_
  go_enter Try.func14, Try.ntmps14
  go_wp2_with fail
  refine (gone_Pnil w).mono ?_
  rintro e w' ⟨rfl, rfl⟩
  go_wp2_with fail
  exact HQ.out _ _ ⟨rfl, rfl⟩
set_option maxRecDepth 100000 in
theorem commit_Pnil (w : World) : Calls Try.prog 16 #[.pointer none] w fun e w' => e = .returned (.int .i64 10) ∧ w = w' := by
  refine calls_post fun R HQ => ?_
  go_enter Try.func16, Try.ntmps16
  go_wp2_with fail
  refine (gone_Pnil w).mono ?_
  rintro e w' ⟨rfl, rfl⟩
  go_wp2_with fail
  exact HQ.out _ _ ⟨rfl, rfl⟩
set_option maxRecDepth 100000 in
theorem check_Pnil (w : World) : Calls Try.prog 19 #[.pointer none] w fun e w' => e = .returned (.int .i64 10) ∧ w = w' := by
  refine calls_post fun R HQ => ?_
  go_enter Try.func19, Try.ntmps19
  go_wp2_with fail
  refine (gone_Pnil w).mono ?_
  rintro e w' ⟨rfl, rfl⟩
  go_wp2_with fail
  exact HQ.out _ _ ⟨rfl, rfl⟩
set_option maxRecDepth 100000 in
theorem read_Pnil (w : World) (k : Value) : Calls Try.prog 23 #[.pointer none, k] w fun e w' => e = .returned (.tuple #[.slice none 0 0, .int .i64 10]) ∧ w = w' := by
  refine calls_post fun R HQ => ?_
  go_enter Try.func23, Try.ntmps23
  go_wp2_with fail
  refine (gone_Pnil w).mono ?_
  rintro e w' ⟨rfl, rfl⟩
  go_wp2_with fail
  exact HQ.out _ _ ⟨rfl, rfl⟩

end Go.Proofs.Ytidpleejgalljaa
