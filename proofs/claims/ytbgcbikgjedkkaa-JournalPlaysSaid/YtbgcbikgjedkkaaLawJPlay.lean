/-
  The walk of JournalPlays: for all inputs it answers true and leaves old memory alone.
-/
import Derived.Test.YtbgcbikgjedkkaaKh
import Derived.Test.YtbgcbikgjedkkaaJs
import Derived.Test.YtbgcbikgjedkkaaBits
import Derived.Deep.CutBlock
namespace Go.Proofs.Ytbgcbikgjedkkaa
open Go.RowKit

theorem recs_len : ∀ (k : Nat) (last : Option Stamp) (L : List (List UInt8)), (recordsOf k last L).length ≤ k
  | 0, _, L => by simp [recordsOf]
  | k + 1, last, L => by
    cases hr : recordOf L with
    | none => rw [recs_none hr]; simp
    | some x =>
      obtain ⟨st, b⟩ := x
      cases hs : stops last st with
      | true => rw [recs_stop hr hs]; simp
      | false =>
        rw [recs_on hr hs]
        have := recs_len k (some st) (L.drop st.count)
        simp only [List.length_cons]
        omega
theorem openX_len (D : DM) (f n : Int) (hn : n ≤ 1000000) : (openX D f n).length ≤ 1000000 := by
  unfold openX
  split
  · rw [List.length_map]
    have := recs_len n.toNat none (D.part f.toNat n.toNat)
    show (recordsOf _ _ _).length ≤ _
    omega
  · simp
/-- Both sides as they stand. -/
def JPl (W : World) (d m N : Nat) (av xv ev bv yv fv : Value) (D : DM) (w : World) : Prop :=
  ∃ (E : Int) (X : List (List UInt8)) (fd fm : List Nat) (Z Zr : Nat → Prop) (vx vy : List Value),
    PSt W w d m N D D fd fm Z ∧ ev = .int .i64 E ∧ fv = .int .i64 E ∧ X.length ≤ 1000000 ∧ RowsX w xv X vx Zr ∧ RowsX w yv X vy Zr ∧ (∀ z, Zr z → Z z) ∧
    (E = 0 → ∃ (l : LG) (la lb : Nat), av = .pointer (some ⟨la, 0, none⟩) ∧ bv = .pointer (some ⟨lb, 0, none⟩) ∧ Blk w la 84 (l.cells d) ∧ Blk w lb 99 (l.rcells m) ∧ Z la ∧ Z lb ∧ ¬ Zr la ∧ ¬ Zr lb ∧ W.heap.size ≤ la ∧ W.heap.size ≤ lb ∧
      l.at_ ≤ l.n ∧ l.f + l.n ≤ N ∧ l.num < 4294967296 ∧ l.ses < 4294967296)
theorem JPl.fr {W w w' : World} {d m N : Nat} {av xv ev bv yv fv : Value} {D : DM} (h : JPl W d m N av xv ev bv yv fv D w) (hf : Fr [] w w') : JPl W d m N av xv ev bv yv fv D w' := by
  obtain ⟨E, X, fd, fm, Z, Zr, vx, vy, h1, h2, h3, h4, h5, h6, h7, h8⟩ := h
  refine ⟨E, X, fd, fm, Z, Zr, vx, vy, h1.stay hf, h2, h3, h4, h5.fr hf (by simp), h6.fr hf (by simp), h7, fun hE => ?_⟩
  obtain ⟨l, la, lb, a1, a2, a3, a4, a5⟩ := h8 hE
  exact ⟨l, la, lb, a1, a2, a3.fr hf (by simp), a4.fr hf (by simp), a5⟩
theorem rowsX_of {w : World} {v : Value} {bss : List (List UInt8)} {b0 : Nat} {Z : Nat → Prop} (h : RowsAt w v bss b0) (hZ : ∀ z, b0 ≤ z → z < w.heap.size → Z z) : ∃ vs, RowsX w v bss vs Z := by
  obtain ⟨vs, h⟩ := h
  exact ⟨vs, h.own, h.len, fun x hx => hZ x (h.ge x hx) (own_lt h.own x hx), fun j u bs h1 h2 => by obtain ⟨g, a, b, c, e⟩ := h.row j u bs h1 h2; exact ⟨g, a, hZ g b c, e⟩, h.one⟩
theorem jpl_open {W w w1 w2 : World} {d m N lg : Nat} {D : DM} {fd fm : List Nat} {Z0 : Nat → Prop} {f n : Int} {av xv bv yv : Value} (h : PSt W w d m N D D fd fm Z0) (hf0 : 0 ≤ f) (hn2 : n ≤ 1000000)
    (hf1 : Fr [] w w1) (hr1 : RowsAt w1 xv (openX D f n) (w.heap.size + 1)) (hb1 : openE D f n = 0 → av = .pointer (some ⟨w.heap.size, 0, none⟩) ∧ Blk w1 w.heap.size 84 ((openL D f.toNat n.toNat).cells d))
    (hf2 : Fr [] w1 w2) (hlg : w1.heap.size ≤ lg) (hr2 : RowsAt w2 yv (openX D f n) (lg + 1)) (hb2 : openE D f n = 0 → bv = .pointer (some ⟨lg, 0, none⟩) ∧ Blk w2 lg 99 ((openL D f.toNat n.toNat).rcells m)) :
    JPl W d m N av xv (.int .i64 (openE D f n)) bv yv (.int .i64 (openE D f n)) D w2 := by
  have hz1 := hf1.size
  have hz2 := hf2.size
  have hz0 := h.f.size
  obtain ⟨vx, hx⟩ := rowsX_of (Z := fun z => (w.heap.size ≤ z ∧ z < w2.heap.size) ∧ z ≠ w.heap.size ∧ z ≠ lg) hr1 (fun z a b => ⟨⟨by omega, by omega⟩, by omega, by omega⟩)
  obtain ⟨vy, hy⟩ := rowsX_of (Z := fun z => (w.heap.size ≤ z ∧ z < w2.heap.size) ∧ z ≠ w.heap.size ∧ z ≠ lg) hr2 (fun z a b => ⟨⟨by omega, by omega⟩, by omega, by omega⟩)
  refine ⟨openE D f n, openX D f n, fd, fm, fun z => w.heap.size ≤ z ∧ z < w2.heap.size, fun z => (w.heap.size ≤ z ∧ z < w2.heap.size) ∧ z ≠ w.heap.size ∧ z ≠ lg, vx, vy, (h.fr (hf1.trans hf2 (by simp))).weak (fun z hz => .inr hz), rfl, rfl, openX_len D f n hn2, hx.fr hf2 (by simp), hy, fun z hz => hz.1, fun hE => ?_⟩
  obtain ⟨a1, a2⟩ := hb1 hE
  obtain ⟨b1, b2⟩ := hb2 hE
  obtain ⟨e1, e2, e3, e4⟩ := openE_zero hf0 hE
  have hok := openL_ok (D := D) (f := f.toNat) (n := n.toNat) e3 (newestNe e4)
  have hl1 := a2.lt
  have hl2 := b2.lt
  refine ⟨_, _, _, a1, b1, a2.fr hf2 (by simp), b2, ⟨Nat.le_refl _, by omega⟩, ⟨by omega, hl2⟩, fun hz => hz.2.1 rfl, fun hz => hz.2.2 rfl, hz0, by omega, hok.at_, ?_, hok.num, hok.ses⟩
  show f.toNat + n.toNat ≤ N
  rw [← h.n1]
  exact e3
def opCells (o : OpB) (bA : Option Addr) (bc : Nat) (kA : Option Addr) (kc : Nat) : List Value := [.int .i64 o.what, .int .i64 o.n, .int .u8 (o.c.toNat : Int), .slice bA o.bs.length bc, .slice kA o.ks.length kc]
def opZero : List Value := [.int .i64 0, .int .i64 0, .int .u8 0, .slice none 0 0, .slice none 0 0]
theorem opCells_range {wr : World} {o : OpB} {bA kA : Option Addr} {bc kc g off : Nat} (c0 : wr.cell? ⟨g, off, none⟩ = some (.int .i64 o.what)) (c1 : wr.cell? ⟨g, off + 1, none⟩ = some (.int .i64 o.n)) (c2 : wr.cell? ⟨g, off + 2, none⟩ = some (.int .u8 (o.c.toNat : Int)))
    (c3 : wr.cell? ⟨g, off + 3, none⟩ = some (.slice bA o.bs.length bc)) (c4 : wr.cell? ⟨g, off + 4, none⟩ = some (.slice kA o.ks.length kc)) : wr.rangeAt g off (opCells o bA bc kA kc) := by
  intro j v hj
  match j, hj with
  | 0, hj => simp [opCells] at hj; subst hj; simpa using c0
  | 1, hj => simp [opCells] at hj; subst hj; exact c1
  | 2, hj => simp [opCells] at hj; subst hj; exact c2
  | 3, hj => simp [opCells] at hj; subst hj; exact c3
  | 4, hj => simp [opCells] at hj; subst hj; exact c4
  | j + 5, hj => simp [opCells] at hj
theorem DM.write_len7 (D : DM) (k : Int) (bs : List UInt8) : (D.write k bs).S.length = D.S.length ∧ (D.write k bs).done ≤ D.done + 1 := ⟨by rw [write_S], write_done D k bs⟩
theorem DM.sync_len7 (D : DM) : D.sync.S.length = D.S.length ∧ D.sync.done ≤ D.done + 1 := by
  unfold DM.sync
  split
  · exact ⟨rfl, by omega⟩
  · split
    · exact ⟨rfl, by show D.done ≤ _; omega⟩
    · exact ⟨layAll_len _ _, by show D.done + 1 ≤ _; omega⟩
theorem appendD_done (D : DM) (l : LG) (b : List UInt8) : (appendD D l b).done ≤ D.done + needOf b.length + 1 := by
  unfold appendD
  split
  · omega
  · split
    · omega
    · split
      · omega
      · have := layJ_done (sectorsOf l.ses l.num b) D (l.f + l.at_)
        rw [sectorsOf_len] at this
        exact this
theorem enter_dsync7 (vs : Array Value) (w : World) : (callFunc 17 vs).run Try.prog w = .ok (.enter 17 vs) w := by kernel_rfl
theorem enter_rsync7 (vs : Array Value) (w : World) : (callFunc 24 vs).run Try.prog w = .ok (.enter 24 vs) w := by kernel_rfl
theorem enter_bytes7 (vs : Array Value) (w : World) : (callFunc 33 vs).run Try.prog w = .ok (.enter 33 vs) w := by kernel_rfl
theorem enter_append7 (vs : Array Value) (w : World) : (callFunc 34 vs).run Try.prog w = .ok (.enter 34 vs) w := by kernel_rfl
theorem enter_rappend7 (vs : Array Value) (w : World) : (callFunc 42 vs).run Try.prog w = .ok (.enter 42 vs) w := by kernel_rfl
def JPlRel (W : World) (d m N L : Nat) (av xv ev bv yv fv i : Value) (wr : World) : Prop := ∃ (j : Nat) (D : DM), j ≤ L ∧ i = .int .i64 j ∧ D.done ≤ 10 * j ∧ JPl W d m N av xv ev bv yv fv D wr

set_option maxRecDepth 100000 in
set_option maxHeartbeats 8000000 in
theorem jplay_walk (W : World) (mv : Value) (l : List OpB) (n fr : Int) (hl : ArgOpsB W mv l) (hn1 : -9223372036854775808 ≤ n) (hn2 : n ≤ 9223372036854775807) :
    Calls Try.prog 12 #[.int .i64 n, .int .i64 fr, mv] W fun e w' => e = .returned (.bool true) ∧ Fr [] W w' := by
  obtain ⟨kn, hkn, en⟩ := and_mask n 31 (by omega)
  obtain ⟨p, hp, ep⟩ := and_mask fr 7 (by omega)
  have en' : bits .and .i64 n 31 = (kn : Int) := en
  have ep' : bits .and .i64 fr 7 = (p : Int) := ep
  obtain ⟨N, hN⟩ : ∃ N : Nat, 1 + (kn : Int) = (N : Int) := ⟨kn + 1, by omega⟩
  have hN1 : 1 ≤ N := by omega
  have hN2 : N ≤ 32 := by omega
  clear en ep
  obtain ⟨mA, mc, mg, mo, rfl, hm, hel⟩ := id hl
  unfold maxLen at hm
  have HL := Lib.hid hl; have HEL := Lib.hid hel
  clear hl hel
  go_enter Try.func12, Try.ntmps12
  go_wp2_with fail
  refine (awake07 W).mono ?_
  rintro e w1 ⟨rfl, hf1⟩
  have HF1 := Lib.hid hf1; clear hf1
  go_wp2_with fail
  refine (small7_any HL.out HF1.out).mono ?_
  rintro e w2 ⟨rfl, rfl⟩
  cases hsm : smallBB l with
  | false =>
    go_wp2
    go_ret
    exact ⟨rfl, HF1.out⟩
  | true =>
    have hl40 : l.length ≤ 40 := by
      have := hsm
      simp only [smallBB, Bool.and_eq_true, decide_eq_true_eq] at this
      exact this.1
    clear hsm
    go_wp2_with fail
    refine (new_ok N w1 hN1 (by omega)).mono ?_
    rintro e w2 ⟨d, fd, rfl, hd2, hf2, hn2'⟩
    have HD2 := Lib.hid hd2; have HF2 := Lib.hid hf2; have HN2 := Lib.hid hn2'; clear hd2 hf2 hn2'
    go_wp2_with fail
    refine (rnew_ok N w2 hN1 (by omega)).mono ?_
    rintro e w3 ⟨m, fm, rfl, hd3, hf3, hn3⟩
    have hP : PSt W w3 d m N (DM.new N) (DM.new N) fd fm (fun _ => False) :=
      ⟨DiskAt.fr HD2.out hf3 (by simp), hd3, fun x hx hm => by have h1 := HD2.out.lt x hx; have h2 := hn3 x hm; omega, fun x hx => Nat.le_trans HF1.out.size (HN2.out x hx), fun x hx => Nat.le_trans (HF1.out.trans HF2.out (by simp)).size (hn3 x hx), fun z hz => hz.elim, (HF1.out.trans HF2.out (by simp)).trans hf3 (by simp), by simp [DM.new], by simp [DM.new]⟩
    have HP := Lib.hid hP
    clear hP hd3 hf3 hn3 HD2 HF2 HN2 HF1
    go_wp2_with fail
    refine (open_any HP.out.d1 (p : Int) ((N : Int) - (p : Int)) (by omega) (by omega) (by omega)).mono ?_
    rintro e w4 ⟨av, xv, rfl, hf4, hr4, hb4⟩
    have HF4 := Lib.hid hf4; have HR4 := Lib.hid hr4; have HB4 := Lib.hid hb4
    clear hf4 hr4 hb4
    go_wp2_with fail
    refine (ropen_any (HP.out.stay HF4.out).d2 (p : Int) ((N : Int) - (p : Int)) (by omega) (by omega) (by omega)).mono ?_
    rintro e w5 ⟨bv, yv, lg, rfl, hf5, hlg, hr5, hb5⟩
    have hJ := jpl_open HP.out (by omega) (by omega) HF4.out HR4.out HB4.out hf5 hlg hr5 hb5
    have HJ := Lib.hid hJ
    clear hJ hf5 hlg hr5 hb5 HF4 HR4 HB4 HP
    generalize openE (DM.new N) (p : Int) ((N : Int) - (p : Int)) = E0 at *
    go_wp2_with fail
    go_loopw [14, 15, 16, 17, 18, 19, 20] (JPlRel W d m N l.length) (fun _ _ _ _ _ _ i _ => l.length - (intOf i).toNat)
    case atStart => exact ⟨0, _, Nat.zero_le _, rfl, Nat.zero_le _, HJ.out⟩
    case round =>
      obtain ⟨j, D, hj, rfl, hdn, E, X, fd', fm', Z, Zr, vx, vy, hP, rfl, rfl, hX, hx, hy, hZr, hlog⟩ := hrel
      have HP := Lib.hid hP; have HDN := Lib.hid hdn; have HXL := Lib.hid hX; have HX := Lib.hid hx; have HY := Lib.hid hy; have HZR := Lib.hid hZr; have HLOG := Lib.hid hlog
      clear hP hdn hX hx hy hZr hlog
      have hEE : (E != E) = false := by simp
      by_cases hjl : j < l.length
      · obtain ⟨o, ho⟩ : ∃ o, l[j]? = some o := ⟨_, List.getElem?_eq_getElem hjl⟩
        obtain ⟨rfl, hat⟩ := HEL.out j o ho
        obtain ⟨c0, c1, c2, c3, c4⟩ := hat.fr HP.out.f
        obtain ⟨bA, bc, hbv⟩ : ∃ A c, o.bv = .slice A o.bs.length c := by obtain ⟨_, _, ⟨A, c, _, h, _⟩, _⟩ := hat.b; exact ⟨A, c, h⟩
        obtain ⟨kA, kc, hkv⟩ : ∃ A c, o.kv = .slice A o.ks.length c := by obtain ⟨_, _, ⟨A, c, _, h, _⟩, _⟩ := hat.k; exact ⟨A, c, h⟩
        rw [hbv] at c3
        rw [hkv] at c4
        unfold B8 at c2
        have HAT := Lib.hid hat; have HBV := Lib.hid hbv; have HKV := Lib.hid hkv
        clear hat ho hbv hkv
        have mcnt := (show wr.cell? ⟨m, 4, none⟩ = some (.int .i64 (D.done : Int)) by obtain ⟨sv, pv, _, h⟩ := HP.out.d2; exact h.c4)
        have hzlt : Hid (∀ z, Zr z → z < wr.heap.size) := Lib.hid fun z hz => (HP.out.zd z (HZR.out z hz)).2.2
        have r1 : Hid (∀ nq, Calls Try.prog 38 #[u15, u18] (wr.drewN nq) fun e w'' => e = .returned (.bool true) ∧ ∃ m, w'' = wr.drewN m) := Lib.hid fun nq => Calls.quiet_of (by
          have h := same_any ((HX.out.in_ hzlt.out).rd.drewN nq) ((HY.out.in_ hzlt.out).rd.drewN nq) (by have := HXL.out; omega) (by have := HXL.out; omega)
          rw [decide_eq_true rfl] at h
          exact h)
        have r2 : Hid (∀ nq, Calls Try.prog 21 #[.pointer (some ⟨d, 0, none⟩)] (wr.drewN nq) fun e w'' => e = .returned (.int .i64 (D.done : Int)) ∧ ∃ m, w'' = wr.drewN m) := Lib.hid fun nq => Calls.quiet_of_same (by
          have h := writes_at (HP.out.d1.fr ((Fr.refl [] wr).drewN nq) (by simp))
          exact h.mono fun e w' ⟨h1, h2⟩ => ⟨h1, h2.symm⟩)
        have hDD : ((D.done : Int) != (D.done : Int)) = false := by simp
        go_wp2_with fail
        go_quiet (first | with_reducible exact r1.out _ | with_reducible exact r2.out _)
        go_upto_region 15 with fail
        refine wp_region_lit ?_
        refine wpList_plain rfl fun K hK => ?_
        refine wp_run_same (v := ?au2_0) ?yu2_0 (hK _ _ ?_)
        case yu2_0 => go_simp <;> with_reducible rfl
        clear hK K
        simp only [Act.put, List.setIfInBounds_toArray, List.set_cons_zero, List.set_cons_succ]
        refine wpList_plain rfl fun K hK => ?_
        refine wp_run_same (v := ?au3_1) ?yu3_1 (hK _ _ ?_)
        case yu3_1 => go_simp <;> with_reducible rfl
        clear hK K
        simp only [Act.put, List.setIfInBounds_toArray, List.set_cons_zero, List.set_cons_succ]
        refine wpList_plain rfl fun K hK => ?_
        refine wp_run_same (v := ?au4_2) ?yu4_2 (hK _ _ ?_)
        case yu4_2 => go_simp <;> with_reducible rfl
        clear hK K
        simp only [Act.put, List.setIfInBounds_toArray, List.set_cons_zero, List.set_cons_succ]
        refine wpList_plain rfl fun K hK => ?_
        refine wp_load_mid 70 (.tmp 89) rfl mg (mo + j * 5) rfl (opCells o bA bc kA kc) _ (opCells_range (wr := wr.drewN _) c0 c1 c2 c3 c4) Try.underlying70 rfl (by kernel_rfl) (hK _ _ ?_)
        simp only [Act.put, List.setIfInBounds_toArray, List.set_cons_zero, List.set_cons_succ]
        refine wpList_plain rfl fun K hK => ?_
        refine wp_alloc_blk 70 rfl (.agg opZero.toArray) opZero (by kernel_rfl) rfl fun w6 hB6 hF6 hz6 => hK _ _ ?_
        simp only [Act.put, List.setIfInBounds_toArray, List.set_cons_zero, List.set_cons_succ]
        refine wpList_plain rfl fun K hK => ?_
        refine wp_store_blk 70 (.tmp 21) (.tmp 90) rfl (opCells o bA bc kA kc) rfl rfl hB6 (by kernel_rfl) rfl (by intro u hu; simp only [opCells, List.mem_cons, List.not_mem_nil, or_false] at hu; rcases hu with rfl | rfl | rfl | rfl | rfl <;> rfl) fun w7 hB7 hF7 _ => hK _ _ ?_
        simp only [Act.put]
        refine wpList_nil ?_
        simp only [show ∀ n, (wr.drewN n).heap.size = wr.heap.size from fun _ => rfl]
        have hF7' : Fr [] wr w7 := (((Fr.refl [] wr).drewN _).trans hF6 (by simp)).trans hF7 (fun x hx => .inr (by simp at hx; rw [hx]; exact Nat.le_refl _))
        have hB7' : Blk w7 wr.heap.size 70 (opCells o bA bc kA kc) := hB7
        have hz7 := hB7'.lt
        have hP7 := (HP.out.fr hF7').weak (Y := fun z => Z z ∨ z = wr.heap.size) (fun z hz => by rcases hz with h | h; exact .inl h; exact .inr (by omega))
        have hx7 := HX.out.fr hF7' (by simp)
        have hy7 := HY.out.fr hF7' (by simp)
        have hzw : ∀ z, Z z → z ≠ wr.heap.size := fun z hz => by have := (HP.out.zd z hz).2.2; omega
        have hobW := HP.out.f.size
        have HZW := Lib.hid hzw; have HP7 := Lib.hid hP7; have HX7 := Lib.hid hx7; have HY7 := Lib.hid hy7; have HB7 := Lib.hid hB7'
        have HLOG7 : Hid (E = 0 → ∃ (l : LG) (la lb : Nat), u14 = .pointer (some ⟨la, 0, none⟩) ∧ u17 = .pointer (some ⟨lb, 0, none⟩) ∧ Blk w7 la 84 (l.cells d) ∧ Blk w7 lb 99 (l.rcells m) ∧ Z la ∧ Z lb ∧ ¬ Zr la ∧ ¬ Zr lb ∧ W.heap.size ≤ la ∧ W.heap.size ≤ lb ∧
            l.at_ ≤ l.n ∧ l.f + l.n ≤ N ∧ l.num < 4294967296 ∧ l.ses < 4294967296) := Lib.hid fun hE => by
          obtain ⟨l, la, lb, a1, a2, a3, a4, a5⟩ := HLOG.out hE
          exact ⟨l, la, lb, a1, a2, a3.fr hF7' (by simp), a4.fr hF7' (by simp), a5⟩
        clear hF7' hB7' hP7 hx7 hy7 hzw hB7 hF7 hB6 hF6 hz6 hK c0 c1 c2 c3 c4 mcnt r1 r2 hDD HP HX HY HLOG hzlt
        generalize wr.heap.size = ob at *
        have c0 := HB7.out.at_ (i := 0) rfl
        have c1 := HB7.out.at_ (i := 1) rfl
        have c2 := HB7.out.at_ (i := 2) rfl
        have c3 := HB7.out.at_ (i := 3) rfl
        have c4 := HB7.out.at_ (i := 4) rfl
        obtain ⟨kk, hkk, ek⟩ := and_mask o.n 255 (by omega)
        have ek' : bits .and .i64 o.n 255 = (kk : Int) := ek
        clear ek
        have hdn := HDN.out
        have hkl : o.ks.length ≤ 9223372036854775807 := by have := HAT.out.k.1; unfold maxLen at this; omega
        go_upto_block 2 with fail
        go_cut [14, 15, 16, 17, 18, 19] (fun av xv ev bv yv fv wc => ∃ D', D'.done ≤ 10 * (j + 1) ∧ JPl W d m N av xv ev bv yv fv D' wc)
        case first =>
          by_cases h4 : o.what = 4
          · have e4 : (o.what == 4) = true := beq_iff_eq.2 h4
            clear h4
            obtain ⟨g1, hg1, hg1b⟩ := HAT.out.k.here HP7.out.f
            rw [HKV.out] at hg1
            have hg1d : g1 ∉ fd' := fun hm => by have a := HP7.out.d1.lt g1 hm; have b := HP7.out.ld g1 hm; omega
            have hg1m : g1 ∉ fm' := fun hm => by have a := (locRef m D).lt HP7.out.d2 g1 hm; have b := HP7.out.lm g1 hm; omega
            have HG1 := Lib.hid hg1
            clear hg1
            go_wp2_with fail
            refine (reopen_at HP7.out.d1 _ o.ks g1 HG1.out hg1d hkl).mono ?_
            rintro e w8 ⟨rfl, hs8⟩
            have hf8 : Fr fd' w7 w8 := by obtain ⟨_, _, h, _⟩ := hs8; exact h
            obtain ⟨fd8, hP8, hk8⟩ := HP7.out.stepD hs8 (by show (layAll _ _).length = N; rw [layAll_len]; exact HP7.out.n1)
            have hb8 := hk8.blk HB7.out (.inr rfl)
            have c48 := hb8.at_ (i := 4) rfl
            have HP8 := Lib.hid hP8; have HG8 := Lib.hid (HG1.out.fr hf8 hg1d)
            clear hs8 hf8 hP8 hk8 hb8 c0 c1 c2 c3 c4
            go_wp2_with fail
            refine (ropen_at HP8.out.d2 _ o.ks g1 HG8.out hg1m hkl).mono ?_
            rintro e w9 ⟨rfl, hs9⟩
            obtain ⟨fm9, hP9, _⟩ := HP8.out.stepR hs9 (by show (layAll _ _).length = N; rw [layAll_len]; exact HP7.out.n2)
            have HP9 := Lib.hid hP9
            clear hs9 hP9 c48
            go_wp2_with fail
            refine (open_any HP9.out.d1 (p : Int) ((N : Int) - (p : Int)) (by omega) (by omega) (by omega)).mono ?_
            rintro e w10 ⟨av, xv, rfl, hf10, hr10, hb10⟩
            have HF10 := Lib.hid hf10; have HR10 := Lib.hid hr10; have HB10 := Lib.hid hb10
            clear hf10 hr10 hb10
            go_wp2_with fail
            refine (ropen_any (HP9.out.stay HF10.out).d2 (p : Int) ((N : Int) - (p : Int)) (by omega) (by omega) (by omega)).mono ?_
            rintro e w11 ⟨bv, yv, lg, rfl, hf11, hlg, hr11, hb11⟩
            have hJ := jpl_open HP9.out (by omega) (by omega) HF10.out HR10.out HB10.out hf11 hlg hr11 hb11
            have HJ := Lib.hid hJ
            clear hJ hf11 hlg hr11 hb11 HF10 HR10 HB10
            generalize openE (D.reopen o.ks) (p : Int) ((N : Int) - (p : Int)) = E9 at *
            go_wp2_with fail
            go_meet
            exact ⟨D.reopen o.ks, by show D.done ≤ _; omega, HJ.out⟩
          · have e4 : (o.what == 4) = false := beq_eq_false_iff_ne.2 h4
            clear h4
            by_cases h5 : o.what = 5
            · have e5 : (o.what == 5) = true := beq_iff_eq.2 h5
              clear h5
              obtain ⟨g1, hg1, hg1b⟩ := HAT.out.b.here HP7.out.f
              rw [HBV.out] at hg1
              have hg1d : g1 ≠ d := fun e => by have a := HP7.out.d1.lt d (DiskAt.mem HP7.out.d1); have b := HP7.out.ld d (DiskAt.mem HP7.out.d1); omega
              have hg1m : g1 ≠ m := fun e => by have a := (locRef m D).lt HP7.out.d2 m (RefAt.mem HP7.out.d2); have b := HP7.out.lm m (RefAt.mem HP7.out.d2); omega
              have hg1f : g1 ∉ fd' := fun hm => by have a := HP7.out.d1.lt g1 hm; have b := HP7.out.ld g1 hm; omega
              have HG1 := Lib.hid hg1
              have hwl := D.write_len7 o.n o.bs
              have HWL := Lib.hid hwl
              clear hg1 hwl
              go_wp2_with fail
              refine wp_region_K (fun W => W.cell? ⟨ob, 1, none⟩ = some (.int .i64 o.n) ∧ W.cell? ⟨ob, 3, none⟩ = some (.slice bA o.bs.length bc)) [0, 1, 2, 3, 4, 6, 7, 8, 9, 10, 12, 13, 14, 16, 18, 19] (by kernel_rfl) ?_
              refine wpAnyK_take (i := 0) (some 130) ?vq5_0 rfl rfl (by kernel_rfl) (fun _ _ _ h => h) ⟨c1, c3⟩ (.inl ⟨rfl, fun W hW => ?yq5_0⟩) ?_
              case yq5_0 => (obtain ⟨s1, s3⟩ := hW; go_simp) <;> with_reducible rfl
              simp only [Act.put, List.setIfInBounds_toArray, List.set_cons_zero, List.set_cons_succ]
              refine wpAnyK_take (i := 1) (some 131) ?vq5_1 rfl rfl (by kernel_rfl) (fun _ _ _ h => h) ⟨c1, c3⟩ (.inl ⟨rfl, fun W hW => ?yq5_1⟩) ?_
              case yq5_1 => (obtain ⟨s1, s3⟩ := hW; go_simp) <;> with_reducible rfl
              simp only [Act.put, List.setIfInBounds_toArray, List.set_cons_zero, List.set_cons_succ]
              refine wpAnyK_take (i := 2) (some 132) ?vq5_2 rfl rfl (by kernel_rfl) (fun _ _ _ h => h) ⟨c1, c3⟩ (.inl ⟨rfl, fun W hW => ?yq5_2⟩) ?_
              case yq5_2 => (obtain ⟨s1, s3⟩ := hW; go_simp) <;> with_reducible rfl
              simp only [Act.put, List.setIfInBounds_toArray, List.set_cons_zero, List.set_cons_succ]
              refine wpAnyK_take (i := 3) (some 133) ?vq5_3 rfl rfl (by kernel_rfl) (fun _ _ _ h => h) ⟨c1, c3⟩ (.inl ⟨rfl, fun W hW => ?yq5_3⟩) ?_
              case yq5_3 => (obtain ⟨s1, s3⟩ := hW; go_simp) <;> with_reducible rfl
              simp only [Act.put, List.setIfInBounds_toArray, List.set_cons_zero, List.set_cons_succ]
              refine wpAnyK_take (i := 4) (some 134) ?vq5_4 rfl rfl (by kernel_rfl) (fun _ _ _ h => h) ⟨c1, c3⟩ (.inl ⟨rfl, fun W hW => ?yq5_4⟩) ?_
              case yq5_4 => (obtain ⟨s1, s3⟩ := hW; go_simp) <;> with_reducible rfl
              simp only [Act.put, List.setIfInBounds_toArray, List.set_cons_zero, List.set_cons_succ]
              refine wpAnyK_take (i := 6) (some 136) ?vq5_6 rfl rfl (by kernel_rfl) (fun _ _ _ h => h) ⟨c1, c3⟩ (.inl ⟨rfl, fun W hW => ?yq5_6⟩) ?_
              case yq5_6 => (obtain ⟨s1, s3⟩ := hW; go_simp) <;> with_reducible rfl
              simp only [Act.put, List.setIfInBounds_toArray, List.set_cons_zero, List.set_cons_succ]
              refine wpAnyK_take (i := 7) (some 137) ?vq5_7 rfl rfl (by kernel_rfl) (fun _ _ _ h => h) ⟨c1, c3⟩ (.inl ⟨rfl, fun W hW => ?yq5_7⟩) ?_
              case yq5_7 => (obtain ⟨s1, s3⟩ := hW; go_simp) <;> with_reducible rfl
              simp only [Act.put, List.setIfInBounds_toArray, List.set_cons_zero, List.set_cons_succ]
              refine wpAnyK_take (i := 8) (some 138) ?vq5_8 rfl rfl (by kernel_rfl) (fun _ _ _ h => h) ⟨c1, c3⟩ (.inl ⟨rfl, fun W hW => ?yq5_8⟩) ?_
              case yq5_8 => (obtain ⟨s1, s3⟩ := hW; go_simp) <;> with_reducible rfl
              simp only [Act.put, List.setIfInBounds_toArray, List.set_cons_zero, List.set_cons_succ]
              refine wpAnyK_take (i := 9) (some 139) ?vq5_9 rfl rfl (by kernel_rfl) (fun _ _ _ h => h) ⟨c1, c3⟩ (.inl ⟨rfl, fun W hW => ?yq5_9⟩) ?_
              case yq5_9 => (obtain ⟨s1, s3⟩ := hW; go_simp) <;> with_reducible rfl
              simp only [Act.put, List.setIfInBounds_toArray, List.set_cons_zero, List.set_cons_succ]
              refine wpAnyK_take (i := 10) (some 140) ?vq5_10 rfl rfl (by kernel_rfl) (fun _ _ _ h => h) ⟨c1, c3⟩ (.inl ⟨rfl, fun W hW => ?yq5_10⟩) ?_
              case yq5_10 => (obtain ⟨s1, s3⟩ := hW; go_simp) <;> with_reducible rfl
              simp only [Act.put, List.setIfInBounds_toArray, List.set_cons_zero, List.set_cons_succ]
              refine wpAnyK_step (j := 5) (some 135) rfl rfl (by kernel_rfl) rfl fun K hK => ?_
              refine wp_call_f (l := [.tmp 130, .tmp 132, .tmp 134]) rfl [.pointer (some ⟨d, 0, none⟩), .int .i64 o.n, .slice bA o.bs.length bc] rfl (enter_dwrite7 _) ((write_at (HP7.out.stay ((Fr.refl [] w7).drew)).d1 o.n _ o.bs g1 (HG1.out.fr ((Fr.refl [] w7).drew) (by simp)) hg1d (by omega)).mono ?_)
              rintro e w8 ⟨rfl, hs8⟩
              have hf8 : Fr fd' w7.drew w8 := by obtain ⟨_, _, h, _⟩ := hs8; exact h
              obtain ⟨fd8, hP8, hk8⟩ := (HP7.out.stay ((Fr.refl [] w7).drew)).stepD hs8 (by rw [HWL.out.1]; exact HP7.out.n1)
              have hb8 := hk8.blk (HB7.out.drew) (.inr rfl)
              have hg8 := (HG1.out.fr ((Fr.refl [] w7).drew) (by simp)).fr hf8 hg1f
              refine ⟨_, rfl, hK _ _ (fun _ => ⟨hb8.at_ rfl, hb8.at_ rfl⟩) ?_⟩
              simp only [Act.put, List.setIfInBounds_toArray, List.set_cons_zero, List.set_cons_succ]
              refine wpAnyK_step (j := 11) (some 141) rfl rfl (by kernel_rfl) rfl fun K hK => ?_
              refine wp_call_f (l := [.tmp 136, .tmp 138, .tmp 140]) rfl [.pointer (some ⟨m, 0, none⟩), .int .i64 o.n, .slice bA o.bs.length bc] rfl (enter_rwrite7 _) ((rwrite_at hP8.d2 o.n _ o.bs g1 hg8 hg1m (by omega)).mono ?_)
              rintro e w9 ⟨rfl, hs9⟩
              obtain ⟨fm9, hP9, hk9⟩ := hP8.stepR hs9 (by rw [HWL.out.1]; exact HP7.out.n2)
              have hb9 := hk9.blk hb8 (.inr rfl)
              refine ⟨_, rfl, hK _ _ (fun _ => ⟨hb9.at_ rfl, hb9.at_ rfl⟩) ?_⟩
              simp only [Act.put, List.setIfInBounds_toArray, List.set_cons_zero, List.set_cons_succ]
              refine wpAnyK_take (i := 12) (some 142) ?vq5_12 rfl rfl (by kernel_rfl) (fun _ _ _ h => h) ⟨hb9.at_ rfl, hb9.at_ rfl⟩ (.inl ⟨rfl, fun W hW => ?yq5_12⟩) ?_
              case yq5_12 => (obtain ⟨s1, s3⟩ := hW; go_simp) <;> with_reducible rfl
              simp only [Act.put, List.setIfInBounds_toArray, List.set_cons_zero, List.set_cons_succ]
              refine wpAnyK_take (i := 13) (some 143) ?vq5_13 rfl rfl (by kernel_rfl) (fun _ _ _ h => h) ⟨hb9.at_ rfl, hb9.at_ rfl⟩ (.inl ⟨rfl, fun W hW => ?yq5_13⟩) ?_
              case yq5_13 => (obtain ⟨s1, s3⟩ := hW; go_simp) <;> with_reducible rfl
              simp only [Act.put, List.setIfInBounds_toArray, List.set_cons_zero, List.set_cons_succ]
              refine wpAnyK_take (i := 14) (some 144) ?vq5_14 rfl rfl (by kernel_rfl) (fun _ _ _ h => h) ⟨hb9.at_ rfl, hb9.at_ rfl⟩ (.inl ⟨rfl, fun W hW => ?yq5_14⟩) ?_
              case yq5_14 => (obtain ⟨s1, s3⟩ := hW; go_simp) <;> with_reducible rfl
              simp only [Act.put, List.setIfInBounds_toArray, List.set_cons_zero, List.set_cons_succ]
              refine wpAnyK_take (i := 16) (some 146) ?vq5_16 rfl rfl (by kernel_rfl) (fun _ _ _ h => h) ⟨hb9.at_ rfl, hb9.at_ rfl⟩ (.inl ⟨rfl, fun W hW => ?yq5_16⟩) ?_
              case yq5_16 => (obtain ⟨s1, s3⟩ := hW; go_simp) <;> with_reducible rfl
              simp only [Act.put, List.setIfInBounds_toArray, List.set_cons_zero, List.set_cons_succ]
              refine wpAnyK_stepg (j := 15) (some 145) rfl rfl (by kernel_rfl) rfl fun K hK => ?_
              have hsl := (D.write o.n o.bs).sync_len7
              refine wp_call_f (l := [.tmp 144]) rfl [.pointer (some ⟨d, 0, none⟩)] rfl (enter_dsync7 _) ((sync_at hP9.d1 (by have := HWL.out.2; omega)).mono ?_)
              rintro e w10 ⟨rfl, hs10⟩
              obtain ⟨fd10, hP10, hk10⟩ := hP9.stepD hs10 (by rw [hsl.1, HWL.out.1]; exact HP7.out.n1)
              have hb10 := hk10.blk hb9 (.inr rfl)
              refine ⟨_, rfl, hK _ _ (fun _ => ⟨hb10.at_ rfl, hb10.at_ rfl⟩) ?_⟩
              simp only [Act.put, List.setIfInBounds_toArray, List.set_cons_zero, List.set_cons_succ]
              refine wpAnyK_stepg (j := 17) (some 147) rfl rfl (by kernel_rfl) rfl fun K hK => ?_
              refine wp_call_f (l := [.tmp 146]) rfl [.pointer (some ⟨m, 0, none⟩)] rfl (enter_rsync7 _) ((rsync_at hP10.d2 (by have := HWL.out.2; omega)).mono ?_)
              rintro e w11 ⟨rfl, hs11⟩
              obtain ⟨fm11, hP11, hk11⟩ := hP10.stepR hs11 (by rw [hsl.1, HWL.out.1]; exact HP7.out.n2)
              have hb11 := hk11.blk hb10 (.inr rfl)
              refine ⟨_, rfl, hK _ _ (fun _ => ⟨hb11.at_ rfl, hb11.at_ rfl⟩) ?_⟩
              simp only [Act.put, List.setIfInBounds_toArray, List.set_cons_zero, List.set_cons_succ]
              refine wpAnyK_take (i := 18) (some 148) ?vq5_18 rfl rfl (by kernel_rfl) (fun _ _ _ h => h) ⟨hb11.at_ rfl, hb11.at_ rfl⟩ (.inl ⟨rfl, fun W hW => ?yq5_18⟩) ?_
              case yq5_18 => (obtain ⟨s1, s3⟩ := hW; go_simp) <;> with_reducible rfl
              simp only [Act.put, List.setIfInBounds_toArray, List.set_cons_zero, List.set_cons_succ]
              refine wpAnyK_take (i := 19) (some 149) ?vq5_19 rfl rfl (by kernel_rfl) (fun _ _ _ h => h) ⟨hb11.at_ rfl, hb11.at_ rfl⟩ (.inl ⟨rfl, fun W hW => ?yq5_19⟩) ?_
              case yq5_19 => (obtain ⟨s1, s3⟩ := hW; go_simp) <;> with_reducible rfl
              simp only [Act.put, List.setIfInBounds_toArray, List.set_cons_zero, List.set_cons_succ]
              refine wpAnyK_done (by kernel_rfl) ?_ _
              have hdone : (D.write o.n o.bs).sync.done ≤ 10 * (j + 1) := by have a := HWL.out.2; have b := hsl.2; omega
              have hK4 : ∀ {v : Value} {bss : List (List UInt8)} {vs : List Value}, RowsX w7 v bss vs Zr → RowsX w11 v bss vs Zr := fun h => ((((h.fr ((Fr.refl [] w7).drew) (by simp)).kp hk8 (fun z hz => .inl (HZR.out z hz))).kp hk9 (fun z hz => .inl (HZR.out z hz))).kp hk10 (fun z hz => .inl (HZR.out z hz))).kp hk11 (fun z hz => .inl (HZR.out z hz))
              have hB4 : ∀ {g : Nat} {t : TypeId} {cs : List Value}, Blk w7 g t cs → Z g → Blk w11 g t cs := fun h hz => hk11.blk (hk10.blk (hk9.blk (hk8.blk h.drew (.inl hz)) (.inl hz)) (.inl hz)) (.inl hz)
              have hfin : ∃ D', D'.done ≤ 10 * (j + 1) ∧ JPl W d m N u14 u15 (.int .i64 E) u17 u18 (.int .i64 E) D' w11 := by
                refine ⟨_, hdone, E, X, _, _, _, Zr, vx, vy, hP11, rfl, rfl, HXL.out, hK4 HX7.out, hK4 HY7.out, fun z hz => .inl (HZR.out z hz), fun hE => ?_⟩
                obtain ⟨l, la, lb, a1, a2, a3, a4, a5, a6, a7⟩ := HLOG7.out hE
                exact ⟨l, la, lb, a1, a2, hB4 a3 a5, hB4 a4 a6, .inl a5, .inl a6, a7⟩
              have HFIN := Lib.hid hfin
              clear hfin hB4 hK4 hdone hP8 hP9 hP10 hP11 hb8 hb9 hb10 hb11 hk8 hk9 hk10 hk11 hs8 hs9 hs10 hs11 hf8 hg8 hsl hK c0 c1 c2 c3 c4
              go_wp2_with fail
              go_meet
              exact HFIN.out
            · have e5 : (o.what == 5) = false := beq_eq_false_iff_ne.2 h5
              clear h5
              by_cases h3 : o.what = 3
              · have e3 : (o.what == 3) = true := beq_iff_eq.2 h3
                clear h3
                obtain ⟨q, hq, eq⟩ := and_mask (kk : Int) 15 (by omega)
                have eq' : bits .and .i64 (kk : Int) 15 = (q : Int) := eq
                clear eq
                go_wp2_with fail
                refine (limit_at HP7.out.d1 (q : Int) (by omega)).mono ?_
                rintro e w8 ⟨rfl, hs8⟩
                obtain ⟨fd8, hP8, hk8⟩ := HP7.out.stepD hs8 HP7.out.n1
                have HP8 := Lib.hid hP8; have HK8 := Lib.hid hk8
                clear hs8 hP8 hk8 c0 c1 c2 c3 c4
                go_wp2_with fail
                refine (rlimit_at HP8.out.d2 (q : Int) (by omega)).mono ?_
                rintro e w9 ⟨rfl, hs9⟩
                obtain ⟨fm9, hP9, hk9⟩ := HP8.out.stepR hs9 HP7.out.n2
                have HP9 := Lib.hid hP9; have HK9 := Lib.hid hk9
                clear hs9 hP9 hk9
                go_wp2_with fail
                go_meet
                refine ⟨D.limited q, by show D.done ≤ _; omega, E, X, _, _, _, Zr, vx, vy, HP9.out, rfl, rfl, HXL.out, (HX7.out.kp HK8.out (fun z hz => .inl (HZR.out z hz))).kp HK9.out (fun z hz => .inl (HZR.out z hz)), (HY7.out.kp HK8.out (fun z hz => .inl (HZR.out z hz))).kp HK9.out (fun z hz => .inl (HZR.out z hz)), fun z hz => .inl (HZR.out z hz), fun hE => ?_⟩
                obtain ⟨l, la, lb, a1, a2, a3, a4, a5, a6, a7⟩ := HLOG7.out hE
                exact ⟨l, la, lb, a1, a2, HK9.out.blk (HK8.out.blk a3 (.inl a5)) (.inl a5), HK9.out.blk (HK8.out.blk a4 (.inl a6)) (.inl a6), .inl a5, .inl a6, a7⟩
              · have e3 : (o.what == 3) = false := beq_eq_false_iff_ne.2 h3
                clear h3
                by_cases hE : E = 0
                · obtain ⟨lg, la, lb, a1, a2, a3, a4, a5, a6, a7, a8, a9, a10, a11, a12, a13, a14⟩ := HLOG7.out hE
                  subst hE a1 a2
                  have HA3 := Lib.hid a3; have HA4 := Lib.hid a4; have HA5 := Lib.hid a5; have HA6 := Lib.hid a6; have HA7 := Lib.hid a7; have HA8 := Lib.hid a8
                  clear a3 a4 a5 a6 a7 a8 HLOG7
                  by_cases h2 : o.what = 2
                  · have e2 : (o.what == 2) = true := beq_iff_eq.2 h2
                    clear h2
                    go_wp2_with fail
                    refine (reset_at HA3.out).mono ?_
                    rintro e w8 ⟨rfl, hb8, hf8⟩
                    obtain ⟨hP8, hk8⟩ := HP7.out.write hf8 (.inl HA5.out) a9
                    have hb8' : Blk w8 la 84 (({ lg with at_ := 0 } : LG).cells d) := hb8
                    have hne : lb ≠ la := fun e => (HA4.out.ne_ HA3.out (by decide)) e
                    have hl8 := hk8.blk HA4.out ⟨.inl HA6.out, hne⟩
                    have HP8 := Lib.hid hP8; have HK8 := Lib.hid hk8; have HB8 := Lib.hid hb8'; have HL8 := Lib.hid hl8
                    clear hP8 hk8 hb8 hb8' hl8 hf8 c0 c1 c2 c3 c4
                    go_wp2_with fail
                    refine (rreset_at HL8.out).mono ?_
                    rintro e w9 ⟨rfl, hb9, hf9⟩
                    obtain ⟨hP9, hk9⟩ := HP8.out.write hf9 (.inl HA6.out) a10
                    have hb9' : Blk w9 lb 99 (({ lg with at_ := 0 } : LG).rcells m) := hb9
                    have hl9 := hk9.blk HB8.out ⟨.inl HA5.out, fun e => hne e.symm⟩
                    have HP9 := Lib.hid hP9; have HK9 := Lib.hid hk9; have HB9 := Lib.hid hb9'; have HL9 := Lib.hid hl9
                    clear hP9 hk9 hb9 hb9' hl9 hf9
                    go_wp2_with fail
                    go_meet
                    have hk2 : ∀ {v : Value} {bss : List (List UInt8)} {vs : List Value}, RowsX w7 v bss vs Zr → RowsX w9 v bss vs Zr := fun h => (h.kp HK8.out (fun z hz => ⟨.inl (HZR.out z hz), fun e => HA7.out (e ▸ hz)⟩)).kp HK9.out (fun z hz => ⟨.inl (HZR.out z hz), fun e => HA8.out (e ▸ hz)⟩)
                    exact ⟨D, by omega, 0, X, _, _, _, Zr, vx, vy, HP9.out, rfl, rfl, HXL.out, hk2 HX7.out, hk2 HY7.out, fun z hz => .inl (HZR.out z hz), fun _ => ⟨{ lg with at_ := 0 }, la, lb, rfl, rfl, HL9.out, HB9.out, .inl HA5.out, .inl HA6.out, HA7.out, HA8.out, a9, a10, Nat.zero_le _, a12, a13, a14⟩⟩
                  · have e2 : (o.what == 2) = false := beq_eq_false_iff_ne.2 h2
                    clear h2
                    by_cases h01 : o.what = 0 ∨ o.what = 1
                    · have hc01 : (o.what == 0) = true ∨ ((o.what == 0) = false ∧ (o.what == 1) = true) := by
                        rcases h01 with h | h
                        · left; exact beq_iff_eq.2 h
                        · right; exact ⟨beq_eq_false_iff_ne.2 (by omega), beq_iff_eq.2 h⟩
                      clear h01
                      rcases hc01 with e0 | ⟨e0, e1⟩
                      · skip
                        have hN' := HP7.out.n1
                        have hneed : needOf kk ≤ 6 := need_le (by omega) (by omega)
                        go_wp2_with fail
                        refine wp_region_K (fun W => W.cell? ⟨ob, 2, none⟩ = some (.int .u8 (o.c.toNat : Int))) [0, 1, 2, 3, 6, 7, 8, 9, 12] (by kernel_rfl) ?_
                        refine wpAnyK_take (i := 0) (some 182) ?vq6_0 rfl rfl (by kernel_rfl) (fun _ _ _ h => h) c2 (.inl ⟨rfl, fun W hW => ?yq6_0⟩) ?_
                        case yq6_0 => go_simp <;> with_reducible rfl
                        simp only [Act.put, List.setIfInBounds_toArray, List.set_cons_zero, List.set_cons_succ]
                        refine wpAnyK_take (i := 1) (some 183) ?vq6_1 rfl rfl (by kernel_rfl) (fun _ _ _ h => h) c2 (.inl ⟨rfl, fun W hW => ?yq6_1⟩) ?_
                        case yq6_1 => go_simp <;> with_reducible rfl
                        simp only [Act.put, List.setIfInBounds_toArray, List.set_cons_zero, List.set_cons_succ]
                        refine wpAnyK_take (i := 2) (some 184) ?vq6_2 rfl rfl (by kernel_rfl) (fun _ _ _ h => h) c2 (.inl ⟨rfl, fun W hW => ?yq6_2⟩) ?_
                        case yq6_2 => go_simp <;> with_reducible rfl
                        simp only [Act.put, List.setIfInBounds_toArray, List.set_cons_zero, List.set_cons_succ]
                        refine wpAnyK_take (i := 3) (some 185) ?vq6_3 rfl rfl (by kernel_rfl) (fun _ _ _ h => h) c2 (.inl ⟨rfl, fun W hW => ?yq6_3⟩) ?_
                        case yq6_3 => go_simp <;> with_reducible rfl
                        simp only [Act.put, List.setIfInBounds_toArray, List.set_cons_zero, List.set_cons_succ]
                        refine wpAnyK_take (i := 6) (some 188) ?vq6_6 rfl rfl (by kernel_rfl) (fun _ _ _ h => h) c2 (.inl ⟨rfl, fun W hW => ?yq6_6⟩) ?_
                        case yq6_6 => go_simp <;> with_reducible rfl
                        simp only [Act.put, List.setIfInBounds_toArray, List.set_cons_zero, List.set_cons_succ]
                        refine wpAnyK_take (i := 7) (some 189) ?vq6_7 rfl rfl (by kernel_rfl) (fun _ _ _ h => h) c2 (.inl ⟨rfl, fun W hW => ?yq6_7⟩) ?_
                        case yq6_7 => go_simp <;> with_reducible rfl
                        simp only [Act.put, List.setIfInBounds_toArray, List.set_cons_zero, List.set_cons_succ]
                        refine wpAnyK_take (i := 8) (some 190) ?vq6_8 rfl rfl (by kernel_rfl) (fun _ _ _ h => h) c2 (.inl ⟨rfl, fun W hW => ?yq6_8⟩) ?_
                        case yq6_8 => go_simp <;> with_reducible rfl
                        simp only [Act.put, List.setIfInBounds_toArray, List.set_cons_zero, List.set_cons_succ]
                        refine wpAnyK_take (i := 9) (some 191) ?vq6_9 rfl rfl (by kernel_rfl) (fun _ _ _ h => h) c2 (.inl ⟨rfl, fun W hW => ?yq6_9⟩) ?_
                        case yq6_9 => go_simp <;> with_reducible rfl
                        simp only [Act.put, List.setIfInBounds_toArray, List.set_cons_zero, List.set_cons_succ]
                        refine wpAnyK_step (j := 4) (some 186) rfl rfl (by kernel_rfl) rfl fun K hK => ?_
                        refine wp_call_f (l := [.tmp 183, .tmp 185]) rfl [.int .i64 (kk : Int), B8 o.c] rfl (enter_bytes7 _) ((bytes07 w7.drew kk (by omega) o.c).mono ?_)
                        rintro e w8 ⟨rfl, hb8, hf8⟩
                        have hf8' : Fr [] w7 w8 := (Fr.refl [] w7).drew.trans hf8 (by simp)
                        have hz8 := hb8.lt
                        have hB8 := HB7.out.fr hf8' (by simp)
                        refine ⟨_, rfl, hK _ _ (fun _ => hB8.at_ rfl) ?_⟩
                        simp only [Act.put, List.setIfInBounds_toArray, List.set_cons_zero, List.set_cons_succ]
                        refine wpAnyK_step (j := 5) (some 187) rfl rfl (by kernel_rfl) rfl fun K hK => ?_
                        have hP8 := HP7.out.fr hf8'
                        have hv8 : BytesAt w8 (.slice (some ⟨w7.heap.size, 0, none⟩) kk kk) (runB kk o.c) w7.heap.size := by
                          have := BytesAt.of_blk hb8 kk (by rw [runB_len]; exact Nat.le_refl _)
                          rw [runB_len] at this
                          exact this
                        have hzv := hP8.zd w7.heap.size (.inr ⟨Nat.le_refl _, hz8⟩)
                        have hza := hP8.zd la (.inl (.inl HA5.out))
                        refine wp_call_f (l := [.tmp 182, .tmp 186]) rfl [.pointer (some ⟨la, 0, none⟩), .slice (some ⟨w7.heap.size, 0, none⟩) kk kk] rfl (enter_append7 _) ((append_at (lg := la) (gb := w7.heap.size) ⟨HA3.out.fr hf8' (by simp), hP8.d1, hza.1, a11, by rw [hN']; exact a12, a13, a14⟩ hv8 hzv.1 hzv.2.2 (by rw [runB_len]; omega) (by omega)).mono ?_)
                        rintro e w9 ⟨rfl, hs9⟩
                        obtain ⟨fd9, hP9, hk9, hl9⟩ := hP8.stepJ (.inl (.inl HA5.out)) a9 hs9 (by rw [appendS_len]; exact hN')
                        have hne : lb ≠ la := fun e => (HA4.out.ne_ HA3.out (by decide)) e
                        have hB9 := hk9.blk hB8 ⟨.inl (.inr rfl), fun e => HZW.out la HA5.out e.symm⟩
                        have hm9 := hk9.blk (HA4.out.fr hf8' (by simp)) ⟨.inl (.inl HA6.out), hne⟩
                        have hbnd : (appendL D lg (runB kk o.c)).at_ ≤ (appendL D lg (runB kk o.c)).n ∧ (appendL D lg (runB kk o.c)).f + (appendL D lg (runB kk o.c)).n ≤ N ∧ (appendL D lg (runB kk o.c)).num < 4294967296 ∧ (appendL D lg (runB kk o.c)).ses < 4294967296 := by
                          obtain ⟨_, hj, _, _⟩ := hs9
                          have h2 := hj.fit
                          rw [appendS_len, hN'] at h2
                          exact ⟨hj.at_, h2, hj.num, hj.ses⟩
                        refine ⟨_, rfl, hK _ _ (fun _ => hB9.at_ rfl) ?_⟩
                        simp only [Act.put, List.setIfInBounds_toArray, List.set_cons_zero, List.set_cons_succ]
                        refine wpAnyK_step (j := 10) (some 192) rfl rfl (by kernel_rfl) rfl fun K hK => ?_
                        refine wp_call_f (l := [.tmp 189, .tmp 191]) rfl [.int .i64 (kk : Int), B8 o.c] rfl (enter_bytes7 _) ((bytes07 w9 kk (by omega) o.c).mono ?_)
                        rintro e w10 ⟨rfl, hb10, hf10⟩
                        have hz10 := hb10.lt
                        have hB10 := hB9.fr hf10 (by simp)
                        refine ⟨_, rfl, hK _ _ (fun _ => hB10.at_ rfl) ?_⟩
                        simp only [Act.put, List.setIfInBounds_toArray, List.set_cons_zero, List.set_cons_succ]
                        refine wpAnyK_step (j := 11) (some 193) rfl rfl (by kernel_rfl) rfl fun K hK => ?_
                        have hP10 := hP9.fr hf10
                        have hv10 : BytesAt w10 (.slice (some ⟨w9.heap.size, 0, none⟩) kk kk) (runB kk o.c) w9.heap.size := by
                          have := BytesAt.of_blk hb10 kk (by rw [runB_len]; exact Nat.le_refl _)
                          rw [runB_len] at this
                          exact this
                        have hzv2 := hP10.zd w9.heap.size (.inr ⟨Nat.le_refl _, hz10⟩)
                        have hzb := hP10.zd lb (.inl (.inl (.inl HA6.out)))
                        refine wp_call_f (l := [.tmp 188, .tmp 192]) rfl [.pointer (some ⟨lb, 0, none⟩), .slice (some ⟨w9.heap.size, 0, none⟩) kk kk] rfl (enter_rappend7 _) ((rappend_at (lg := lb) (gb := w9.heap.size) ⟨hm9.fr hf10 (by simp), hP10.d2, hzb.2.1, a11, by rw [HP7.out.n2]; exact a12, a13, a14⟩ hv10 hzv2.2.1 hzv2.2.2 (by rw [runB_len]; omega) (by omega)).mono ?_)
                        rintro e w11 ⟨rfl, hs11⟩
                        obtain ⟨fm11, hP11, hk11, hl11⟩ := hP10.stepK (.inl (.inl (.inl HA6.out))) a10 hs11 (by rw [appendS_len]; exact HP7.out.n2)
                        have hB11 := hk11.blk hB10 ⟨.inl (.inl (.inr rfl)), fun e => HZW.out lb HA6.out e.symm⟩
                        have hla11 := hk11.blk (hl9.fr hf10 (by simp)) ⟨.inl (.inl (.inl HA5.out)), fun e => hne e.symm⟩
                        refine ⟨_, rfl, hK _ _ (fun _ => hB11.at_ rfl) ?_⟩
                        simp only [Act.put, List.setIfInBounds_toArray, List.set_cons_zero, List.set_cons_succ]
                        refine wpAnyK_take (i := 12) (some 194) ?vq6_12 rfl rfl (by kernel_rfl) (fun _ _ _ h => h) (hB11.at_ rfl) (.inl ⟨rfl, fun W hW => ?yq6_12⟩) ?_
                        case yq6_12 => go_simp <;> with_reducible rfl
                        simp only [Act.put, List.setIfInBounds_toArray, List.set_cons_zero, List.set_cons_succ]
                        refine wpAnyK_done (by kernel_rfl) ?_ _
                        have hdone : (appendD D lg (runB kk o.c)).done ≤ 10 * (j + 1) := by
                          have := appendD_done D lg (runB kk o.c)
                          rw [runB_len] at this
                          omega
                        have hk2 : ∀ {v : Value} {bss : List (List UInt8)} {vs : List Value}, RowsX w7 v bss vs Zr → RowsX w11 v bss vs Zr := fun h => (((h.fr hf8' (by simp)).kp hk9 (fun z hz => ⟨.inl (.inl (HZR.out z hz)), fun e => HA7.out (e ▸ hz)⟩)).fr hf10 (by simp)).kp hk11 (fun z hz => ⟨.inl (.inl (.inl (HZR.out z hz))), fun e => HA8.out (e ▸ hz)⟩)
                        have hfin : ∃ D', D'.done ≤ 10 * (j + 1) ∧ JPl W d m N (.pointer (some ⟨la, 0, none⟩)) u15 (.int .i64 0) (.pointer (some ⟨lb, 0, none⟩)) u18 (.int .i64 0) D' w11 :=
                          ⟨_, hdone, 0, X, _, _, _, Zr, vx, vy, hP11, rfl, rfl, HXL.out, hk2 HX7.out, hk2 HY7.out, fun z hz => .inl (.inl (.inl (HZR.out z hz))), fun _ => ⟨appendL D lg (runB kk o.c), la, lb, rfl, rfl, hla11, hl11, .inl (.inl (.inl HA5.out)), .inl (.inl (.inl HA6.out)), HA7.out, HA8.out, a9, a10, hbnd.1, hbnd.2.1, hbnd.2.2.1, hbnd.2.2.2⟩⟩
                        have HFIN := Lib.hid hfin
                        clear hfin hk2 hdone hP8 hP9 hP10 hP11 hB8 hB9 hB10 hB11 hk9 hk11 hs9 hs11 hf8 hf8' hf10 hb8 hb10 hv8 hv10 hzv hza hzv2 hzb hm9 hl9 hl11 hla11 hbnd hK c0 c1 c2 c3 c4
                        go_wp2_with fail
                        go_meet
                        exact HFIN.out
                      · skip
                        have hN' := HP7.out.n1
                        have hneed : needOf kk ≤ 6 := need_le (by omega) (by omega)
                        go_wp2_with fail
                        refine wp_region_K (fun W => W.cell? ⟨ob, 2, none⟩ = some (.int .u8 (o.c.toNat : Int))) [0, 1, 2, 3, 6, 7, 8, 9, 12] (by kernel_rfl) ?_
                        refine wpAnyK_take (i := 0) (some 182) ?vq7_0 rfl rfl (by kernel_rfl) (fun _ _ _ h => h) c2 (.inl ⟨rfl, fun W hW => ?yq7_0⟩) ?_
                        case yq7_0 => go_simp <;> with_reducible rfl
                        simp only [Act.put, List.setIfInBounds_toArray, List.set_cons_zero, List.set_cons_succ]
                        refine wpAnyK_take (i := 1) (some 183) ?vq7_1 rfl rfl (by kernel_rfl) (fun _ _ _ h => h) c2 (.inl ⟨rfl, fun W hW => ?yq7_1⟩) ?_
                        case yq7_1 => go_simp <;> with_reducible rfl
                        simp only [Act.put, List.setIfInBounds_toArray, List.set_cons_zero, List.set_cons_succ]
                        refine wpAnyK_take (i := 2) (some 184) ?vq7_2 rfl rfl (by kernel_rfl) (fun _ _ _ h => h) c2 (.inl ⟨rfl, fun W hW => ?yq7_2⟩) ?_
                        case yq7_2 => go_simp <;> with_reducible rfl
                        simp only [Act.put, List.setIfInBounds_toArray, List.set_cons_zero, List.set_cons_succ]
                        refine wpAnyK_take (i := 3) (some 185) ?vq7_3 rfl rfl (by kernel_rfl) (fun _ _ _ h => h) c2 (.inl ⟨rfl, fun W hW => ?yq7_3⟩) ?_
                        case yq7_3 => go_simp <;> with_reducible rfl
                        simp only [Act.put, List.setIfInBounds_toArray, List.set_cons_zero, List.set_cons_succ]
                        refine wpAnyK_take (i := 6) (some 188) ?vq7_6 rfl rfl (by kernel_rfl) (fun _ _ _ h => h) c2 (.inl ⟨rfl, fun W hW => ?yq7_6⟩) ?_
                        case yq7_6 => go_simp <;> with_reducible rfl
                        simp only [Act.put, List.setIfInBounds_toArray, List.set_cons_zero, List.set_cons_succ]
                        refine wpAnyK_take (i := 7) (some 189) ?vq7_7 rfl rfl (by kernel_rfl) (fun _ _ _ h => h) c2 (.inl ⟨rfl, fun W hW => ?yq7_7⟩) ?_
                        case yq7_7 => go_simp <;> with_reducible rfl
                        simp only [Act.put, List.setIfInBounds_toArray, List.set_cons_zero, List.set_cons_succ]
                        refine wpAnyK_take (i := 8) (some 190) ?vq7_8 rfl rfl (by kernel_rfl) (fun _ _ _ h => h) c2 (.inl ⟨rfl, fun W hW => ?yq7_8⟩) ?_
                        case yq7_8 => go_simp <;> with_reducible rfl
                        simp only [Act.put, List.setIfInBounds_toArray, List.set_cons_zero, List.set_cons_succ]
                        refine wpAnyK_take (i := 9) (some 191) ?vq7_9 rfl rfl (by kernel_rfl) (fun _ _ _ h => h) c2 (.inl ⟨rfl, fun W hW => ?yq7_9⟩) ?_
                        case yq7_9 => go_simp <;> with_reducible rfl
                        simp only [Act.put, List.setIfInBounds_toArray, List.set_cons_zero, List.set_cons_succ]
                        refine wpAnyK_step (j := 4) (some 186) rfl rfl (by kernel_rfl) rfl fun K hK => ?_
                        refine wp_call_f (l := [.tmp 183, .tmp 185]) rfl [.int .i64 (kk : Int), B8 o.c] rfl (enter_bytes7 _) ((bytes07 w7.drew kk (by omega) o.c).mono ?_)
                        rintro e w8 ⟨rfl, hb8, hf8⟩
                        have hf8' : Fr [] w7 w8 := (Fr.refl [] w7).drew.trans hf8 (by simp)
                        have hz8 := hb8.lt
                        have hB8 := HB7.out.fr hf8' (by simp)
                        refine ⟨_, rfl, hK _ _ (fun _ => hB8.at_ rfl) ?_⟩
                        simp only [Act.put, List.setIfInBounds_toArray, List.set_cons_zero, List.set_cons_succ]
                        refine wpAnyK_step (j := 5) (some 187) rfl rfl (by kernel_rfl) rfl fun K hK => ?_
                        have hP8 := HP7.out.fr hf8'
                        have hv8 : BytesAt w8 (.slice (some ⟨w7.heap.size, 0, none⟩) kk kk) (runB kk o.c) w7.heap.size := by
                          have := BytesAt.of_blk hb8 kk (by rw [runB_len]; exact Nat.le_refl _)
                          rw [runB_len] at this
                          exact this
                        have hzv := hP8.zd w7.heap.size (.inr ⟨Nat.le_refl _, hz8⟩)
                        have hza := hP8.zd la (.inl (.inl HA5.out))
                        refine wp_call_f (l := [.tmp 182, .tmp 186]) rfl [.pointer (some ⟨la, 0, none⟩), .slice (some ⟨w7.heap.size, 0, none⟩) kk kk] rfl (enter_append7 _) ((append_at (lg := la) (gb := w7.heap.size) ⟨HA3.out.fr hf8' (by simp), hP8.d1, hza.1, a11, by rw [hN']; exact a12, a13, a14⟩ hv8 hzv.1 hzv.2.2 (by rw [runB_len]; omega) (by omega)).mono ?_)
                        rintro e w9 ⟨rfl, hs9⟩
                        obtain ⟨fd9, hP9, hk9, hl9⟩ := hP8.stepJ (.inl (.inl HA5.out)) a9 hs9 (by rw [appendS_len]; exact hN')
                        have hne : lb ≠ la := fun e => (HA4.out.ne_ HA3.out (by decide)) e
                        have hB9 := hk9.blk hB8 ⟨.inl (.inr rfl), fun e => HZW.out la HA5.out e.symm⟩
                        have hm9 := hk9.blk (HA4.out.fr hf8' (by simp)) ⟨.inl (.inl HA6.out), hne⟩
                        have hbnd : (appendL D lg (runB kk o.c)).at_ ≤ (appendL D lg (runB kk o.c)).n ∧ (appendL D lg (runB kk o.c)).f + (appendL D lg (runB kk o.c)).n ≤ N ∧ (appendL D lg (runB kk o.c)).num < 4294967296 ∧ (appendL D lg (runB kk o.c)).ses < 4294967296 := by
                          obtain ⟨_, hj, _, _⟩ := hs9
                          have h2 := hj.fit
                          rw [appendS_len, hN'] at h2
                          exact ⟨hj.at_, h2, hj.num, hj.ses⟩
                        refine ⟨_, rfl, hK _ _ (fun _ => hB9.at_ rfl) ?_⟩
                        simp only [Act.put, List.setIfInBounds_toArray, List.set_cons_zero, List.set_cons_succ]
                        refine wpAnyK_step (j := 10) (some 192) rfl rfl (by kernel_rfl) rfl fun K hK => ?_
                        refine wp_call_f (l := [.tmp 189, .tmp 191]) rfl [.int .i64 (kk : Int), B8 o.c] rfl (enter_bytes7 _) ((bytes07 w9 kk (by omega) o.c).mono ?_)
                        rintro e w10 ⟨rfl, hb10, hf10⟩
                        have hz10 := hb10.lt
                        have hB10 := hB9.fr hf10 (by simp)
                        refine ⟨_, rfl, hK _ _ (fun _ => hB10.at_ rfl) ?_⟩
                        simp only [Act.put, List.setIfInBounds_toArray, List.set_cons_zero, List.set_cons_succ]
                        refine wpAnyK_step (j := 11) (some 193) rfl rfl (by kernel_rfl) rfl fun K hK => ?_
                        have hP10 := hP9.fr hf10
                        have hv10 : BytesAt w10 (.slice (some ⟨w9.heap.size, 0, none⟩) kk kk) (runB kk o.c) w9.heap.size := by
                          have := BytesAt.of_blk hb10 kk (by rw [runB_len]; exact Nat.le_refl _)
                          rw [runB_len] at this
                          exact this
                        have hzv2 := hP10.zd w9.heap.size (.inr ⟨Nat.le_refl _, hz10⟩)
                        have hzb := hP10.zd lb (.inl (.inl (.inl HA6.out)))
                        refine wp_call_f (l := [.tmp 188, .tmp 192]) rfl [.pointer (some ⟨lb, 0, none⟩), .slice (some ⟨w9.heap.size, 0, none⟩) kk kk] rfl (enter_rappend7 _) ((rappend_at (lg := lb) (gb := w9.heap.size) ⟨hm9.fr hf10 (by simp), hP10.d2, hzb.2.1, a11, by rw [HP7.out.n2]; exact a12, a13, a14⟩ hv10 hzv2.2.1 hzv2.2.2 (by rw [runB_len]; omega) (by omega)).mono ?_)
                        rintro e w11 ⟨rfl, hs11⟩
                        obtain ⟨fm11, hP11, hk11, hl11⟩ := hP10.stepK (.inl (.inl (.inl HA6.out))) a10 hs11 (by rw [appendS_len]; exact HP7.out.n2)
                        have hB11 := hk11.blk hB10 ⟨.inl (.inl (.inr rfl)), fun e => HZW.out lb HA6.out e.symm⟩
                        have hla11 := hk11.blk (hl9.fr hf10 (by simp)) ⟨.inl (.inl (.inl HA5.out)), fun e => hne e.symm⟩
                        refine ⟨_, rfl, hK _ _ (fun _ => hB11.at_ rfl) ?_⟩
                        simp only [Act.put, List.setIfInBounds_toArray, List.set_cons_zero, List.set_cons_succ]
                        refine wpAnyK_take (i := 12) (some 194) ?vq7_12 rfl rfl (by kernel_rfl) (fun _ _ _ h => h) (hB11.at_ rfl) (.inl ⟨rfl, fun W hW => ?yq7_12⟩) ?_
                        case yq7_12 => go_simp <;> with_reducible rfl
                        simp only [Act.put, List.setIfInBounds_toArray, List.set_cons_zero, List.set_cons_succ]
                        refine wpAnyK_done (by kernel_rfl) ?_ _
                        have hdone : (appendD D lg (runB kk o.c)).done ≤ 10 * (j + 1) := by
                          have := appendD_done D lg (runB kk o.c)
                          rw [runB_len] at this
                          omega
                        have hk2 : ∀ {v : Value} {bss : List (List UInt8)} {vs : List Value}, RowsX w7 v bss vs Zr → RowsX w11 v bss vs Zr := fun h => (((h.fr hf8' (by simp)).kp hk9 (fun z hz => ⟨.inl (.inl (HZR.out z hz)), fun e => HA7.out (e ▸ hz)⟩)).fr hf10 (by simp)).kp hk11 (fun z hz => ⟨.inl (.inl (.inl (HZR.out z hz))), fun e => HA8.out (e ▸ hz)⟩)
                        have hfin : ∃ D', D'.done ≤ 10 * (j + 1) ∧ JPl W d m N (.pointer (some ⟨la, 0, none⟩)) u15 (.int .i64 0) (.pointer (some ⟨lb, 0, none⟩)) u18 (.int .i64 0) D' w11 :=
                          ⟨_, hdone, 0, X, _, _, _, Zr, vx, vy, hP11, rfl, rfl, HXL.out, hk2 HX7.out, hk2 HY7.out, fun z hz => .inl (.inl (.inl (HZR.out z hz))), fun _ => ⟨appendL D lg (runB kk o.c), la, lb, rfl, rfl, hla11, hl11, .inl (.inl (.inl HA5.out)), .inl (.inl (.inl HA6.out)), HA7.out, HA8.out, a9, a10, hbnd.1, hbnd.2.1, hbnd.2.2.1, hbnd.2.2.2⟩⟩
                        have HFIN := Lib.hid hfin
                        clear hfin hk2 hdone hP8 hP9 hP10 hP11 hB8 hB9 hB10 hB11 hk9 hk11 hs9 hs11 hf8 hf8' hf10 hb8 hb10 hv8 hv10 hzv hza hzv2 hzb hm9 hl9 hl11 hla11 hbnd hK c0 c1 c2 c3 c4
                        go_wp2_with fail
                        go_meet
                        exact HFIN.out
                    · have e0 : (o.what == 0) = false := beq_eq_false_iff_ne.2 (fun h => h01 (.inl h))
                      have e1 : (o.what == 1) = false := beq_eq_false_iff_ne.2 (fun h => h01 (.inr h))
                      clear h01
                      go_wp2_with fail
                      go_meet
                      exact ⟨D, by omega, 0, X, _, _, _, Zr, vx, vy, HP7.out, rfl, rfl, HXL.out, HX7.out, HY7.out, fun z hz => .inl (HZR.out z hz), fun _ => ⟨lg, la, lb, rfl, rfl, HA3.out, HA4.out, .inl HA5.out, .inl HA6.out, HA7.out, HA8.out, a9, a10, a11, a12, a13, a14⟩⟩
                · have hE' : (E != 0) = true := by rw [bne_iff_ne]; exact hE
                  clear hE
                  go_wp2_with fail
                  go_meet
                  refine ⟨D, by omega, E, X, _, _, _, Zr, vx, vy, HP7.out, rfl, rfl, HXL.out, HX7.out, HY7.out, fun z hz => .inl (HZR.out z hz), fun hE => ?_⟩
                  obtain ⟨l, la, lb, a1, a2, a3, a4, a5, a6, a7⟩ := HLOG7.out hE
                  exact ⟨l, la, lb, a1, a2, a3, a4, .inl a5, .inl a6, a7⟩
        case rest =>
          obtain ⟨D', hdn', E', X', fd2, fm2, Z2, Zr2, vx2, vy2, hP2, rfl, rfl, hX2, hx2, hy2, hZr2, hlog2⟩ := hcut
          have HP2 := Lib.hid hP2; have HX2 := Lib.hid hx2; have HY2 := Lib.hid hy2; have HLOG2 := Lib.hid hlog2; have HZR2 := Lib.hid hZr2
          clear hP2 hx2 hy2 hlog2 hZr2
          have hfin : ∀ w9, Fr [] wc w9 → JPlRel W d m N l.length u14 u15 (.int .i64 E') u17 u18 (.int .i64 E') (.int .i64 ((j : Int) + 1)) w9 := fun w9 hf9 =>
            ⟨j + 1, D', hjl, rfl, hdn', JPl.fr ⟨E', X', fd2, fm2, Z2, Zr2, vx2, vy2, HP2.out, rfl, rfl, hX2, HX2.out, HY2.out, HZR2.out, HLOG2.out⟩ hf9⟩
          have HFIN := Lib.hid hfin
          clear hfin
          by_cases hE : E' = 0
          · obtain ⟨lg, la, lb, a1, a2, a3, a4, a5, a6, a7, a8, a9, a10, a11, a12, a13, a14⟩ := HLOG2.out hE
            subst hE a1 a2
            have HA3 := Lib.hid a3; have HA4 := Lib.hid a4
            clear a3 a4 a5 a6 a7 a8 a9 a10 HLOG2 c0 c1 c2 c3 c4
            go_wp2_with fail
            refine (room_at HA3.out (by omega) a11).mono ?_
            rintro e w8 ⟨rfl, m8, rfl⟩
            go_wp2_with fail
            refine (rroom_at (HA4.out.drewN m8) (by omega) a11).mono ?_
            rintro e w9 ⟨rfl, m9, rfl⟩
            have hrr : (((lg.n - lg.at_ : Nat) : Int) != ((lg.n - lg.at_ : Nat) : Int)) = false := by simp
            go_wp2
            exact ⟨HFIN.out _ ((Fr.refl [] wc).drewN _), by simp [intOf]; omega⟩
          · have hE' : (E' == 0) = false := by rw [beq_eq_false_iff_ne]; exact hE
            clear hE c0 c1 c2 c3 c4
            go_wp2
            exact ⟨HFIN.out _ (Fr.refl [] wc), by simp [intOf]; omega⟩
      · have hzlt : Hid (∀ z, Zr z → z < wr.heap.size) := Lib.hid fun z hz => (HP.out.zd z (HZR.out z hz)).2.2
        have hEE2 : (E == E) = true := by simp
        have HF := Lib.hid HP.out.f
        go_wp2_with fail
        refine (same_any (HX.out.in_ hzlt.out).rd (HY.out.in_ hzlt.out).rd (by have := HXL.out; omega) (by have := HXL.out; omega)).mono ?_
        rintro e w8 ⟨rfl, m8, rfl⟩
        rw [decide_eq_true rfl]
        go_wp2_with fail
        refine (need_any _ n hn1 hn2).mono ?_
        rintro e w9 ⟨rfl, rfl⟩
        go_wp2_with fail
        refine (rneed_any _ n hn1 hn2).mono ?_
        rintro e w9 ⟨rfl, rfl⟩
        have hnn : (needI n == needI n) = true := by simp
        go_wp2
        go_ret
        exact ⟨rfl, HF.out.drewN m8⟩

end Go.Proofs.Ytbgcbikgjedkkaa
