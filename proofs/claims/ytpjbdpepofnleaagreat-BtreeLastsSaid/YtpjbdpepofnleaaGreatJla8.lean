/-
  Joined by join.py: Pf Pg Na Nb
-/
import Derived.Lib.SlBytesConst
import Derived.Lib.Bytealg
import Derived.Test.YtpjbdpepofnleaaGreatJla7
section
namespace Go.Proofs.YtpjbdpepofnleaaGreat
open Go.RowKit
theorem collectP_len {st : Stamp} : ∀ (L : List (List UInt8)) (k : Nat) (b : List UInt8), collect st k L = some b → b.length ≤ 48 * L.length
  | [], _, b, h => by injection h with h; subst h; simp
  | s :: L, k, b, h => by
    unfold collect at h
    split at h
    · cases h
    · rename_i q hq
      split at h
      · obtain ⟨c, hc, rfl⟩ := Option.map_eq_some_iff.1 h
        have h1 := collectP_len L (k + 1) c hc
        have h2 := piece_len hq
        simp only [List.length_append, List.length_cons]
        omega
      · cases h
theorem recordOf_len {L : List (List UInt8)} {x : Stamp × List UInt8} (h : recordOf L = some x) : x.2.length ≤ 48 * L.length := by
  unfold recordOf at h
  split at h
  · cases h
  · rename_i s T
    split at h
    · cases h
    · rename_i p hp
      split at h
      · cases h
      · obtain ⟨b, hb, rfl⟩ := Option.map_eq_some_iff.1 h
        have := collectP_len _ _ _ hb
        rw [List.length_take] at this
        show b.length ≤ _
        omega
theorem records_len : ∀ (n : Nat) (last : Option Stamp) (L : List (List UInt8)), ∀ x ∈ recordsOf n last L, x.2.length ≤ 48 * L.length
  | 0, _, _, x, h => by simp [recordsOf] at h
  | n + 1, last, L, x, h => by
    unfold recordsOf at h
    split at h
    · cases h
    · rename_i st b hr
      have h' : x ∈ (st, b) :: recordsOf n (some st) (L.drop st.count) := by
        cases last with
        | none => simpa using h
        | some l =>
          simp only at h
          split at h
          · cases h
          · exact h
      rcases List.mem_cons.1 h' with rfl | h'
      · exact recordOf_len hr
      · have := records_len n _ _ x h'
        rw [List.length_drop] at this
        omega
theorem part_take {D : DM} {log : Nat} (hd : D.dead = false) (hp : D.P = []) (hl : log ≤ D.S.length) : D.part 0 log = D.S.take log := (st_of hd hp).view (by rw [List.length_take]; omega)
def OpRes (w : World) (d n log : Nat) (D : DM) (H : PgM) (fp : List Nat) (e : Ending) (w' : World) : Prop :=
  ∃ g lg bl bh fp', e = .returned (.tuple #[.pointer (some ⟨g, 0, none⟩), .int .i64 0]) ∧ PgrAt w' g d lg bl bh (openP n log D H) fp' ∧ Fr fp w w' ∧ (∀ k ∈ fp', k ∈ fp ∨ w.heap.size ≤ k) ∧ w.heap.size ≤ g ∧ w.heap.size ≤ lg ∧ w.heap.size ≤ bl ∧ w.heap.size ≤ bh
set_option maxRecDepth 100000 in
set_option maxHeartbeats 4000000 in
theorem open_P {w : World} {d n log : Nat} {D : DM} {H : PgM} {fp : List Nat} (hd : DiskAt w d D fp) (hdead : D.dead = false) (hpend : D.P = []) (h1 : 1 ≤ n) (h2 : n ≤ 4096) (h3 : 1 ≤ log) (hfit : log + 8 * n ≤ D.S.length) (hnew : (newestOf (D.S.take log)).1 < 4294967295) (ht : takeAll n ((recordsOf log none (D.S.take log)).map (·.2)) [] = some H) :
    Calls Tryz.prog 29 #[.pointer (some ⟨d, 0, none⟩), .int .i64 (n : Int), .int .i64 (log : Int)] w (OpRes w d n log D H fp) := by
  refine calls_post fun R HQ => ?_
  have hpart := part_take hdead hpend (by omega : log ≤ D.S.length)
  have hmost := (DiskAt.ok hd).most
  have hlo : openL D 0 log = logOf log (D.S.take log) := by unfold openL openR logOf; rw [hpart]; rfl
  have HLO := Lib.hid (openL_ok (D := D) (f := 0) (n := log) (by omega) (by rw [hpart]; exact hnew))
  rw [hlo] at HLO
  have HJ := Lib.hid (open_ok (f := 0) hd hdead h3 (by omega) (by rw [hpart]; exact hnew))
  rw [hpart] at HJ
  have HD := Lib.hid hd; have HDE := Lib.hid (dead_at hd); have HSZ := Lib.hid (size_at hd); have HT := Lib.hid ht
  have hrl : ∀ x ∈ (recordsOf log none (D.S.take log)).map (·.2), x.length ≤ 4194304 := fun x hx => by
    obtain ⟨y, hy, rfl⟩ := List.mem_map.1 hx
    have := records_len _ _ _ y hy
    rw [List.length_take] at this
    omega
  have HRL := Lib.hid hrl
  rw [hdead] at HDE
  have y1 : IntKind.i64.wrap (8 * (n : Int)) = 8 * (n : Int) := by rw [IntKind.wrap_i64]; omega
  have y2 : IntKind.i64.wrap ((D.S.length : Int) - 8 * (n : Int)) = (D.S.length : Int) - 8 * (n : Int) := by rw [IntKind.wrap_i64]; omega
  clear hd hdead hpend ht hrl hpart hnew hlo
  have hmm := @run_makeMap Tryz.prog
  have e1 : decide ((n : Int) < 1) = false := by simp; omega
  have e2 : decide ((4096 : Int) < (n : Int)) = false := by simp; omega
  have e3 : decide ((log : Int) < 1) = false := by simp; omega
  have e4 : decide ((D.S.length : Int) - 8 * (n : Int) < (log : Int)) = false := by simp; omega
  go_enter Tryz.func29, Tryz.ntmps29
  go_wp2_with fail
  refine HDE.out.mono ?_
  rintro e w' ⟨rfl, rfl⟩
  go_wp2_with fail
  refine HSZ.out.mono ?_
  rintro e w' ⟨rfl, rfl⟩
  go_wp2_with fail
  refine HJ.out.mono ?_
  rintro e w2 ⟨out, rfl, ⟨vs, hrows⟩, hlog, hf2⟩
  obtain ⟨oA, oc, rfl, hoc, hmx⟩ := own_shape hrows.own
  unfold maxLen at hmx
  have hd2 := HD.out.fr hf2 (by simp)
  have hlo2 := hlog.lt
  have hz2 := hf2.size
  have HROWS := Lib.hid hrows; have HLOG := Lib.hid hlog; have HF2 := Lib.hid hf2; have HD2 := Lib.hid hd2
  obtain ⟨rows, hrw⟩ : ∃ rows, rows = (recordsOf log none (D.S.take log)).map (·.2) := ⟨_, rfl⟩
  rw [← hrw] at HROWS HT HRL hoc ⊢
  clear hrows hlog hf2 hd2 HJ hrw
  go_wp2_with fail
  have hfw : Fr [] w2 (((w2.alloc (.map #[] 0)).alloc (.map #[] 0)).alloc (.cells (pgCells d w.heap.size w2.heap.size (w2.heap.size + 1) (openP n log D [])).toArray 118)) := (((Fr.refl [] w2).alloc _).alloc _).alloc _
  have hm1 : MapAt (((w2.alloc (.map #[] 0)).alloc (.map #[] 0)).alloc (.cells (pgCells d w.heap.size w2.heap.size (w2.heap.size + 1) (openP n log D [])).toArray 118)) w2.heap.size [] :=
    (MapAt.new w2).fr (((Fr.refl [] _).alloc _).alloc _) (by simp)
  have hm2 : MapAt (((w2.alloc (.map #[] 0)).alloc (.map #[] 0)).alloc (.cells (pgCells d w.heap.size w2.heap.size (w2.heap.size + 1) (openP n log D [])).toArray 118)) (w2.heap.size + 1) [] := by
    have := (MapAt.new (w2.alloc (.map #[] 0))).fr ((Fr.refl [] _).alloc (.cells (pgCells d w.heap.size w2.heap.size (w2.heap.size + 1) (openP n log D [])).toArray 118)) (by simp)
    rwa [World.size_alloc] at this
  have hb1 : Blk (((w2.alloc (.map #[] 0)).alloc (.map #[] 0)).alloc (.cells (pgCells d w.heap.size w2.heap.size (w2.heap.size + 1) (openP n log D [])).toArray 118)) (w2.heap.size + 1 + 1) 118 (pgCells d w.heap.size w2.heap.size (w2.heap.size + 1) (openP n log D [])) := by
    have := Blk.new ((w2.alloc (.map #[] 0)).alloc (.map #[] 0)) 118 (pgCells d w.heap.size w2.heap.size (w2.heap.size + 1) (openP n log D []))
    rwa [World.size_alloc, World.size_alloc] at this
  have hz3 : (((w2.alloc (.map #[] 0)).alloc (.map #[] 0)).alloc (.cells (pgCells d w.heap.size w2.heap.size (w2.heap.size + 1) (openP n log D [])).toArray 118)).heap.size = w2.heap.size + 1 + 1 + 1 := by simp
  show Code.wp _ _ _ _ (((w2.alloc (.map #[] 0)).alloc (.map #[] 0)).alloc (.cells (pgCells d w.heap.size w2.heap.size (w2.heap.size + 1) (openP n log D [])).toArray 118))
  generalize ((w2.alloc (.map #[] 0)).alloc (.map #[] 0)).alloc (.cells (pgCells d w.heap.size w2.heap.size (w2.heap.size + 1) (openP n log D [])).toArray 118) = w3 at *
  have hdl := HD2.out.lt
  have hdlt := HD.out.lt
  have hP3 : PgrAt w3 (w2.heap.size + 1 + 1) d w.heap.size w2.heap.size (w2.heap.size + 1) (openP n log D []) fp :=
    ⟨hb1, ⟨HLOG.out.fr hfw (by simp), HD2.out.fr hfw (by simp), fun hm => by have := hdlt _ hm; omega, HLO.out.at_, HLO.out.fit, HLO.out.num, HLO.out.ses⟩, hm1, hm2, by omega, fun hm => by have := hdl _ hm; omega, fun hm => by have := hdl _ hm; omega, fun hm => by have := hdl _ hm; omega, PgOk.nil _, PgOk.nil _, h2⟩
  have hR3 := HROWS.out.fr hfw (by simp)
  have HP3 := Lib.hid hP3; have HFW := Lib.hid hfw
  have hrout : ∀ x ∈ pfp (w2.heap.size + 1 + 1) w.heap.size w2.heap.size (w2.heap.size + 1) fp, x < w.heap.size + 1 ∨ w2.heap.size ≤ x := fun x hx => by
    simp only [pfp, List.mem_cons] at hx
    rcases hx with rfl | rfl | rfl | rfl | hx
    · omega
    · omega
    · omega
    · omega
    · have := hdlt _ hx; omega
  have HRO := Lib.hid hrout
  clear hfw hm1 hm2 hb1 hP3 hR3 hdl hrout
  go_wp2_with fail
  go_loopw [58] (fun v58 wr => ∃ (k : Nat) (Hk : PgM), k ≤ rows.length ∧ v58 = .int .i64 (k : Int) ∧ takeAll n (rows.drop k) Hk = some H ∧ PStep w3 wr (w2.heap.size + 1 + 1) d w.heap.size w2.heap.size (w2.heap.size + 1) (openP n log D Hk) fp) (fun v _ => rows.length - (intOf v).toNat)
  case atStart => exact ⟨0, [], Nat.zero_le _, rfl, HT.out, PStep.same HP3.out⟩
  case round =>
    obtain ⟨k, Hk, hk, rfl, htk, fpk, hAk, hfk, hnk⟩ := hrel
    have HAK := Lib.hid hAk; have HFK := Lib.hid hfk; have HNK := Lib.hid hnk; have HTK := Lib.hid htk
    clear hAk hfk hnk htk
    by_cases hkn : k < rows.length
    · have hf2k : Fr (pfp (w2.heap.size + 1 + 1) w.heap.size w2.heap.size (w2.heap.size + 1) fp) w2 wr := (HFW.out.mono (by simp)).trans HFK.out (fun x hx => .inl hx)
      have hRk := HROWS.out.fr hf2k HRO.out
      obtain ⟨ga, hga, hcell⟩ := own_cell hRk.own (by omega)
      obtain ⟨u, hu⟩ : ∃ u, vs[k]? = some u := ⟨_, List.getElem?_eq_getElem (by rw [hRk.len]; exact hkn)⟩
      obtain ⟨bs, hbs⟩ : ∃ bs, rows[k]? = some bs := ⟨_, List.getElem?_eq_getElem hkn⟩
      obtain ⟨gb, hby, hgb, hgbl, _⟩ := HROWS.out.row k u bs hu hbs
      have hby' := hby.fr hf2k (fun hm => by have := HRO.out gb hm; omega)
      obtain ⟨uA, uc, uo, rfl, _⟩ := id hby
      have cu := hcell k _ hu
      obtain ⟨H1, hH1, hH2⟩ : ∃ H1, takeP n bs Hk = some H1 ∧ takeAll n (rows.drop (k + 1)) H1 = some H := by
        have h := HTK.out
        obtain ⟨h3, h4⟩ := List.getElem?_eq_some_iff.1 hbs
        rw [List.drop_eq_getElem_cons h3, h4] at h
        unfold takeAll at h
        cases hq : takeP n bs Hk with
        | none => rw [hq] at h; cases h
        | some H1 => rw [hq] at h; exact ⟨H1, rfl, h⟩
      have HRP := Lib.hid (replay_P HAK.out hby' (by omega) (HRL.out bs (List.mem_of_getElem? hbs)) hH1)
      have HH2 := Lib.hid hH2
      obtain ⟨rl, hrl⟩ : ∃ rl, rl = rows.length := ⟨_, rfl⟩
      subst hga
      clear hf2k hRk hcell hu hby hgb hgbl hby' hH1 hH2 hrl
      go_wp2_with fail
      refine HRP.out.mono ?_
      rintro e w5 ⟨rfl, hs5⟩
      have HX : Hid (PStep w3 w5 (w2.heap.size + 1 + 1) d w.heap.size w2.heap.size (w2.heap.size + 1) (openP n log D H1) fp) := Lib.hid (PStep.comp HFK.out HNK.out hs5)
      clear hs5 cu
      go_wp2_with fail
      go_roundw
      case rel => exact ⟨k + 1, H1, by omega, by go_num, HH2.out, HX.out⟩
      case measure => simp [intOf]; omega
    · obtain rfl : k = rows.length := by omega
      have hH : Hk = H := by
        have := HTK.out
        rw [List.drop_of_length_le (Nat.le_refl _)] at this
        injection this
      subst hH
      have HX : Hid (OpRes w d n log D Hk fp (.returned (.tuple #[.pointer (some ⟨w2.heap.size + 1 + 1, 0, none⟩), .int .i64 0])) wr) := Lib.hid (by
        have hfw2 : Fr [] w w3 := HF2.out.trans HFW.out (by simp)
        refine ⟨_, _, _, _, fpk, rfl, HAK.out, (hfw2.mono (T := fp) (by simp)).trans HFK.out (fun x hx => ?_), fun x hx => ?_, by omega, Nat.le_refl _, by omega, by omega⟩
        · simp only [pfp, List.mem_cons] at hx
          rcases hx with rfl | rfl | rfl | rfl | hx
          · exact .inr (by omega)
          · exact .inr (by omega)
          · exact .inr (by omega)
          · exact .inr (by omega)
          · exact .inl hx
        · rcases HNK.out x hx with h | h
          · exact .inl h
          · exact .inr (by have := hfw2.size; omega))
      go_wp2_with fail
      exact HQ.out _ _ HX.out
end Go.Proofs.YtpjbdpepofnleaaGreat
end
section
namespace Go.Proofs.YtpjbdpepofnleaaGreat
open Go.RowKit
def PgX (w0 w : World) (d g : Nat) (s : PS) (X : Nat → Prop) : Prop := ∃ lg bl bh fp, PgrAt w g d lg bl bh s fp ∧ (∀ k ∈ pfp g lg bl bh fp, w0.heap.size ≤ k ∧ ¬ X k) ∧ Fr [] w0 w ∧ ∀ k, X k → k < w.heap.size
section
variable {w0 w w' : World} {d g : Nat} {s s' : PS} {X Y : Nat → Prop}
theorem PgX.step {lg bl bh : Nat} {fp : List Nat} (h2 : ∀ k ∈ pfp g lg bl bh fp, w0.heap.size ≤ k ∧ ¬ X k) (h3 : Fr [] w0 w) (h4 : ∀ k, X k → k < w.heap.size) (hs : PStep w w' g d lg bl bh s' fp) : PgX w0 w' d g s' X ∧ Kp X w w' := by
  obtain ⟨fp', h1, hf, hn⟩ := hs
  have hz := h3.size
  have hz' := hf.size
  refine ⟨⟨lg, bl, bh, fp', h1, fun k hk => ?_, h3.trans hf (fun x hx => .inr (h2 x hx).1), fun k hk => Nat.lt_of_lt_of_le (h4 k hk) hz'⟩, _, hf, fun x hx => (h2 x hx).2⟩
  simp only [pfp, List.mem_cons] at hk
  rcases hk with rfl | rfl | rfl | rfl | hk
  · exact h2 _ (by simp [pfp])
  · exact h2 _ (by simp [pfp])
  · exact h2 _ (by simp [pfp])
  · exact h2 _ (by simp [pfp])
  · rcases hn k hk with h | h
    · exact h2 k (by simp [pfp, h])
    · exact ⟨by omega, fun hx => by have := h4 k hx; omega⟩
theorem PgX.fr (h : PgX w0 w d g s X) (hf : Fr [] w w') : PgX w0 w' d g s (fun k => X k ∨ w.heap.size ≤ k ∧ k < w'.heap.size) := by
  obtain ⟨lg, bl, bh, fp, h1, h2, h3, h4⟩ := h
  have hz := hf.size
  refine ⟨lg, bl, bh, fp, h1.fr hf (by simp), fun k hk => ⟨(h2 k hk).1, ?_⟩, h3.trans hf (by simp), ?_⟩
  · rintro (hx | hx)
    · exact (h2 k hk).2 hx
    · have := h1.lt k hk; omega
  · rintro k (hx | hx)
    · have := h4 k hx; omega
    · exact hx.2
theorem PgX.weak (h : PgX w0 w d g s X) (hY : ∀ k, Y k → X k) : PgX w0 w d g s Y := by
  obtain ⟨lg, bl, bh, fp, h1, h2, h3, h4⟩ := h
  exact ⟨lg, bl, bh, fp, h1, fun k hk => ⟨(h2 k hk).1, fun hy => (h2 k hk).2 (hY k hy)⟩, h3, fun k hk => h4 k (hY k hk)⟩
theorem PgX.stay (h : PgX w0 w d g s X) (hf : Fr [] w w') : PgX w0 w' d g s X := (h.fr hf).weak fun _ hk => .inl hk
theorem PgX.frame (h : PgX w0 w d g s X) : Fr [] w0 w := by obtain ⟨_, _, _, _, _, _, h, _⟩ := h; exact h
theorem PgX.disk (h : PgX w0 w d g s X) : DkX w0 w d s.D X := by
  obtain ⟨lg, bl, bh, fp, h1, h2, h3, h4⟩ := h
  exact ⟨fp, h1.jn.disk, fun k hk => h2 k (by simp [pfp, hk]), h3, h4⟩
theorem open_Y {n log : Nat} {D : DM} {H : PgM} (h : DkX w0 w d D X) (hdead : D.dead = false) (hpend : D.P = []) (h1 : 1 ≤ n) (h2 : n ≤ 4096) (h3 : 1 ≤ log) (hfit : log + 8 * n ≤ D.S.length) (hnew : (newestOf (D.S.take log)).1 < 4294967295) (ht : takeAll n ((recordsOf log none (D.S.take log)).map (·.2)) [] = some H) :
    Calls Tryz.prog 29 #[.pointer (some ⟨d, 0, none⟩), .int .i64 (n : Int), .int .i64 (log : Int)] w fun e w' => ∃ g, e = .returned (.tuple #[.pointer (some ⟨g, 0, none⟩), .int .i64 0]) ∧ PgX w0 w' d g (openP n log D H) X ∧ Kp X w w' := by
  obtain ⟨fp, g1, g2, g3, g4⟩ := h
  refine (open_P g1 hdead hpend h1 h2 h3 hfit hnew ht).mono ?_
  rintro e w' ⟨g, lg, bl, bh, fp', he, hp, hf, hn, k1, k2, k3, k4⟩
  have hz := g3.size
  have hz' := hf.size
  have new : ∀ k, w.heap.size ≤ k → w0.heap.size ≤ k ∧ ¬ X k := fun k hk => ⟨by omega, fun hx => by have := g4 k hx; omega⟩
  refine ⟨g, he, ⟨lg, bl, bh, fp', hp, fun k hk => ?_, g3.trans hf (fun x hx => .inr (g2 x hx).1), fun k hk => Nat.lt_of_lt_of_le (g4 k hk) hz'⟩, fp, hf, fun x hx => (g2 x hx).2⟩
  simp only [pfp, List.mem_cons] at hk
  rcases hk with rfl | rfl | rfl | rfl | hk
  · exact new _ k1
  · exact new _ k2
  · exact new _ k3
  · exact new _ k4
  · rcases hn k hk with h | h
    · exact g2 k h
    · exact new k h
theorem write_Y (h : PgX w0 w d g s X) (hbr : s.br = false) (k : Nat) (hk : k < s.n) (v : Value) (b : List UInt8) (gb : Nat) (hv : BytesAt w v b gb) (hb : b.length ≤ 512) :
    Calls Tryz.prog 66 #[.pointer (some ⟨g, 0, none⟩), .int .i64 (k : Int), v] w fun e w' => e = .returned (.int .i64 0) ∧ PgX w0 w' d g (s.write k b) X ∧ Kp X w w' := by
  obtain ⟨lg, bl, bh, fp, h1, h2, h3, h4⟩ := h
  exact (write_P h1 hbr k hk v b gb hv hb).mono fun e w' ⟨he, hs⟩ => ⟨he, PgX.step h2 h3 h4 hs⟩
theorem read_Y (h : PgX w0 w d g s X) (hbr : s.br = false) (hc : Calm s) (k : Nat) (hk : k < s.n) : Calls Tryz.prog 60 #[.pointer (some ⟨g, 0, none⟩), .int .i64 (k : Int)] w (PgAns w (s.page k)) := by
  obtain ⟨lg, bl, bh, fp, h1, _⟩ := h; exact read_P h1 hbr hc k hk
end
theorem PInv.free {c : Nat} {s : PS} {C : Nat → List UInt8} (h : PInv c s C) (hc : c + 4 < 4294967296) (hl : s.D.limit = -1) (hroom : 514 * s.late.length + 48 ≤ 48 * s.l.n) (hlog : 2 ≤ s.l.n) :
    s.commit.2 = 0 ∧ PInv (c + 3) s.commit.1 (over C s.late) ∧ s.commit.1.late = [] ∧ s.commit.1.n = s.n ∧ s.commit.1.l.n = s.l.n ∧ s.commit.1.D.limit = -1 := by
  have h1 := h.late.few
  have h2 := recP_len h.late.mem
  have h3 := h.fit
  have h4 := h.ok.most
  rcases h.committed hc with ⟨a1, a2, a3, a4, a5, a6⟩ | ⟨_, _, _, _, _, _, a7⟩ | ⟨_, _, a3, _⟩
  · exact ⟨a1, a2, a3, a4, a5, a6 hl⟩
  · unfold needOf at a7
    split at a7 <;> omega
  · exact absurd hl a3
end Go.Proofs.YtpjbdpepofnleaaGreat
namespace Go.Proofs.YtpjbdpepofnleaaGreat
open Go.RowKit
end Go.Proofs.YtpjbdpepofnleaaGreat
namespace Go.Proofs.YtpjbdpepofnleaaGreat
open Go.RowKit
end Go.Proofs.YtpjbdpepofnleaaGreat
end
section
namespace Go.Proofs.YtpjbdpepofnleaaGreat
abbrev Ky := List UInt8
def klt (a b : Ky) : Prop := Lib.compareBytes a b < 0
instance (a b : Ky) : Decidable (klt a b) := by unfold klt; infer_instance
theorem cmp_cases : ∀ a b : Ky, Lib.compareBytes a b = -1 ∨ Lib.compareBytes a b = 0 ∨ Lib.compareBytes a b = 1
  | [], [] => .inr (.inl rfl)
  | [], _ :: _ => .inl rfl
  | _ :: _, [] => .inr (.inr rfl)
  | a :: u, b :: bs => by
    unfold Lib.compareBytes
    split
    · exact .inl rfl
    · split
      · exact .inr (.inr rfl)
      · exact cmp_cases u bs
theorem cmp_zero : ∀ {a b : Ky}, Lib.compareBytes a b = 0 → a = b
  | [], [], _ => rfl
  | [], _ :: _, h => by cases h
  | _ :: _, [], h => by cases h
  | a :: u, b :: bs, h => by
    unfold Lib.compareBytes at h
    split at h
    · cases h
    · split at h
      · cases h
      · rename_i h1 h2
        have e : a = b := UInt8.le_antisymm (UInt8.not_lt.1 h2) (UInt8.not_lt.1 h1)
        rw [e, cmp_zero h]
theorem cmp_self : ∀ a : Ky, Lib.compareBytes a a = 0
  | [] => rfl
  | a :: u => by
    unfold Lib.compareBytes
    rw [if_neg (UInt8.lt_irrefl a), if_neg (UInt8.lt_irrefl a)]
    exact cmp_self u
theorem cmp_anti : ∀ a b : Ky, Lib.compareBytes b a = - Lib.compareBytes a b
  | [], [] => rfl
  | [], _ :: _ => rfl
  | _ :: _, [] => rfl
  | a :: u, b :: bs => by
    have ih := cmp_anti u bs
    unfold Lib.compareBytes
    by_cases h1 : a < b
    · have h2 : ¬ b < a := fun h => UInt8.lt_irrefl a (UInt8.lt_trans h1 h)
      rw [if_neg h2, if_pos h1, if_pos h1]; rfl
    · by_cases h2 : b < a
      · rw [if_pos h2, if_neg h1, if_pos h2]
      · rw [if_neg h2, if_neg h1, if_neg h1, if_neg h2]
        exact ih
theorem klt_irrefl (a : Ky) : ¬ klt a a := by unfold klt; rw [cmp_self]; decide
theorem klt_trans : ∀ {a b c : Ky}, klt a b → klt b c → klt a c
  | [], [], _, h, _ => absurd h (klt_irrefl _)
  | _ :: _, [], _, h, _ => by unfold klt Lib.compareBytes at h; cases h
  | [], _ :: _, [], _, h => by unfold klt Lib.compareBytes at h; cases h
  | [], _ :: _, _ :: _, _, _ => by unfold klt Lib.compareBytes; decide
  | _ :: _, _ :: _, [], _, h => by unfold klt Lib.compareBytes at h; cases h
  | a :: u, b :: bs, c :: cs, h1, h2 => by
    have ih := @klt_trans u bs cs
    unfold klt Lib.compareBytes at h1 h2 ⊢
    unfold klt at ih
    have L : ∀ x y : UInt8, x < y ↔ x.toNat < y.toNat := fun x y => UInt8.lt_iff_toNat_lt
    simp only [L] at h1 h2 ⊢
    by_cases a1 : a.toNat < b.toNat
    · by_cases b1 : b.toNat < c.toNat
      · rw [if_pos (by omega)]; decide
      · rw [if_neg b1] at h2
        by_cases b2 : c.toNat < b.toNat
        · rw [if_pos b2] at h2; cases h2
        · rw [if_pos (by omega)]; decide
    · rw [if_neg a1] at h1
      by_cases a2 : b.toNat < a.toNat
      · rw [if_pos a2] at h1; cases h1
      · rw [if_neg a2] at h1
        by_cases b1 : b.toNat < c.toNat
        · rw [if_pos (by omega)]; decide
        · rw [if_neg b1] at h2
          by_cases b2 : c.toNat < b.toNat
          · rw [if_pos b2] at h2; cases h2
          · rw [if_neg b2] at h2
            rw [if_neg (by omega), if_neg (by omega)]
            exact ih h1 h2
theorem klt_asymm {a b : Ky} (h : klt a b) : ¬ klt b a := fun h2 => klt_irrefl a (klt_trans h h2)
theorem klt_tri {a b : Ky} (h1 : ¬ klt a b) (h2 : ¬ klt b a) : a = b := by
  have h := cmp_anti a b
  unfold klt at h1 h2
  exact cmp_zero (by omega)
theorem klt_le_lt {a b c : Ky} (h1 : ¬ klt b a) (h2 : klt b c) : klt a c := by
  by_cases h : klt a b
  · exact klt_trans h h2
  · rw [klt_tri h h1]; exact h2
theorem klt_lt_le {a b c : Ky} (h1 : klt a b) (h2 : ¬ klt c b) : klt a c := by
  by_cases h : klt b c
  · exact klt_trans h1 h
  · rw [← klt_tri h h2]; exact h1
theorem kle_trans {a b c : Ky} (h1 : ¬ klt b a) (h2 : ¬ klt c b) : ¬ klt c a := fun h => h1 (klt_le_lt h2 h)
def geLo (lo : Option Ky) (k : Ky) : Prop := ∀ a, lo = some a → ¬ klt k a
def ltHi (hi : Option Ky) (k : Ky) : Prop := ∀ b, hi = some b → klt k b
structure It where
  key : Ky
  v : List UInt8
  at_ : Nat
structure Nd where
  lf : Bool
  first : Nat
  l : List It
def b16 (n : Nat) : List UInt8 := [UInt8.ofNat (n / 256), UInt8.ofNat n]
def ib (lf : Bool) (x : It) : List UInt8 := if lf then [UInt8.ofNat x.key.length, UInt8.ofNat x.v.length] ++ x.key ++ x.v else [UInt8.ofNat x.key.length] ++ x.key ++ b16 x.at_
def Nd.head (n : Nd) : List UInt8 := (if n.lf then 1 else 2) :: (b16 n.l.length ++ if n.lf then [] else b16 n.first)
def Nd.written (n : Nd) : List UInt8 := n.head ++ n.l.flatMap (ib n.lf)
def ibn (lf : Bool) (x : It) : Nat := if lf then 2 + x.key.length + x.v.length else 3 + x.key.length
def Nd.size (n : Nd) : Nat := (if n.lf then 3 else 5) + (n.l.map (ibn n.lf)).sum
theorem ib_len (lf : Bool) (x : It) : (ib lf x).length = ibn lf x := by unfold ib ibn b16; split <;> simp <;> omega
theorem ibs_len (lf : Bool) : ∀ l : List It, (l.flatMap (ib lf)).length = (l.map (ibn lf)).sum
  | [] => rfl
  | x :: l => by rw [List.flatMap_cons, List.length_append, ib_len, ibs_len lf l]; rfl
theorem Nd.head_len (n : Nd) : n.head.length = if n.lf then 3 else 5 := by unfold Nd.head b16; cases n.lf <;> simp
theorem Nd.written_len (n : Nd) : n.written.length = n.size := by
  unfold Nd.written Nd.size
  rw [List.length_append, ibs_len, n.head_len]
structure It.ok (lf : Bool) (x : It) : Prop where
  k1 : 1 ≤ x.key.length
  k2 : x.key.length ≤ 96
  v : x.v.length ≤ 64
  at_ : x.at_ < 65536
  bare : if lf then x.at_ = 0 else x.v = []
structure Nd.ok (n : Nd) : Prop where
  few : n.l.length < 65536
  item : ∀ x ∈ n.l, x.ok n.lf
  first : n.first < 65536
  bare : n.lf = true → n.first = 0
def r16 (b : List UInt8) : Nat := (b.getD 0 0).toNat * 256 + (b.getD 1 0).toNat
theorem r16_b16 {n : Nat} (h : n < 65536) (r : List UInt8) : r16 (b16 n ++ r) = n := by
  show (UInt8.ofNat (n / 256)).toNat * 256 + (UInt8.ofNat n).toNat = n
  rw [UInt8.toNat_ofNat', UInt8.toNat_ofNat']
  omega
def rdIts (lf : Bool) : Nat → List UInt8 → List It
  | 0, _ => []
  | k + 1, b =>
    if lf then ⟨(b.drop 2).take (b.getD 0 0).toNat, (b.drop (2 + (b.getD 0 0).toNat)).take (b.getD 1 0).toNat, 0⟩ :: rdIts lf k (b.drop (2 + (b.getD 0 0).toNat + (b.getD 1 0).toNat))
    else ⟨(b.drop 1).take (b.getD 0 0).toNat, [], r16 (b.drop (1 + (b.getD 0 0).toNat))⟩ :: rdIts lf k (b.drop (3 + (b.getD 0 0).toNat))
theorem rd_its (lf : Bool) : ∀ (l : List It) (r : List UInt8), (∀ x ∈ l, x.ok lf) → rdIts lf l.length (l.flatMap (ib lf) ++ r) = l
  | [], _, _ => rfl
  | x :: l, r, h => by
    have hx := h x (List.mem_cons_self ..)
    have ih := rd_its lf l r (fun y hy => h y (List.mem_cons_of_mem _ hy))
    have hk : (UInt8.ofNat x.key.length).toNat = x.key.length := by rw [UInt8.toNat_ofNat']; have := hx.k2; omega
    have hv : (UInt8.ofNat x.v.length).toNat = x.v.length := by rw [UInt8.toNat_ofNat']; have := hx.v; omega
    have hb := hx.bare
    rw [List.flatMap_cons, List.append_assoc, List.length_cons]
    generalize l.flatMap (ib lf) ++ r = q at ih ⊢
    obtain ⟨key, v, at_⟩ := x
    simp only at hk hv hb
    cases lf with
    | true =>
      rw [if_pos rfl] at hb
      have e : ib true ⟨key, v, at_⟩ ++ q = UInt8.ofNat key.length :: UInt8.ofNat v.length :: (key ++ (v ++ q)) := by simp [ib]
      rw [e]
      unfold rdIts
      rw [if_pos rfl]
      have g0 : ∀ z : List UInt8, (UInt8.ofNat key.length :: z).getD 0 0 = UInt8.ofNat key.length := fun _ => rfl
      have g1 : ∀ (y : UInt8) (z : List UInt8), (y :: UInt8.ofNat v.length :: z).getD 1 0 = UInt8.ofNat v.length := fun _ _ => rfl
      rw [g0, g1, hk, hv]
      have d2 : (UInt8.ofNat key.length :: UInt8.ofNat v.length :: (key ++ (v ++ q))).drop (2 + key.length) = v ++ q := by
        rw [show 2 + key.length = key.length + 1 + 1 by omega, List.drop_succ_cons, List.drop_succ_cons, List.drop_left]
      have d3 : (UInt8.ofNat key.length :: UInt8.ofNat v.length :: (key ++ (v ++ q))).drop (2 + key.length + v.length) = q := by
        rw [← List.drop_drop, d2, List.drop_left]
      rw [d2, d3, ih, show (UInt8.ofNat key.length :: UInt8.ofNat v.length :: (key ++ (v ++ q))).drop 2 = key ++ (v ++ q) from rfl, List.take_left, List.take_left, hb]
    | false =>
      rw [if_neg (by decide)] at hb
      have e : ib false ⟨key, v, at_⟩ ++ q = UInt8.ofNat key.length :: (key ++ (b16 at_ ++ q)) := by simp [ib]
      rw [e]
      unfold rdIts
      rw [if_neg (by decide)]
      have g0 : ∀ z : List UInt8, (UInt8.ofNat key.length :: z).getD 0 0 = UInt8.ofNat key.length := fun _ => rfl
      rw [g0, hk]
      have d2 : (UInt8.ofNat key.length :: (key ++ (b16 at_ ++ q))).drop (1 + key.length) = b16 at_ ++ q := by
        rw [show 1 + key.length = key.length + 1 by omega, List.drop_succ_cons, List.drop_left]
      have d3 : (UInt8.ofNat key.length :: (key ++ (b16 at_ ++ q))).drop (3 + key.length) = q := by
        rw [show 3 + key.length = (1 + key.length) + 2 by omega, ← List.drop_drop, d2]; rfl
      rw [d2, d3, ih, r16_b16 hx.at_, show (UInt8.ofNat key.length :: (key ++ (b16 at_ ++ q))).drop 1 = key ++ (b16 at_ ++ q) from rfl, List.take_left, hb]
def rdNd (b : List UInt8) : Nd :=
  if b.getD 0 0 = 1 then ⟨true, 0, rdIts true (r16 (b.drop 1)) (b.drop 3)⟩ else ⟨false, r16 (b.drop 3), rdIts false (r16 (b.drop 1)) (b.drop 5)⟩
theorem rd_nd {n : Nd} (h : n.ok) (r : List UInt8) : rdNd (n.written ++ r) = n := by
  have hi := rd_its n.lf n.l r h.item
  obtain ⟨lf, first, l⟩ := n
  unfold Nd.written
  rw [List.append_assoc]
  simp only at hi ⊢
  generalize l.flatMap (ib lf) ++ r = q at hi ⊢
  cases lf with
  | true =>
    have hz := h.bare rfl
    simp only at hz
    have e : Nd.head ⟨true, first, l⟩ ++ q = 1 :: (b16 l.length ++ q) := by unfold Nd.head; simp
    have e1 : (1 :: (b16 l.length ++ q)).getD 0 0 = (1 : UInt8) := rfl
    have e2 : (1 :: (b16 l.length ++ q)).drop 1 = b16 l.length ++ q := rfl
    have e3 : (1 :: (b16 l.length ++ q)).drop 3 = q := rfl
    rw [e]
    unfold rdNd
    rw [e1, if_pos rfl, e2, e3, r16_b16 h.few, hi, hz]
  | false =>
    have e : Nd.head ⟨false, first, l⟩ ++ q = 2 :: (b16 l.length ++ (b16 first ++ q)) := by unfold Nd.head; simp
    have e1 : (2 :: (b16 l.length ++ (b16 first ++ q))).getD 0 0 = (2 : UInt8) := rfl
    have e2 : (2 :: (b16 l.length ++ (b16 first ++ q))).drop 1 = b16 l.length ++ (b16 first ++ q) := rfl
    have e3 : (2 :: (b16 l.length ++ (b16 first ++ q))).drop 3 = b16 first ++ q := rfl
    have e5 : (2 :: (b16 l.length ++ (b16 first ++ q))).drop 5 = q := rfl
    rw [e]
    unfold rdNd
    rw [e1, if_neg (by decide), e2, e3, e5, r16_b16 h.few, r16_b16 h.first, hi]
open Classical in
/-- A page as a node, if it is one. -/
noncomputable def decP (b : List UInt8) : Option Nd := if (rdNd b).ok ∧ b = pad512 (rdNd b).written ∧ (rdNd b).size ≤ 512 then some (rdNd b) else none
theorem decP_of {n : Nd} (h : n.ok) (hs : n.size ≤ 512) : decP (pad512 n.written) = some n := by
  have e : rdNd (pad512 n.written) = n := rd_nd h _
  unfold decP
  rw [e, if_pos ⟨h, rfl, hs⟩]
theorem decP_inv {b : List UInt8} {n : Nd} (h : decP b = some n) : n.ok ∧ b = pad512 n.written ∧ n.size ≤ 512 := by
  unfold decP at h
  split at h
  · rename_i h1
    injection h with h
    rw [← h]
    exact h1
  · cases h
section
variable {α : Type}
def insA (x : Nat × α) : List (Nat × α) → List (Nat × α)
  | [] => [x]
  | y :: m => if x.1 < y.1 then x :: y :: m else y :: insA x m
def putA (m : List (Nat × α)) (k : Nat) (b : α) : List (Nat × α) := insA (k, b) (m.filter fun p => !decide (p.1 = k))
def getA (m : List (Nat × α)) (k : Nat) : Option α := (m.find? fun p => decide (p.1 = k)).map (·.2)
def delA (m : List (Nat × α)) (k : Nat) : List (Nat × α) := m.filter fun p => !decide (p.1 = k)
theorem getA_ins (x : Nat × α) (k : Nat) : ∀ m : List (Nat × α), (∀ p ∈ m, p.1 ≠ x.1) → getA (insA x m) k = if k = x.1 then some x.2 else getA m k
  | [], _ => by
    unfold insA getA
    by_cases h : x.1 = k
    · rw [List.find?_cons_of_pos (by simpa using h), if_pos h.symm]; rfl
    · rw [List.find?_cons_of_neg (by simpa using h), if_neg (fun e => h e.symm)]
  | y :: m, hm => by
    have ih := getA_ins x k m (fun p hp => hm p (List.mem_cons_of_mem _ hp))
    have hy := hm y (List.mem_cons_self ..)
    unfold insA
    split
    · unfold getA
      by_cases h : x.1 = k
      · rw [List.find?_cons_of_pos (by simpa using h), if_pos h.symm]; rfl
      · rw [List.find?_cons_of_neg (by simpa using h), if_neg (fun e => h e.symm)]
    · unfold getA at ih ⊢
      by_cases h : y.1 = k
      · rw [List.find?_cons_of_pos (by simpa using h), List.find?_cons_of_pos (by simpa using h), if_neg (fun e => hy (by rw [h, e]))]
      · rw [List.find?_cons_of_neg (by simpa using h), List.find?_cons_of_neg (by simpa using h)]
        exact ih
theorem getA_del (m : List (Nat × α)) (k j : Nat) : getA (delA m k) j = if j = k then none else getA m j := by
  unfold getA delA
  induction m with
  | nil => by_cases h : j = k <;> simp [h]
  | cons p m ih =>
    by_cases hp : p.1 = k
    · rw [List.filter_cons_of_neg (by simpa using hp), ih]
      by_cases h : j = k
      · rw [if_pos h, if_pos h]
      · rw [if_neg h, if_neg h, List.find?_cons_of_neg (by simp; omega)]
    · rw [List.filter_cons_of_pos (by simpa using hp)]
      by_cases h1 : p.1 = j
      · rw [List.find?_cons_of_pos (by simpa using h1), List.find?_cons_of_pos (by simpa using h1), if_neg (by omega)]
      · rw [List.find?_cons_of_neg (by simpa using h1), List.find?_cons_of_neg (by simpa using h1)]
        exact ih
theorem getA_put (m : List (Nat × α)) (k j : Nat) (b : α) : getA (putA m k b) j = if j = k then some b else getA m j := by
  unfold putA
  rw [getA_ins (k, b) j _ (fun p hp => by simpa using (List.mem_filter.1 hp).2)]
  by_cases h : j = k
  · rw [if_pos h, if_pos h]
  · rw [if_neg h, if_neg h]
    have := getA_del m k j
    rw [if_neg h] at this
    exact this
theorem getA_nil (k : Nat) : getA ([] : List (Nat × α)) k = none := rfl
def RiseA (m : List (Nat × α)) : Prop := m.Pairwise fun p q => p.1 < q.1
theorem mem_insA {x y : Nat × α} : ∀ {m : List (Nat × α)}, y ∈ insA x m ↔ y = x ∨ y ∈ m
  | [] => by simp [insA]
  | z :: m => by
    unfold insA
    split
    · simp
    · rw [List.mem_cons, mem_insA, List.mem_cons]
      constructor
      · rintro (h | h | h)
        · exact .inr (.inl h)
        · exact .inl h
        · exact .inr (.inr h)
      · rintro (h | h | h)
        · exact .inr (.inl h)
        · exact .inl h
        · exact .inr (.inr h)
theorem RiseA.ins {x : Nat × α} : ∀ {m : List (Nat × α)}, RiseA m → (∀ p ∈ m, p.1 ≠ x.1) → RiseA (insA x m)
  | [], _, _ => by simp [insA, RiseA]
  | y :: m, h, hx => by
    obtain ⟨h1, h2⟩ := List.pairwise_cons.1 h
    have hy := hx y (List.mem_cons_self ..)
    unfold insA
    split
    · rename_i hlt
      refine List.pairwise_cons.2 ⟨fun p hp => ?_, h⟩
      rcases List.mem_cons.1 hp with rfl | hp
      · exact hlt
      · have := h1 p hp; omega
    · refine List.pairwise_cons.2 ⟨fun p hp => ?_, RiseA.ins h2 (fun p hp => hx p (List.mem_cons_of_mem _ hp))⟩
      rcases mem_insA.1 hp with rfl | hp
      · omega
      · exact h1 p hp
theorem RiseA.del {m : List (Nat × α)} (h : RiseA m) (k : Nat) : RiseA (delA m k) := List.Pairwise.filter _ h
theorem RiseA.put {m : List (Nat × α)} (h : RiseA m) (k : Nat) (b : α) : RiseA (putA m k b) := (h.del k).ins fun p hp => by simpa using (List.mem_filter.1 hp).2
theorem getA_mem {m : List (Nat × α)} {k : Nat} {b : α} (h : getA m k = some b) : (k, b) ∈ m := by
  unfold getA at h
  obtain ⟨p, hp, rfl⟩ := Option.map_eq_some_iff.1 h
  have h1 := List.find?_some hp
  have h2 := List.mem_of_find?_eq_some hp
  simp only [decide_eq_true_eq] at h1
  rw [← h1]
  exact h2
end
end Go.Proofs.YtpjbdpepofnleaaGreat
end
section
namespace Go.Proofs.YtpjbdpepofnleaaGreat
abbrev En := List (Ky × List UInt8)
def entOf (l : List It) : En := l.map fun x => (x.key, x.v)
def Rise (E : En) : Prop := E.Pairwise fun a b => klt a.1 b.1
def Within (lo hi : Option Ky) (E : En) : Prop := ∀ e ∈ E, geLo lo e.1 ∧ ltHi hi e.1
abbrev SubT := Nat → Option Ky → Option Ky → En → List Nat → Prop
def Kids (S : SubT) : Option Ky → Nat → List It → Option Ky → En → List Nat → Prop
  | lo, c, [], hi, E, P => S c lo hi E P
  | lo, c, x :: l, hi, E, P => ∃ E1 P1 E2 P2, S c lo (some x.key) E1 P1 ∧ Kids S (some x.key) x.at_ l hi E2 P2 ∧ E = E1 ++ E2 ∧ P = P1 ++ P2
def NF (N : Nat → Option Nd) : Nat → Nd → Option Ky → Option Ky → En → List Nat → Prop
  | 0, n, lo, hi, E, P => n.lf = true ∧ E = entOf n.l ∧ P = [] ∧ Rise E ∧ Within lo hi E
  | h + 1, n, lo, hi, E, P => n.lf = false ∧ Kids (fun at_ lo hi E P => ∃ n P', N at_ = some n ∧ n.ok ∧ n.size ≤ 512 ∧ 1 ≤ n.l.length ∧ P = at_ :: P' ∧ NF N h n lo hi E P') lo n.first n.l hi E P
def Sub (N : Nat → Option Nd) (m h : Nat) : SubT := fun at_ lo hi E P => ∃ n P', N at_ = some n ∧ n.ok ∧ n.size ≤ 512 ∧ m ≤ n.l.length ∧ P = at_ :: P' ∧ NF N h n lo hi E P'
def chOf (c : Nat) : List It → Nat
  | [] => c
  | x :: A => chOf x.at_ A
def loOf (lo : Option Ky) : List It → Option Ky
  | [] => lo
  | x :: A => loOf (some x.key) A
def hiOf (hi : Option Ky) : List It → Option Ky
  | [] => hi
  | x :: _ => some x.key
def KidsL (S : SubT) : Option Ky → Nat → List It → En → List Nat → Prop
  | _, _, [], E, P => E = [] ∧ P = []
  | lo, c, x :: A, E, P => ∃ E1 P1 E2 P2, S c lo (some x.key) E1 P1 ∧ KidsL S (some x.key) x.at_ A E2 P2 ∧ E = E1 ++ E2 ∧ P = P1 ++ P2
def KidsR (S : SubT) : List It → Option Ky → En → List Nat → Prop
  | [], _, E, P => E = [] ∧ P = []
  | x :: B, hi, E, P => Kids S (some x.key) x.at_ B hi E P
section
variable {S S' : SubT} {lo hi : Option Ky} {c : Nat} {A B l : List It} {E : En} {P : List Nat}
theorem Kids.mono (hS : ∀ c lo hi E P', (∀ p ∈ P', p ∈ P) → S c lo hi E P' → S' c lo hi E P') : ∀ {l : List It} {lo : Option Ky} {c : Nat} {E : En} {P' : List Nat}, (∀ p ∈ P', p ∈ P) → Kids S lo c l hi E P' → Kids S' lo c l hi E P'
  | [], _, _, _, _, hP, h => hS _ _ _ _ _ hP h
  | x :: l, lo, c, E, P', hP, h => by
    obtain ⟨E1, P1, E2, P2, h1, h2, rfl, rfl⟩ := h
    exact ⟨E1, P1, E2, P2, hS _ _ _ _ _ (fun p hp => hP p (List.mem_append_left _ hp)) h1, Kids.mono hS (fun p hp => hP p (List.mem_append_right _ hp)) h2, rfl, rfl⟩
theorem KidsL.mono (hS : ∀ c lo hi E P', (∀ p ∈ P', p ∈ P) → S c lo hi E P' → S' c lo hi E P') : ∀ {l : List It} {lo : Option Ky} {c : Nat} {E : En} {P' : List Nat}, (∀ p ∈ P', p ∈ P) → KidsL S lo c l E P' → KidsL S' lo c l E P'
  | [], _, _, _, _, _, h => h
  | x :: l, lo, c, E, P', hP, h => by
    obtain ⟨E1, P1, E2, P2, h1, h2, rfl, rfl⟩ := h
    exact ⟨E1, P1, E2, P2, hS _ _ _ _ _ (fun p hp => hP p (List.mem_append_left _ hp)) h1, KidsL.mono hS (fun p hp => hP p (List.mem_append_right _ hp)) h2, rfl, rfl⟩
theorem KidsR.mono (hS : ∀ c lo hi E P', (∀ p ∈ P', p ∈ P) → S c lo hi E P' → S' c lo hi E P') {P' : List Nat} (hP : ∀ p ∈ P', p ∈ P) (h : KidsR S B hi E P') : KidsR S' B hi E P' := by
  cases B with
  | nil => exact h
  | cons x B => exact Kids.mono hS hP h
theorem Kids.focus : ∀ {A : List It} {lo : Option Ky} {c : Nat} {E : En} {P : List Nat}, Kids S lo c (A ++ B) hi E P ↔
    ∃ EA PA E0 P0 EB PB, KidsL S lo c A EA PA ∧ S (chOf c A) (loOf lo A) (hiOf hi B) E0 P0 ∧ KidsR S B hi EB PB ∧ E = EA ++ (E0 ++ EB) ∧ P = PA ++ (P0 ++ PB)
  | [], lo, c, E, P => by
    cases B with
    | nil =>
      constructor
      · intro h
        exact ⟨[], [], E, P, [], [], ⟨rfl, rfl⟩, h, ⟨rfl, rfl⟩, by simp, by simp⟩
      · rintro ⟨_, _, E0, P0, _, _, ⟨rfl, rfl⟩, h, ⟨rfl, rfl⟩, rfl, rfl⟩
        simp only [List.nil_append, List.append_nil]
        exact h
    | cons x B =>
      constructor
      · rintro ⟨E1, P1, E2, P2, h1, h2, rfl, rfl⟩
        exact ⟨[], [], E1, P1, E2, P2, ⟨rfl, rfl⟩, h1, h2, rfl, rfl⟩
      · rintro ⟨_, _, E0, P0, EB, PB, ⟨rfl, rfl⟩, h1, h2, rfl, rfl⟩
        exact ⟨E0, P0, EB, PB, h1, h2, rfl, rfl⟩
  | y :: A, lo, c, E, P => by
    constructor
    · rintro ⟨E1, P1, E2, P2, h1, h2, rfl, rfl⟩
      obtain ⟨EA, PA, E0, P0, EB, PB, a1, a2, a3, rfl, rfl⟩ := Kids.focus.1 h2
      exact ⟨E1 ++ EA, P1 ++ PA, E0, P0, EB, PB, ⟨E1, P1, EA, PA, h1, a1, rfl, rfl⟩, a2, a3, by rw [List.append_assoc], by rw [List.append_assoc]⟩
    · rintro ⟨_, _, E0, P0, EB, PB, ⟨E1, P1, EA, PA, h1, a1, rfl, rfl⟩, a2, a3, rfl, rfl⟩
      exact ⟨E1, P1, EA ++ (E0 ++ EB), PA ++ (P0 ++ PB), h1, Kids.focus.2 ⟨EA, PA, E0, P0, EB, PB, a1, a2, a3, rfl, rfl⟩, by rw [List.append_assoc], by rw [List.append_assoc]⟩
theorem Kids.focus2 {x : It} : Kids S lo c (A ++ x :: B) hi E P ↔
    ∃ EA PA E1 P1 E2 P2 EB PB, KidsL S lo c A EA PA ∧ S (chOf c A) (loOf lo A) (some x.key) E1 P1 ∧ S x.at_ (some x.key) (hiOf hi B) E2 P2 ∧ KidsR S B hi EB PB ∧ E = EA ++ ((E1 ++ E2) ++ EB) ∧ P = PA ++ ((P1 ++ P2) ++ PB) := by
  constructor
  · intro h
    obtain ⟨EA, PA, E1, P1, EX, PX, a1, a2, a3, rfl, rfl⟩ := Kids.focus.1 h
    obtain ⟨_, _, E2, P2, EB, PB, ⟨rfl, rfl⟩, b2, b3, rfl, rfl⟩ := (Kids.focus (A := [])).1 (show Kids S (some x.key) x.at_ ([] ++ B) hi EX PX from a3)
    exact ⟨EA, PA, E1, P1, E2, P2, EB, PB, a1, a2, b2, b3, by simp, by simp⟩
  · rintro ⟨EA, PA, E1, P1, E2, P2, EB, PB, a1, a2, b2, b3, rfl, rfl⟩
    refine Kids.focus.2 ⟨EA, PA, E1, P1, E2 ++ EB, P2 ++ PB, a1, a2, ?_, by simp, by simp⟩
    exact (Kids.focus (A := [])).2 ⟨[], [], E2, P2, EB, PB, ⟨rfl, rfl⟩, b2, b3, rfl, rfl⟩
theorem Kids.cut {x : It} : ∀ {A : List It} {lo : Option Ky} {c : Nat} {E : En} {P : List Nat}, Kids S lo c (A ++ x :: B) hi E P ↔ ∃ E1 P1 E2 P2, Kids S lo c A (some x.key) E1 P1 ∧ Kids S (some x.key) x.at_ B hi E2 P2 ∧ E = E1 ++ E2 ∧ P = P1 ++ P2
  | [], _, _, _, _ => Iff.rfl
  | y :: A, lo, c, E, P => by
    constructor
    · rintro ⟨E1, P1, E2, P2, h1, h2, rfl, rfl⟩
      obtain ⟨E3, P3, E4, P4, a1, a2, rfl, rfl⟩ := Kids.cut.1 h2
      exact ⟨E1 ++ E3, P1 ++ P3, E4, P4, ⟨E1, P1, E3, P3, h1, a1, rfl, rfl⟩, a2, by rw [List.append_assoc], by rw [List.append_assoc]⟩
    · rintro ⟨_, _, E4, P4, ⟨E1, P1, E3, P3, h1, a1, rfl, rfl⟩, a2, rfl, rfl⟩
      exact ⟨E1, P1, E3 ++ E4, P3 ++ P4, h1, Kids.cut.2 ⟨E3, P3, E4, P4, a1, a2, rfl, rfl⟩, by rw [List.append_assoc], by rw [List.append_assoc]⟩
end
theorem within_hi {lo hi : Option Ky} {E : En} {k : Ky} (h : Within lo (some k) E) (hk : ltHi hi k) : Within lo hi E := fun e he => ⟨(h e he).1, fun b hb => klt_trans ((h e he).2 k rfl) (hk b hb)⟩
theorem within_lo {lo hi : Option Ky} {E : En} {k : Ky} (h : Within (some k) hi E) (hk : geLo lo k) : Within lo hi E := fun e he => ⟨fun a ha => kle_trans (hk a ha) ((h e he).1 k rfl), (h e he).2⟩
theorem Within.mid {lo _hi : Option Ky} {E : En} {k : Ky} (h : Within lo (some k) E) (hE : E ≠ []) : geLo lo k := by
  obtain ⟨e, he⟩ := List.exists_mem_of_ne_nil E hE
  exact fun a ha hk => (h e he).1 a ha (klt_trans ((h e he).2 k rfl) hk)
theorem Within.mid2 {lo _hi : Option Ky} {E : En} {k : Ky} (h : Within lo (some k) E) (hE : E ≠ []) : ∀ a, lo = some a → klt a k := by
  obtain ⟨e, he⟩ := List.exists_mem_of_ne_nil E hE
  exact fun a ha => klt_le_lt ((h e he).1 a ha) ((h e he).2 k rfl)
theorem Within.midHi {hi : Option Ky} {E : En} {k : Ky} (h : Within (some k) hi E) (hE : E ≠ []) : ltHi hi k := by
  obtain ⟨e, he⟩ := List.exists_mem_of_ne_nil E hE
  exact fun b hb => klt_le_lt ((h e he).1 k rfl) ((h e he).2 b hb)
theorem Rise.append {E1 E2 : En} {k : Ky} {lo hi : Option Ky} (h1 : Rise E1) (h2 : Rise E2) (w1 : Within lo (some k) E1) (w2 : Within (some k) hi E2) : Rise (E1 ++ E2) := by
  refine List.pairwise_append.2 ⟨h1, h2, fun a ha b hb => ?_⟩
  exact klt_lt_le ((w1 a ha).2 k rfl) ((w2 b hb).1 k rfl)
structure Fine (S : SubT) : Prop where
  all : ∀ c lo hi E P, S c lo hi E P → Rise E ∧ Within lo hi E ∧ E ≠ []
theorem Kids.fine {S : SubT} (hS : Fine S) {hi : Option Ky} : ∀ {l : List It} {lo : Option Ky} {c : Nat} {E : En} {P : List Nat}, Kids S lo c l hi E P → Rise E ∧ Within lo hi E ∧ E ≠ []
  | [], _, _, _, _, h => hS.all _ _ _ _ _ h
  | x :: l, lo, _, _, _, ⟨E1, P1, E2, P2, h1, h2, rfl, rfl⟩ => by
    obtain ⟨a1, a2, a3⟩ := hS.all _ _ _ _ _ h1
    obtain ⟨b1, b2, b3⟩ := Kids.fine hS h2
    refine ⟨a1.append b1 a2 b2, fun e he => ?_, fun e => a3 (List.append_eq_nil_iff.1 e).1⟩
    rcases List.mem_append.1 he with he | he
    · exact within_hi a2 (b2.midHi b3) e he
    · exact within_lo b2 (a2.mid (_hi := hi) a3) e he
theorem Kids.keys {S : SubT} (hS : Fine S) {hi : Option Ky} : ∀ {l : List It} {lo : Option Ky} {c : Nat} {E : En} {P : List Nat}, Kids S lo c l hi E P → (l.Pairwise fun x y => klt x.key y.key) ∧ ∀ x ∈ l, (∀ a, lo = some a → klt a x.key) ∧ ltHi hi x.key
  | [], _, _, _, _, _ => ⟨List.Pairwise.nil, fun x hx => by cases hx⟩
  | x :: l, lo, _, _, _, ⟨E1, P1, E2, P2, h1, h2, rfl, rfl⟩ => by
    obtain ⟨a1, a2, a3⟩ := hS.all _ _ _ _ _ h1
    obtain ⟨b1, b2, b3⟩ := Kids.fine hS h2
    obtain ⟨c1, c2⟩ := Kids.keys hS h2
    refine ⟨List.pairwise_cons.2 ⟨fun y hy => (c2 y hy).1 _ rfl, c1⟩, fun y hy => ?_⟩
    rcases List.mem_cons.1 hy with rfl | hy
    · exact ⟨a2.mid2 (_hi := hi) a3, b2.midHi b3⟩
    · exact ⟨fun a ha => klt_trans (a2.mid2 (_hi := hi) a3 a ha) ((c2 y hy).1 _ rfl), (c2 y hy).2⟩
theorem KidsL.less {S : SubT} (hS : Fine S) : ∀ {A : List It} {lo : Option Ky} {c : Nat} {E : En} {P : List Nat}, KidsL S lo c A E P → (A.Pairwise fun x y => klt x.key y.key) → ∀ e ∈ E, ∃ a, loOf lo A = some a ∧ klt e.1 a
  | [], _, _, _, _, h, _, e, he => by
    obtain ⟨rfl, _⟩ := h
    cases he
  | [x], _, _, _, _, h, _, e, he => by
    obtain ⟨E1, P1, E2, P2, h1, ⟨rfl, _⟩, rfl, _⟩ := h
    rw [List.append_nil] at he
    exact ⟨x.key, rfl, ((hS.all _ _ _ _ _ h1).2.1 e he).2 _ rfl⟩
  | x :: y :: A, _, _, _, _, h, hp, e, he => by
    obtain ⟨E1, P1, E2, P2, h1, h2, rfl, _⟩ := h
    have hp' := (List.pairwise_cons.1 hp)
    rcases List.mem_append.1 he with he | he
    · have hx := ((hS.all _ _ _ _ _ h1).2.1 e he).2 _ rfl
      obtain ⟨E3, P3, E4, P4, h3, h4, e3, e4⟩ := id h2
      obtain ⟨_, b2, b3⟩ := hS.all _ _ _ _ _ h3
      obtain ⟨e3', he3⟩ := List.exists_mem_of_ne_nil _ b3
      obtain ⟨a, ha, hl⟩ := KidsL.less hS h2 hp'.2 e3' (by rw [e3]; exact List.mem_append_left _ he3)
      exact ⟨a, ha, klt_trans (klt_lt_le hx ((b2 e3' he3).1 _ rfl)) hl⟩
    · exact KidsL.less hS h2 hp'.2 e he
theorem KidsR.more {S : SubT} (hS : Fine S) {B : List It} {hi : Option Ky} {E : En} {P : List Nat} (h : KidsR S B hi E P) : ∀ e ∈ E, ∃ b, hiOf hi B = some b ∧ ¬ klt e.1 b := by
  cases B with
  | nil => obtain ⟨rfl, _⟩ := h; intro e he; cases he
  | cons x B => exact fun e he => ⟨x.key, rfl, ((Kids.fine hS h).2.1 e he).1 _ rfl⟩
section
variable {N N' : Nat → Option Nd} {m h : Nat} {n : Nd} {at_ : Nat} {lo hi : Option Ky} {E : En} {P : List Nat}
theorem NF.fine : ∀ {h : Nat} {n : Nd} {lo hi : Option Ky} {E : En} {P : List Nat}, NF N h n lo hi E P → Rise E ∧ Within lo hi E ∧ (1 ≤ n.l.length ∨ 1 ≤ h → E ≠ [])
  | 0, n, _, _, _, _, ⟨_, rfl, _, h1, h2⟩ => ⟨h1, h2, fun hh e => by
    have hl : n.l.length = 0 := by have := congrArg List.length e; simpa [entOf] using this
    omega⟩
  | h + 1, n, _, _, _, _, hn => by
    have hS : Fine (Sub N 1 h) := ⟨fun c lo hi E P ⟨n, P', _, _, _, hl, _, hf⟩ => by
      obtain ⟨h1, h2, h3⟩ := NF.fine hf
      exact ⟨h1, h2, h3 (.inl hl)⟩⟩
    obtain ⟨h1, h2, h3⟩ := Kids.fine hS hn.2
    exact ⟨h1, h2, fun _ => h3⟩
theorem Sub.fine : Fine (Sub N 1 h) := ⟨fun c lo hi E P ⟨n, P', _, _, _, hl, _, hf⟩ => by
  obtain ⟨h1, h2, h3⟩ := NF.fine hf
  exact ⟨h1, h2, h3 (.inl hl)⟩⟩
theorem NF.congr : ∀ {h : Nat} {n : Nd} {lo hi : Option Ky} {E : En} {P : List Nat}, NF N h n lo hi E P → (∀ p ∈ P, N' p = N p) → NF N' h n lo hi E P
  | 0, _, _, _, _, _, hn, _ => hn
  | h + 1, n, _, _, _, P, hn, hN => by
    refine ⟨hn.1, Kids.mono (P := P) (fun c lo hi E P' hP => ?_) (fun p hp => hp) hn.2⟩
    rintro ⟨n, P'', h1, h2, h3, h4, rfl, h6⟩
    exact ⟨n, P'', by rw [hN c (hP c (List.mem_cons_self ..))]; exact h1, h2, h3, h4, rfl, NF.congr h6 (fun p hp => hN p (hP p (List.mem_cons_of_mem _ hp)))⟩
theorem Sub.congr (hs : Sub N m h at_ lo hi E P) (hN : ∀ p ∈ P, N' p = N p) : Sub N' m h at_ lo hi E P := by
  obtain ⟨n, P', h1, h2, h3, h4, rfl, h6⟩ := hs
  exact ⟨n, P', by rw [hN at_ (List.mem_cons_self ..)]; exact h1, h2, h3, h4, rfl, h6.congr (fun p hp => hN p (List.mem_cons_of_mem _ hp))⟩
theorem Sub.mono {m' : Nat} (hs : Sub N m h at_ lo hi E P) (hm : m' ≤ m) : Sub N m' h at_ lo hi E P := by
  obtain ⟨n, P', h1, h2, h3, h4, h5⟩ := hs
  exact ⟨n, P', h1, h2, h3, by omega, h5⟩
theorem Sub.head (hs : Sub N m h at_ lo hi E P) : at_ ∈ P := by obtain ⟨n, P', _, _, _, _, rfl, _⟩ := hs; exact List.mem_cons_self ..
theorem NF.kind (hn : NF N h n lo hi E P) : n.lf = decide (h = 0) := by
  cases h with
  | zero => exact hn.1
  | succ h => rw [hn.1]; rfl
theorem Kids.count {S : SubT} {q : Nat} (hS : ∀ c lo hi E P, S c lo hi E P → P.length + 1 ≤ 2 * E.length ∧ q ≤ E.length) {hi : Option Ky} : ∀ {l : List It} {lo : Option Ky} {c : Nat} {E : En} {P : List Nat}, Kids S lo c l hi E P → P.length + l.length + 1 ≤ 2 * E.length ∧ q * (l.length + 1) ≤ E.length
  | [], _, _, _, _, hk => by have := hS _ _ _ _ _ hk; simpa using this
  | x :: l, _, _, _, _, ⟨E1, P1, E2, P2, h1, h2, rfl, rfl⟩ => by
    have a := hS _ _ _ _ _ h1
    have b := Kids.count hS h2
    rw [List.length_append, List.length_append, List.length_cons, Nat.mul_succ]
    omega
theorem NF.count : ∀ {h : Nat} {n : Nd} {lo hi : Option Ky} {E : En} {P : List Nat}, NF N h n lo hi E P → 1 ≤ n.l.length → P.length + 2 ≤ 2 * E.length ∧ 2 ^ h ≤ E.length
  | 0, n, _, _, _, _, ⟨_, rfl, rfl, _, _⟩, hl => by
    have e : (entOf n.l).length = n.l.length := by simp [entOf]
    rw [e]; simp; omega
  | h + 1, n, _, _, _, _, hn, hl => by
    have hS : ∀ c lo hi E P, Sub N 1 h c lo hi E P → P.length + 1 ≤ 2 * E.length ∧ 2 ^ h ≤ E.length := by
      rintro c lo hi E P ⟨n, P', _, _, _, hl, rfl, hf⟩
      have := NF.count hf hl
      rw [List.length_cons]
      omega
    have hk := Kids.count hS hn.2
    have h2 : 2 ^ h * 2 ≤ 2 ^ h * (n.l.length + 1) := Nat.mul_le_mul_left _ (by omega)
    rw [Nat.pow_succ]
    omega
theorem Sub.count (hs : Sub N 1 h at_ lo hi E P) : P.length + 1 ≤ 2 * E.length ∧ 2 ^ h ≤ E.length := by
  obtain ⟨n, P', _, _, _, hl, rfl, hf⟩ := hs
  have := NF.count hf hl
  rw [List.length_cons]
  omega
end
theorem KidsL.count {S : SubT} (hS : ∀ c lo hi E P, S c lo hi E P → P.length + 1 ≤ 2 * E.length) : ∀ {A : List It} {lo : Option Ky} {c : Nat} {E : En} {P : List Nat}, KidsL S lo c A E P → P.length + A.length ≤ 2 * E.length
  | [], _, _, _, _, h => by
    obtain ⟨rfl, rfl⟩ := h
    simp
  | x :: l, _, _, _, _, h => by
    obtain ⟨E1, P1, E2, P2, h1, h2, rfl, rfl⟩ := h
    have a := hS _ _ _ _ _ h1
    have b := KidsL.count hS h2
    rw [List.length_append, List.length_append, List.length_cons]
    omega
theorem KidsR.count {S : SubT} (hS : ∀ c lo hi E P, S c lo hi E P → P.length + 1 ≤ 2 * E.length) {B : List It} {hi : Option Ky} {E : En} {P : List Nat} (h : KidsR S B hi E P) : P.length + B.length ≤ 2 * E.length := by
  cases B with
  | nil =>
    obtain ⟨rfl, rfl⟩ := h
    simp
  | cons x B =>
    have := (Kids.count (q := 0) (fun c lo hi E P h => ⟨hS c lo hi E P h, Nat.zero_le _⟩) (show Kids S (some x.key) x.at_ B hi E P from h)).1
    rw [List.length_cons]
    omega
def halfGo (lf : Bool) (lim : Nat) : List It → Nat → Nat → Nat
  | x :: y :: l, k, s => if 2 * s < lim then halfGo lf lim (y :: l) (k + 1) (s + ibn lf x) else k
  | _, k, _ => k
def Nd.half (n : Nd) : Nat := max (halfGo n.lf (n.size - 3) n.l 0 0) 1
def Nd.cutAt (n : Nd) : Nat := if n.lf then n.half else min n.half (n.l.length - 2)
def Nd.left (n : Nd) : Nd := ⟨n.lf, n.first, n.l.take n.cutAt⟩
def Nd.key (n : Nd) : Ky := ((n.l[n.cutAt]?).map (·.key)).getD []
def Nd.right (n : Nd) : Nd := if n.lf then ⟨true, 0, n.l.drop n.cutAt⟩ else ⟨false, ((n.l[n.cutAt]?).map (·.at_)).getD 0, n.l.drop (n.cutAt + 1)⟩
def sumB (lf : Bool) (l : List It) : Nat := (l.map (ibn lf)).sum
theorem sumB_cons (lf : Bool) (x : It) (l : List It) : sumB lf (x :: l) = ibn lf x + sumB lf l := rfl
theorem sumB_append (lf : Bool) (a b : List It) : sumB lf (a ++ b) = sumB lf a + sumB lf b := by unfold sumB; rw [List.map_append, List.sum_append]
theorem size_eq (n : Nd) : n.size = (if n.lf then 3 else 5) + sumB n.lf n.l := rfl
theorem halfGo_spec (lf : Bool) (lim : Nat) : ∀ (l : List It) (k s : Nat), ∃ j, halfGo lf lim l k s = k + j ∧ (j ≤ l.length - 1) ∧ (j = 0 ∨ ∃ x, l[j - 1]? = some x ∧ 2 * (s + sumB lf (l.take (j - 1))) < lim ∧ sumB lf (l.take j) = sumB lf (l.take (j - 1)) + ibn lf x) ∧ (j = l.length - 1 ∨ lim ≤ 2 * (s + sumB lf (l.take j)))
  | [], k, s => ⟨0, rfl, by simp, .inl rfl, .inl rfl⟩
  | [x], k, s => ⟨0, rfl, by simp, .inl rfl, .inl rfl⟩
  | x :: y :: l, k, s => by
    unfold halfGo
    by_cases hs : 2 * s < lim
    · rw [if_pos hs]
      obtain ⟨j, h1, h2, h3, h4⟩ := halfGo_spec lf lim (y :: l) (k + 1) (s + ibn lf x)
      have h1' : halfGo lf lim (y :: l) (k + 1) (s + ibn lf x) = k + (j + 1) := by rw [h1]; clear h3; omega
      have h2' : j + 1 ≤ (x :: y :: l).length - 1 := by clear h3 h4; simp only [List.length_cons] at h2 ⊢; omega
      refine ⟨j + 1, h1', h2', .inr ?_, ?_⟩
      · rcases h3 with rfl | ⟨z, g1, g2, g3⟩
        · exact ⟨x, rfl, by simpa [sumB] using hs, by simp [sumB]⟩
        · obtain ⟨i, rfl⟩ : ∃ i, j = i + 1 := by
            rcases j with _ | j
            · exfalso
              simp [sumB] at g3
              unfold ibn at g3
              split at g3 <;> omega
            · exact ⟨j, rfl⟩
          simp only [Nat.add_sub_cancel] at g1 g2 g3 ⊢
          rw [List.take_succ_cons, sumB_cons] at g3
          refine ⟨z, by simpa using g1, ?_, ?_⟩
          · rw [List.take_succ_cons, sumB_cons]; omega
          · rw [List.take_succ_cons, List.take_succ_cons, sumB_cons, sumB_cons, List.take_succ_cons, sumB_cons]; omega
      · clear h3
        rcases h4 with h4 | h4
        · left; simp only [List.length_cons] at h4 ⊢; omega
        · right; rw [List.take_succ_cons, sumB_cons]; omega
    · rw [if_neg hs]
      exact ⟨0, rfl, by simp, .inl rfl, .inr (by simp [sumB]; omega)⟩
theorem sumB_le {lf : Bool} {l : List It} {q : Nat} (h : ∀ x ∈ l, ibn lf x ≤ q) : sumB lf l ≤ q * l.length := by
  induction l with
  | nil => simp [sumB]
  | cons y l ih =>
    have := ih (fun x hx => h x (List.mem_cons_of_mem _ hx))
    have := h y (List.mem_cons_self ..)
    rw [sumB_cons, List.length_cons, Nat.mul_succ]
    omega
theorem ibn_le {lf : Bool} {x : It} (h : x.ok lf) : ibn lf x ≤ if lf then 162 else 99 := by
  have := h.k2; have := h.v
  unfold ibn
  split <;> omega
theorem sumB_take (lf : Bool) (l : List It) (k : Nat) : sumB lf (l.take k) + sumB lf (l.drop k) = sumB lf l := by rw [← sumB_append, List.take_append_drop]
theorem sumB_drop {lf : Bool} {l : List It} {k : Nat} {x : It} (hx : l[k]? = some x) : sumB lf (l.drop k) = ibn lf x + sumB lf (l.drop (k + 1)) := by
  obtain ⟨h1, h2⟩ := List.getElem?_eq_some_iff.1 hx
  rw [List.drop_eq_getElem_cons h1, h2, sumB_cons]
theorem Nd.split_ok {n : Nd} (h : n.ok) (hbig : 512 < n.size) (hs : n.size ≤ if n.lf then 680 else 780) :
    n.cutAt < n.l.length ∧ 1 ≤ n.cutAt ∧ n.left.size ≤ 512 ∧ n.right.size ≤ 512 ∧ 1 ≤ n.left.l.length ∧ 1 ≤ n.right.l.length ∧ n.left.ok ∧ n.right.ok := by
  obtain ⟨lf, first, l⟩ := n
  obtain ⟨h1, h2, h3, h4⟩ := h
  simp only at h1 h2 h3 h4
  have hq : ∀ x ∈ l, ibn lf x ≤ if lf then 162 else 99 := fun x hx => ibn_le (h2 x hx)
  have hsz : Nd.size ⟨lf, first, l⟩ = (if lf then 3 else 5) + sumB lf l := rfl
  have hT := sumB_le hq
  obtain ⟨j, e1, e2, e3, e4⟩ := halfGo_spec lf (Nd.size ⟨lf, first, l⟩ - 3) l 0 0
  rw [Nat.zero_add] at e1
  have hhalf : Nd.half ⟨lf, first, l⟩ = max j 1 := by unfold Nd.half; simp only; rw [e1]
  rw [hsz] at hbig hs e3 e4
  simp only [Nat.zero_add] at e3 e4
  have hj : 1 ≤ j := by
    clear e3
    rcases e4 with e4 | e4
    · cases lf <;> simp only [if_true, if_false, Bool.false_eq_true] at hbig hT ⊢ <;> omega
    · rcases Nat.eq_zero_or_pos j with rfl | hj
      · exfalso
        simp only [List.take_zero] at e4
        have : sumB lf ([] : List It) = 0 := rfl
        cases lf <;> simp only [if_true, if_false, Bool.false_eq_true] at hbig e4 <;> omega
      · exact hj
  have hmax : max j 1 = j := by clear e3; omega
  rw [hmax] at hhalf
  have e3' : ∃ x, l[j - 1]? = some x ∧ 2 * sumB lf (l.take (j - 1)) < (if lf then 3 else 5) + sumB lf l - 3 ∧ sumB lf (l.take j) = sumB lf (l.take (j - 1)) + ibn lf x := by
    rcases e3 with e3 | e3
    · omega
    · exact e3
  clear e3
  obtain ⟨x, x1, x2, x3⟩ := e3'
  have hx := hq x (List.mem_of_getElem? x1)
  cases lf with
  | true =>
    simp only [if_true] at hbig hs hT e4 x2 hx hq
    have hc : Nd.cutAt ⟨true, first, l⟩ = j := by unfold Nd.cutAt; simp only [if_true]; exact hhalf
    have ht := sumB_take true l j
    have hjl : j < l.length := by omega
    have hR : sumB true (l.drop j) ≤ 400 := by
      rcases e4 with e4 | e4
      · have hd := sumB_le (l := l.drop j) (fun y hy => hq y (List.mem_of_mem_drop hy))
        rw [List.length_drop] at hd
        have : l.length - j = 1 := by omega
        rw [this] at hd
        omega
      · omega
    refine ⟨by rw [hc]; exact hjl, by rw [hc]; exact hj, ?_, ?_, ?_, ?_, ⟨?_, ?_, h3, h4⟩, ⟨?_, ?_, ?_, ?_⟩⟩
    · show (if true then 3 else 5) + sumB true (l.take (Nd.cutAt ⟨true, first, l⟩)) ≤ 512
      rw [hc, if_pos rfl]; omega
    · show (if true then 3 else 5) + sumB true (l.drop (Nd.cutAt ⟨true, first, l⟩)) ≤ 512
      rw [hc, if_pos rfl]; omega
    · show 1 ≤ (l.take (Nd.cutAt ⟨true, first, l⟩)).length
      rw [hc, List.length_take]; omega
    · show 1 ≤ (l.drop (Nd.cutAt ⟨true, first, l⟩)).length
      rw [hc, List.length_drop]; omega
    · show (l.take (Nd.cutAt ⟨true, first, l⟩)).length < 65536
      rw [hc, List.length_take]; omega
    · exact fun y hy => h2 y (List.mem_of_mem_take hy)
    · show (l.drop (Nd.cutAt ⟨true, first, l⟩)).length < 65536
      rw [hc, List.length_drop]; omega
    · exact fun y hy => h2 y (List.mem_of_mem_drop hy)
    · exact Nat.zero_lt_succ _
    · exact fun _ => rfl
  | false =>
    simp only [if_false, Bool.false_eq_true] at hbig hs hT e4 x2 hx hq
    have hlen : 4 ≤ l.length := by omega
    have hc : Nd.cutAt ⟨false, first, l⟩ = min j (l.length - 2) := by unfold Nd.cutAt; simp only [if_false, Bool.false_eq_true]; rw [hhalf]
    obtain ⟨k, hk⟩ : ∃ k, k = min j (l.length - 2) := ⟨_, rfl⟩
    rw [← hk] at hc
    have ht := sumB_take false l k
    have hkl : k < l.length := by omega
    obtain ⟨y, hy⟩ : ∃ y, l[k]? = some y := ⟨_, List.getElem?_eq_getElem hkl⟩
    have hd := sumB_drop (lf := false) hy
    have hkj : sumB false (l.take k) ≤ sumB false (l.take j) := by
      have e : l.take k = (l.take j).take k := by rw [List.take_take, Nat.min_eq_left (by omega)]
      rw [e]
      have := sumB_take false (l.take j) k
      omega
    have hR : sumB false (l.drop (k + 1)) ≤ 450 := by
      rcases e4 with e4 | e4
      · have hd := sumB_le (l := l.drop (k + 1)) (fun y hy => hq y (List.mem_of_mem_drop hy))
        rw [List.length_drop] at hd
        have : l.length - (k + 1) = 1 := by omega
        rw [this] at hd
        omega
      · by_cases hjk : k = j
        · rw [hjk] at ht hd ⊢; omega
        · have hd := sumB_le (l := l.drop (k + 1)) (fun y hy => hq y (List.mem_of_mem_drop hy))
          rw [List.length_drop] at hd
          have : l.length - (k + 1) = 1 := by omega
          rw [this] at hd
          omega
    refine ⟨by rw [hc]; exact hkl, by rw [hc]; omega, ?_, ?_, ?_, ?_, ⟨?_, ?_, h3, h4⟩, ⟨?_, ?_, ?_, ?_⟩⟩
    · show (if false = true then 3 else 5) + sumB false (l.take (Nd.cutAt ⟨false, first, l⟩)) ≤ 512
      rw [hc, if_neg (by decide)]; omega
    · show (if false = true then 3 else 5) + sumB false (l.drop (Nd.cutAt ⟨false, first, l⟩ + 1)) ≤ 512
      rw [hc, if_neg (by decide)]; omega
    · show 1 ≤ (l.take (Nd.cutAt ⟨false, first, l⟩)).length
      rw [hc, List.length_take]; omega
    · show 1 ≤ (l.drop (Nd.cutAt ⟨false, first, l⟩ + 1)).length
      rw [hc, List.length_drop]; omega
    · show (l.take (Nd.cutAt ⟨false, first, l⟩)).length < 65536
      rw [hc, List.length_take]; omega
    · exact fun y hy => h2 y (List.mem_of_mem_take hy)
    · show (l.drop (Nd.cutAt ⟨false, first, l⟩ + 1)).length < 65536
      rw [hc, List.length_drop]; omega
    · exact fun y hy => h2 y (List.mem_of_mem_drop hy)
    · show ((l[Nd.cutAt ⟨false, first, l⟩]?).map (·.at_)).getD 0 < 65536
      rw [hc, hy]; exact (h2 y (List.mem_of_getElem? hy)).at_
    · intro h; cases h
def Nd.with_ (n : Nd) (key : Ky) (r : Nd) : Nd := ⟨n.lf, n.first, (if n.lf then n.l else n.l ++ [⟨key, [], r.first⟩]) ++ r.l⟩
section
variable {N : Nat → Option Nd} {h : Nat} {n a b : Nd} {lo hi : Option Ky} {E E1 E2 : En} {P P1 P2 : List Nat} {k : Ky}
theorem entOf_append (a b : List It) : entOf (a ++ b) = entOf a ++ entOf b := by unfold entOf; rw [List.map_append]
theorem NF.split (hn : NF N h n lo hi E P) (hc : n.cutAt < n.l.length) (h1 : 1 ≤ n.cutAt) : ∃ E1 P1 E2 P2, NF N h n.left lo (some n.key) E1 P1 ∧ NF N h n.right (some n.key) hi E2 P2 ∧ E = E1 ++ E2 ∧ P = P1 ++ P2 ∧ ltHi hi n.key ∧ geLo lo n.key := by
  obtain ⟨lf, first, l⟩ := n
  obtain ⟨x, hx⟩ : ∃ x, l[Nd.cutAt ⟨lf, first, l⟩]? = some x := ⟨_, List.getElem?_eq_getElem hc⟩
  have hk : Nd.key ⟨lf, first, l⟩ = x.key := by unfold Nd.key; rw [hx]; rfl
  have hd : l.drop (Nd.cutAt ⟨lf, first, l⟩) = x :: l.drop (Nd.cutAt ⟨lf, first, l⟩ + 1) := by
    obtain ⟨g1, g2⟩ := List.getElem?_eq_some_iff.1 hx
    rw [List.drop_eq_getElem_cons g1, g2]
  have hl : l = l.take (Nd.cutAt ⟨lf, first, l⟩) ++ x :: l.drop (Nd.cutAt ⟨lf, first, l⟩ + 1) := by rw [← hd, List.take_append_drop]
  rw [hk]
  cases h with
  | zero =>
    obtain ⟨hlf, hE, hP, hr, hw⟩ := hn
    simp only at hlf hE
    subst hlf
    obtain ⟨j, hj⟩ : ∃ j, j = Nd.cutAt ⟨true, first, l⟩ := ⟨_, rfl⟩
    rw [← hj] at hx hd hl h1
    have eL : Nd.left ⟨true, first, l⟩ = ⟨true, first, l.take j⟩ := by unfold Nd.left; rw [← hj]
    have eR : Nd.right ⟨true, first, l⟩ = ⟨true, 0, l.drop j⟩ := by unfold Nd.right; simp only [if_true]; rw [← hj]
    rw [eL, eR]
    have hEE : E = entOf (l.take j) ++ entOf (l.drop j) := by rw [hE, ← entOf_append, List.take_append_drop]
    have hr' := hr
    rw [hEE] at hr'
    obtain ⟨r1, r2, r3⟩ := List.pairwise_append.1 hr'
    have hxm : (x.key, x.v) ∈ entOf (l.drop j) := by rw [hd]; exact List.mem_cons_self ..
    have hxE : (x.key, x.v) ∈ E := by rw [hEE]; exact List.mem_append_right _ hxm
    refine ⟨entOf (l.take j), [], entOf (l.drop j), [], ⟨rfl, rfl, rfl, r1, fun e he => ⟨(hw e (by rw [hEE]; exact List.mem_append_left _ he)).1, fun b hb => ?_⟩⟩, ⟨rfl, rfl, rfl, r2, fun e he => ⟨fun a ha => ?_, (hw e (by rw [hEE]; exact List.mem_append_right _ he)).2⟩⟩, hEE, hP, (hw _ hxE).2, (hw _ hxE).1⟩
    · injection hb with hb
      rw [← hb]
      exact r3 e he _ hxm
    · injection ha with ha
      rw [← ha]
      rw [hd] at he r2
      rcases List.mem_cons.1 he with rfl | he
      · exact klt_irrefl _
      · exact klt_asymm ((List.pairwise_cons.1 r2).1 e he)
  | succ h =>
    obtain ⟨hlf, hK⟩ := hn
    simp only at hlf hK
    subst hlf
    obtain ⟨j, hj⟩ : ∃ j, j = Nd.cutAt ⟨false, first, l⟩ := ⟨_, rfl⟩
    rw [← hj] at hx hd hl
    have eL : Nd.left ⟨false, first, l⟩ = ⟨false, first, l.take j⟩ := by unfold Nd.left; rw [← hj]
    have eR : Nd.right ⟨false, first, l⟩ = ⟨false, x.at_, l.drop (j + 1)⟩ := by unfold Nd.right; simp only [if_false, Bool.false_eq_true]; rw [← hj, hx]; rfl
    rw [eL, eR]
    have hK' : Kids (Sub N 1 h) lo first (l.take j ++ x :: l.drop (j + 1)) hi E P := by rw [← hl]; exact hK
    obtain ⟨E1, P1, E2, P2, a1, a2, e1, e2⟩ := Kids.cut.1 hK'
    obtain ⟨_, b2, b3⟩ := Kids.fine Sub.fine a1
    obtain ⟨_, c2, c3⟩ := Kids.fine Sub.fine a2
    exact ⟨E1, P1, E2, P2, ⟨rfl, a1⟩, ⟨rfl, a2⟩, e1, e2, c2.midHi c3, b2.mid (_hi := hi) b3⟩
theorem NF.with_ (ha : NF N h a lo (some k) E1 P1) (hb : NF N h b (some k) hi E2 P2) (h1 : ltHi hi k) (h2 : geLo lo k) : NF N h (a.with_ k b) lo hi (E1 ++ E2) (P1 ++ P2) := by
  obtain ⟨lf, first, l⟩ := a
  cases h with
  | zero =>
    obtain ⟨rfl, rfl, rfl, hr, hw⟩ := ha
    obtain ⟨hlf, rfl, rfl, hr2, hw2⟩ := hb
    refine ⟨rfl, ?_, rfl, hr.append hr2 hw hw2, fun e he => ?_⟩
    · show _ = entOf (l ++ b.l)
      rw [entOf_append]
    · rcases List.mem_append.1 he with he | he
      · exact within_hi hw h1 e he
      · exact within_lo hw2 h2 e he
  | succ h =>
    obtain ⟨rfl, hK⟩ := ha
    obtain ⟨hlf, hK2⟩ := hb
    refine ⟨rfl, ?_⟩
    show Kids (Sub N 1 h) lo first ((l ++ [⟨k, [], b.first⟩]) ++ b.l) hi (E1 ++ E2) (P1 ++ P2)
    rw [List.append_assoc]
    exact Kids.cut.2 ⟨E1, P1, E2, P2, hK, hK2, rfl, rfl⟩
theorem with_size (hl : a.lf = b.lf) (k : Ky) : (a.with_ k b).size = if a.lf then a.size + b.size - 3 else a.size + b.size + k.length - 2 := by
  obtain ⟨lf, first, l⟩ := a
  obtain ⟨lf', first', l'⟩ := b
  simp only at hl
  subst hl
  cases lf with
  | true =>
    show 3 + sumB true (l ++ l') = 3 + sumB true l + (3 + sumB true l') - 3
    rw [sumB_append]; omega
  | false =>
    show 5 + sumB false ((l ++ [⟨k, [], first'⟩]) ++ l') = 5 + sumB false l + (5 + sumB false l') + k.length - 2
    rw [sumB_append, sumB_append, sumB_cons]
    show _ + (_ + (3 + k.length + 0) + _) = _
    omega
theorem with_ok (ha : a.ok) (hb : b.ok) (hl : a.lf = b.lf) (hk : 1 ≤ k.length ∧ k.length ≤ 96) (hs : a.l.length + b.l.length < 65535) : (a.with_ k b).ok := by
  obtain ⟨lf, first, l⟩ := a
  obtain ⟨lf', first', l'⟩ := b
  simp only at hl hs
  subst hl
  refine ⟨?_, fun x hx => ?_, ha.first, ha.bare⟩
  · show ((if lf then l else l ++ [⟨k, [], first'⟩]) ++ l').length < 65536
    rw [List.length_append]
    split
    · omega
    · rw [List.length_append]; simp only [List.length_cons, List.length_nil]; omega
  · have hx' : x ∈ (if lf then l else l ++ [⟨k, [], first'⟩]) ++ l' := hx
    show x.ok lf
    rcases List.mem_append.1 hx' with hx' | hx'
    · split at hx'
      · exact ha.item x hx'
      · rename_i hlf
        rcases List.mem_append.1 hx' with hx' | hx'
        · exact ha.item x hx'
        · simp only [List.mem_singleton] at hx'
          subst hx'
          exact ⟨hk.1, hk.2, Nat.zero_le _, hb.first, by rw [if_neg hlf]⟩
    · exact hb.item x hx'
end
end Go.Proofs.YtpjbdpepofnleaaGreat
end
