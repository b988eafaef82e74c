/-
  The contract of pager.Open, on a disk that lives and has nothing pending.
-/
import Derived.Test.YtidpleejgalljaaPe
import Derived.Test.YtidpleejgalljaaJl
namespace Go.Proofs.Ytidpleejgalljaa
open Go.RowKit

theorem collectP_len {st : Stamp} : ∀ (L : List (List UInt8)) (k : Nat) (b : List UInt8), collect st k L = some b → b.length ≤ 48 * L.length
  | [], _, b, h => by injection h with h; subst h; simp
  | s :: L, k, b, h => by
    unfold collect at h
    split at h
    · cases h
    · rename_i q hq
      split at h
      · obtain ⟨c, hc, rfl⟩ := Option.map_eq_some_iff.1 h
        have h1 := collectP_len L (k + 1) c hc
        have h2 := piece_len hq
        simp only [List.length_append, List.length_cons]
        omega
      · cases h
theorem recordOf_len {L : List (List UInt8)} {x : Stamp × List UInt8} (h : recordOf L = some x) : x.2.length ≤ 48 * L.length := by
  unfold recordOf at h
  split at h
  · cases h
  · rename_i s T
    split at h
    · cases h
    · rename_i p hp
      split at h
      · cases h
      · obtain ⟨b, hb, rfl⟩ := Option.map_eq_some_iff.1 h
        have := collectP_len _ _ _ hb
        rw [List.length_take] at this
        show b.length ≤ _
        omega
theorem records_len : ∀ (n : Nat) (last : Option Stamp) (L : List (List UInt8)), ∀ x ∈ recordsOf n last L, x.2.length ≤ 48 * L.length
  | 0, _, _, x, h => by simp [recordsOf] at h
  | n + 1, last, L, x, h => by
    unfold recordsOf at h
    split at h
    · cases h
    · rename_i st b hr
      have h' : x ∈ (st, b) :: recordsOf n (some st) (L.drop st.count) := by
        cases last with
        | none => simpa using h
        | some l =>
          simp only at h
          split at h
          · cases h
          · exact h
      rcases List.mem_cons.1 h' with rfl | h'
      · exact recordOf_len hr
      · have := records_len n _ _ x h'
        rw [List.length_drop] at this
        omega
theorem part_take {D : DM} {log : Nat} (hd : D.dead = false) (hp : D.P = []) (hl : log ≤ D.S.length) : D.part 0 log = D.S.take log := (st_of hd hp).view (by rw [List.length_take]; omega)

def OpRes (w : World) (d n log : Nat) (D : DM) (H : PgM) (fp : List Nat) (e : Ending) (w' : World) : Prop :=
  ∃ g lg bl bh fp', e = .returned (.tuple #[.pointer (some ⟨g, 0, none⟩), .int .i64 0]) ∧ PgrAt w' g d lg bl bh (openP n log D H) fp' ∧ Fr fp w w' ∧ (∀ k ∈ fp', k ∈ fp ∨ w.heap.size ≤ k) ∧ w.heap.size ≤ g ∧ w.heap.size ≤ lg ∧ w.heap.size ≤ bl ∧ w.heap.size ≤ bh
set_option maxRecDepth 100000 in
set_option maxHeartbeats 4000000 in
theorem open_P {w : World} {d n log : Nat} {D : DM} {H : PgM} {fp : List Nat} (hd : DiskAt w d D fp) (hdead : D.dead = false) (hpend : D.P = []) (h1 : 1 ≤ n) (h2 : n ≤ 4096) (h3 : 1 ≤ log) (hfit : log + 8 * n ≤ D.S.length) (hnew : (newestOf (D.S.take log)).1 < 4294967295) (ht : takeAll n ((recordsOf log none (D.S.take log)).map (·.2)) [] = some H) :
    Calls Try.prog 11 #[.pointer (some ⟨d, 0, none⟩), .int .i64 (n : Int), .int .i64 (log : Int)] w (OpRes w d n log D H fp) := by
  refine calls_post fun R HQ => ?_
  have hpart := part_take hdead hpend (by omega : log ≤ D.S.length)
  have hmost := (DiskAt.ok hd).most
  have hlo : openL D 0 log = logOf log (D.S.take log) := by unfold openL openR logOf; rw [hpart]; rfl
  have HLO := Lib.hid (openL_ok (D := D) (f := 0) (n := log) (by omega) (by rw [hpart]; exact hnew))
  rw [hlo] at HLO
  have HJ := Lib.hid (open_ok (f := 0) hd hdead h3 (by omega) (by rw [hpart]; exact hnew))
  rw [hpart] at HJ
  have HD := Lib.hid hd; have HDE := Lib.hid (dead_at hd); have HSZ := Lib.hid (size_at hd); have HT := Lib.hid ht
  have hrl : ∀ x ∈ (recordsOf log none (D.S.take log)).map (·.2), x.length ≤ 4194304 := fun x hx => by
    obtain ⟨y, hy, rfl⟩ := List.mem_map.1 hx
    have := records_len _ _ _ y hy
    rw [List.length_take] at this
    omega
  have HRL := Lib.hid hrl
  rw [hdead] at HDE
  have y1 : IntKind.i64.wrap (8 * (n : Int)) = 8 * (n : Int) := by rw [IntKind.wrap_i64]; omega
  have y2 : IntKind.i64.wrap ((D.S.length : Int) - 8 * (n : Int)) = (D.S.length : Int) - 8 * (n : Int) := by rw [IntKind.wrap_i64]; omega
  clear hd hdead hpend ht hrl hpart hnew hlo
  have hmm := @run_makeMap Try.prog
  have e1 : decide ((n : Int) < 1) = false := by simp; omega
  have e2 : decide ((4096 : Int) < (n : Int)) = false := by simp; omega
  have e3 : decide ((log : Int) < 1) = false := by simp; omega
  have e4 : decide ((D.S.length : Int) - 8 * (n : Int) < (log : Int)) = false := by simp; omega
  go_enter Try.func11, Try.ntmps11
  go_wp2_with fail
  refine HDE.out.mono ?_
  rintro e w' ⟨rfl, rfl⟩
  go_wp2_with fail
  refine HSZ.out.mono ?_
  rintro e w' ⟨rfl, rfl⟩
  go_wp2_with fail
  refine HJ.out.mono ?_
  rintro e w2 ⟨out, rfl, ⟨vs, hrows⟩, hlog, hf2⟩
  obtain ⟨oA, oc, rfl, hoc, hmx⟩ := own_shape hrows.own
  unfold maxLen at hmx
  have hd2 := HD.out.fr hf2 (by simp)
  have hlo2 := hlog.lt
  have hz2 := hf2.size
  have HROWS := Lib.hid hrows; have HLOG := Lib.hid hlog; have HF2 := Lib.hid hf2; have HD2 := Lib.hid hd2
  obtain ⟨rows, hrw⟩ : ∃ rows, rows = (recordsOf log none (D.S.take log)).map (·.2) := ⟨_, rfl⟩
  rw [← hrw] at HROWS HT HRL hoc ⊢
  clear hrows hlog hf2 hd2 HJ hrw
  go_wp2_with fail
  have hfw : Fr [] w2 (((w2.alloc (.map #[] 0)).alloc (.map #[] 0)).alloc (.cells (pgCells d w.heap.size w2.heap.size (w2.heap.size + 1) (openP n log D [])).toArray 63)) := (((Fr.refl [] w2).alloc _).alloc _).alloc _
  have hm1 : MapAt (((w2.alloc (.map #[] 0)).alloc (.map #[] 0)).alloc (.cells (pgCells d w.heap.size w2.heap.size (w2.heap.size + 1) (openP n log D [])).toArray 63)) w2.heap.size [] :=
    (MapAt.new w2).fr (((Fr.refl [] _).alloc _).alloc _) (by simp)
  have hm2 : MapAt (((w2.alloc (.map #[] 0)).alloc (.map #[] 0)).alloc (.cells (pgCells d w.heap.size w2.heap.size (w2.heap.size + 1) (openP n log D [])).toArray 63)) (w2.heap.size + 1) [] := by
    have := (MapAt.new (w2.alloc (.map #[] 0))).fr ((Fr.refl [] _).alloc (.cells (pgCells d w.heap.size w2.heap.size (w2.heap.size + 1) (openP n log D [])).toArray 63)) (by simp)
    rwa [World.size_alloc] at this
  have hb1 : Blk (((w2.alloc (.map #[] 0)).alloc (.map #[] 0)).alloc (.cells (pgCells d w.heap.size w2.heap.size (w2.heap.size + 1) (openP n log D [])).toArray 63)) (w2.heap.size + 1 + 1) 63 (pgCells d w.heap.size w2.heap.size (w2.heap.size + 1) (openP n log D [])) := by
    have := Blk.new ((w2.alloc (.map #[] 0)).alloc (.map #[] 0)) 63 (pgCells d w.heap.size w2.heap.size (w2.heap.size + 1) (openP n log D []))
    rwa [World.size_alloc, World.size_alloc] at this
  have hz3 : (((w2.alloc (.map #[] 0)).alloc (.map #[] 0)).alloc (.cells (pgCells d w.heap.size w2.heap.size (w2.heap.size + 1) (openP n log D [])).toArray 63)).heap.size = w2.heap.size + 1 + 1 + 1 := by simp
  show Code.wp _ _ _ _ (((w2.alloc (.map #[] 0)).alloc (.map #[] 0)).alloc (.cells (pgCells d w.heap.size w2.heap.size (w2.heap.size + 1) (openP n log D [])).toArray 63))
  generalize ((w2.alloc (.map #[] 0)).alloc (.map #[] 0)).alloc (.cells (pgCells d w.heap.size w2.heap.size (w2.heap.size + 1) (openP n log D [])).toArray 63) = w3 at *
  have hdl := HD2.out.lt
  have hdlt := HD.out.lt
  have hP3 : PgrAt w3 (w2.heap.size + 1 + 1) d w.heap.size w2.heap.size (w2.heap.size + 1) (openP n log D []) fp :=
    ⟨hb1, ⟨HLOG.out.fr hfw (by simp), HD2.out.fr hfw (by simp), fun hm => by have := hdlt _ hm; omega, HLO.out.at_, HLO.out.fit, HLO.out.num, HLO.out.ses⟩, hm1, hm2, by omega, fun hm => by have := hdl _ hm; omega, fun hm => by have := hdl _ hm; omega, fun hm => by have := hdl _ hm; omega, PgOk.nil _, PgOk.nil _, h2⟩
  have hR3 := HROWS.out.fr hfw (by simp)
  have HP3 := Lib.hid hP3; have HFW := Lib.hid hfw
  have hrout : ∀ x ∈ pfp (w2.heap.size + 1 + 1) w.heap.size w2.heap.size (w2.heap.size + 1) fp, x < w.heap.size + 1 ∨ w2.heap.size ≤ x := fun x hx => by
    simp only [pfp, List.mem_cons] at hx
    rcases hx with rfl | rfl | rfl | rfl | hx
    · omega
    · omega
    · omega
    · omega
    · have := hdlt _ hx; omega
  have HRO := Lib.hid hrout
  clear hfw hm1 hm2 hb1 hP3 hR3 hdl hrout
  go_wp2_with fail
  go_loopw [58] (fun v58 wr => ∃ (k : Nat) (Hk : PgM), k ≤ rows.length ∧ v58 = .int .i64 (k : Int) ∧ takeAll n (rows.drop k) Hk = some H ∧ PStep w3 wr (w2.heap.size + 1 + 1) d w.heap.size w2.heap.size (w2.heap.size + 1) (openP n log D Hk) fp) (fun v _ => rows.length - (intOf v).toNat)
  case atStart => exact ⟨0, [], Nat.zero_le _, rfl, HT.out, PStep.same HP3.out⟩
  case round =>
    obtain ⟨k, Hk, hk, rfl, htk, fpk, hAk, hfk, hnk⟩ := hrel
    have HAK := Lib.hid hAk; have HFK := Lib.hid hfk; have HNK := Lib.hid hnk; have HTK := Lib.hid htk
    clear hAk hfk hnk htk
    by_cases hkn : k < rows.length
    · have hf2k : Fr (pfp (w2.heap.size + 1 + 1) w.heap.size w2.heap.size (w2.heap.size + 1) fp) w2 wr := (HFW.out.mono (by simp)).trans HFK.out (fun x hx => .inl hx)
      have hRk := HROWS.out.fr hf2k HRO.out
      obtain ⟨ga, hga, hcell⟩ := own_cell hRk.own (by omega)
      obtain ⟨u, hu⟩ : ∃ u, vs[k]? = some u := ⟨_, List.getElem?_eq_getElem (by rw [hRk.len]; exact hkn)⟩
      obtain ⟨bs, hbs⟩ : ∃ bs, rows[k]? = some bs := ⟨_, List.getElem?_eq_getElem hkn⟩
      obtain ⟨gb, hby, hgb, hgbl, _⟩ := HROWS.out.row k u bs hu hbs
      have hby' := hby.fr hf2k (fun hm => by have := HRO.out gb hm; omega)
      obtain ⟨uA, uc, uo, rfl, _⟩ := id hby
      have cu := hcell k _ hu
      obtain ⟨H1, hH1, hH2⟩ : ∃ H1, takeP n bs Hk = some H1 ∧ takeAll n (rows.drop (k + 1)) H1 = some H := by
        have h := HTK.out
        obtain ⟨h3, h4⟩ := List.getElem?_eq_some_iff.1 hbs
        rw [List.drop_eq_getElem_cons h3, h4] at h
        unfold takeAll at h
        cases hq : takeP n bs Hk with
        | none => rw [hq] at h; cases h
        | some H1 => rw [hq] at h; exact ⟨H1, rfl, h⟩
      have HRP := Lib.hid (replay_P HAK.out hby' (by omega) (HRL.out bs (List.mem_of_getElem? hbs)) hH1)
      have HH2 := Lib.hid hH2
      obtain ⟨rl, hrl⟩ : ∃ rl, rl = rows.length := ⟨_, rfl⟩
      subst hga
      clear hf2k hRk hcell hu hby hgb hgbl hby' hH1 hH2 hrl
      go_wp2_with fail
      refine HRP.out.mono ?_
      rintro e w5 ⟨rfl, hs5⟩
      have HX : Hid (PStep w3 w5 (w2.heap.size + 1 + 1) d w.heap.size w2.heap.size (w2.heap.size + 1) (openP n log D H1) fp) := Lib.hid (PStep.comp HFK.out HNK.out hs5)
      clear hs5 cu
      go_wp2_with fail
      go_roundw
      case rel => exact ⟨k + 1, H1, by omega, by go_num, HH2.out, HX.out⟩
      case measure => simp [intOf]; omega
    · obtain rfl : k = rows.length := by omega
      have hH : Hk = H := by
        have := HTK.out
        rw [List.drop_of_length_le (Nat.le_refl _)] at this
        injection this
      subst hH
      have HX : Hid (OpRes w d n log D Hk fp (.returned (.tuple #[.pointer (some ⟨w2.heap.size + 1 + 1, 0, none⟩), .int .i64 0])) wr) := Lib.hid (by
        have hfw2 : Fr [] w w3 := HF2.out.trans HFW.out (by simp)
        refine ⟨_, _, _, _, fpk, rfl, HAK.out, (hfw2.mono (T := fp) (by simp)).trans HFK.out (fun x hx => ?_), fun x hx => ?_, by omega, Nat.le_refl _, by omega, by omega⟩
        · simp only [pfp, List.mem_cons] at hx
          rcases hx with rfl | rfl | rfl | rfl | hx
          · exact .inr (by omega)
          · exact .inr (by omega)
          · exact .inr (by omega)
          · exact .inr (by omega)
          · exact .inl hx
        · rcases HNK.out x hx with h | h
          · exact .inl h
          · exact .inr (by have := hfw2.size; omega))
      go_wp2_with fail
      exact HQ.out _ _ HX.out

end Go.Proofs.Ytidpleejgalljaa
