/-
  The walk of PagerCheck: for all inputs it answers true and leaves old memory alone.
-/
import Derived.Test.YtidpleejgalljaaRnd
import Derived.Test.YtidpleejgalljaaRpl
import Derived.Test.YtidpleejgalljaaBits
import Derived.Stop.BytesEq
namespace Go.Proofs.Ytidpleejgalljaa
open Go.RowKit

/-- z & 3. -/
def m3 (z : Int) : Nat := (bits .and .i64 z 3).toNat
theorem m3_spec (z : Int) : m3 z < 4 ∧ bits .and .i64 z 3 = (m3 z : Int) := by
  obtain ⟨m, hm, e⟩ := and_mask z 3 (by omega)
  have e' : bits .and .i64 z 3 = (m : Int) := e
  have : m3 z = m := by unfold m3; rw [e']; exact Int.toNat_natCast m
  rw [this]
  exact ⟨by omega, e'⟩
/-- A round's writes. -/
def prs (o : RndA) : List (Nat × UInt8) := (o.zs.zip o.bs).map fun p => (m3 p.1, p.2)
theorem prs_len (o : RndA) : (prs o).length = min o.zs.length o.bs.length := by unfold prs; rw [List.length_map, List.length_zip]
theorem prs_lt (o : RndA) : ∀ p ∈ prs o, p.1 < 4 := by
  intro p hp
  obtain ⟨q, _, rfl⟩ := List.mem_map.1 hp
  exact (m3_spec q.1).1
theorem prs_take {o : RndA} {k : Nat} {z : Int} {b : UInt8} (hz : o.zs[k]? = some z) (hb : o.bs[k]? = some b) : (prs o).take (k + 1) = (prs o).take k ++ [(m3 z, b)] := by
  have hg : (prs o)[k]? = some (m3 z, b) := by
    unfold prs
    have h : (o.zs.zip o.bs)[k]? = some (z, b) := List.getElem?_zip_eq_some.2 ⟨hz, hb⟩
    rw [List.getElem?_map, h]
    rfl
  obtain ⟨h1, h2⟩ := List.getElem?_eq_some_iff.1 hg
  rw [List.take_succ_eq_append_getElem h1, h2]
theorem enter_filled (vs : Array Value) (w : World) : (callFunc 15 vs).run Try.prog w = .ok (.enter 15 vs) w := by kernel_rfl
theorem enter_pwrite (vs : Array Value) (w : World) : (callFunc 14 vs).run Try.prog w = .ok (.enter 14 vs) w := by kernel_rfl
theorem zero_4 (f : Nat → UInt8) : (Try.prog.info? 42).map (·.zero) = some (some (.agg (outF f 0).toArray)) := by kernel_rfl
theorem size_4 : (Try.prog.info? 42).map (·.size) = some 4 := by kernel_rfl
theorem outF_len (f : Nat → UInt8) (i : Nat) : (outF f i).length = 4 := by simp [outF]
theorem outF_one (f : Nat → UInt8) (i : Nat) : ∀ v ∈ outF f i, v.oneCell' = true := by
  intro u hu
  obtain ⟨j, _, rfl⟩ := List.mem_map.1 hu
  split <;> rfl
theorem eq_4 (f : Nat → UInt8) (w : World) : (binOp .eql 42 (.agg (outF f 4).toArray) (.agg (outF f 4).toArray)).run Try.prog w = .ok (.bool true) w := by
  have hsz : ∀ w, (sizeOf 5).run Try.prog w = .ok 1 w := fun w => by
    obtain ⟨i, hi1, hi2⟩ := Option.map_eq_some_iff.1 size_u8
    simp [sizeOf, typeInfo, go_sem, hi1, hi2]
  have h := run_eql_bytes (P := Try.prog) w 42 5 4 Try.underlying42 Try.underlying5 hsz [f 0, f 1, f 2, f 3] [f 0, f 1, f 2, f 3] rfl rfl
  have e : (([f 0, f 1, f 2, f 3] : List UInt8) == [f 0, f 1, f 2, f 3]) = true := by simp
  rw [e] at h
  exact h
theorem load_4 {w : World} {b : Nat} {f : Nat → UInt8} (h : Blk w b 42 (outF f 4)) : (loadVar 42 ⟨b, 0, none⟩).run Try.prog w = .ok (.agg (outF f 4).toArray) w :=
  run_loadVar_row (P := Try.prog) w b 42 42 (outF f 4).toArray (0, 0) _ h Try.underlying42 (by simp) (by have := size_4; simpa [outF_len] using this)
def OutC (W : World) (d g L : Nat) (v : Value) (wr : World) : Prop :=
  ∃ i : Nat, i ≤ L ∧ v = .int .i64 (i : Int) ∧ ∃ (s : PS) (f : Nat → UInt8), RSt (1 + 3 * i) s f ∧ s.late = [] ∧ s.held.length ≤ s.n ∧ s.D.done ≤ 300000 * i ∧ PgX W wr d g s (fun _ => False)
def InC (W : World) (d g : Nat) (s : PS) (o : RndA) (v : Value) (wr : World) : Prop :=
  ∃ k : Nat, k ≤ (prs o).length ∧ v = .int .i64 (k : Int) ∧ PgX W wr d g (s.puts ((prs o).take k)) (fun _ => False)
set_option maxRecDepth 100000 in
set_option maxHeartbeats 4000000 in
theorem check_walk (W : World) (lv : Value) (l : List RndA) (at_ : Int) (c : UInt8) (hl : ArgRnds W lv l) :
    Calls Try.prog 6 #[lv, .int .i64 at_, .int .u8 (c.toNat : Int)] W fun e w' => e = .returned (.bool true) ∧ Fr [] W w' := by
  have HL := Lib.hid hl
  obtain ⟨A, cap, gr, offr, rfl, hm, hel⟩ := hl
  unfold maxLen at hm
  have HEL := Lib.hid hel
  clear hel
  go_enter Try.func6, Try.ntmps6
  go_wp2_with fail
  refine (awake08 W).mono ?_
  rintro e w1 ⟨rfl, hf1⟩
  have HF1 := Lib.hid hf1; clear hf1
  go_wp2_with fail
  refine (few_any HL.out HF1.out).mono ?_
  rintro e w2 ⟨rfl, rfl⟩
  cases hfw : fewB l with
  | false =>
    clear hfw
    go_wp2
    go_ret
    exact ⟨rfl, HF1.out⟩
  | true =>
    have hlen : l.length ≤ 12 := by
      unfold fewB at hfw
      rw [Bool.and_eq_true] at hfw
      exact of_decide_eq_true hfw.1
    have hok : ∀ o ∈ l, o.zs.length ≤ 8 ∧ o.bs.length ≤ 8 := fun o ho => by
      unfold fewB at hfw
      rw [Bool.and_eq_true] at hfw
      have h := List.all_eq_true.1 hfw.2 o ho
      unfold okRnd at h
      rw [Bool.and_eq_true] at h
      exact ⟨of_decide_eq_true h.1, of_decide_eq_true h.2⟩
    have HOK := Lib.hid hok
    clear hfw hok
    obtain ⟨H1, ht1, hi1, hn1⟩ := (PDisk.new (n := 4) (log := 60) (N := 100) (by omega) (by omega) (by omega) (by omega) (by omega)).open_ (by omega)
    have HR1 := Lib.hid (RSt.first hi1)
    have HFIT := Lib.hid hi1.fit
    have HHE := Lib.hid hi1.held.few
    clear hi1
    go_wp2_with fail
    refine (new_X (X := fun _ => False) W w1 100 (by omega) (by omega) HF1.out (by simp)).mono ?_
    rintro e w2 ⟨d, rfl, hd2, _⟩
    have HD2 := Lib.hid hd2; clear hd2
    go_wp2_with fail
    refine (open_Y (n := 4) (log := 60) HD2.out rfl rfl (by omega) (by omega) (by omega) HFIT.out hn1 ht1).mono ?_
    rintro e w3 ⟨g, rfl, hp3, _⟩
    have HP3 := Lib.hid hp3
    have hd0 : (openP 4 60 (DM.new 100) H1).D.done = 0 ∧ (openP 4 60 (DM.new 100) H1).late = [] := ⟨rfl, rfl⟩
    clear hp3 hn1 ht1 HD2 HFIT HF1 HL
    generalize openP 4 60 (DM.new 100) H1 = s1 at *
    go_wp2_with fail
    go_loopw [12] (fun v wr => OutC W d g l.length v wr) (fun v _ => l.length - (intOf v).toNat)
    case atStart => exact ⟨0, Nat.zero_le _, rfl, s1, _, HR1.out, hd0.2, HHE.out, by omega, HP3.out⟩
    case round =>
      obtain ⟨wo, rfl⟩ : ∃ wo : World, wo = wr := ⟨_, rfl⟩
      obtain ⟨i, hi, rfl, s, f, hrs, hlt, hhe, hdn, hpx⟩ := hrel
      have HRS := Lib.hid hrs; have HPX := Lib.hid hpx; have HLT := Lib.hid hlt; have HHS := Lib.hid hhe
      clear hrs hlt hpx hhe
      by_cases hil : i < l.length
      · obtain ⟨o, ho⟩ : ∃ o, l[i]? = some o := ⟨_, List.getElem?_eq_getElem hil⟩
        obtain ⟨rfl, hat⟩ := HEL.out i o ho
        obtain ⟨hzm, zA, zc, hzv, hzc, hzs⟩ := hat.a
        obtain ⟨hbm, bg, ⟨bA, bc, bo, hbv, hbc, hbs⟩, _⟩ := hat.b
        have hoo := HOK.out o (List.mem_of_getElem? ho)
        have HAT := Lib.hid hat; have HZS := Lib.hid hzs; have HBS := Lib.hid hbs; have HZV := Lib.hid hzv; have HBV := Lib.hid hbv
        have hpl := prs_len o
        have HPL := Lib.hid hpl
        clear ho hat hzs hbs hzm hbm hzv hbv hpl
        go_wp2_with fail
        go_loopw [13] (fun v wr => InC W d g s o v wr) (fun v _ => (prs o).length + 1 - (intOf v).toNat)
        case atStart => exact ⟨0, Nat.zero_le _, rfl, HPX.out⟩
        case round =>
          obtain ⟨k, hk, rfl, hpk⟩ := hrel
          obtain ⟨c0, c1, _, _⟩ := HAT.out.fr hpk.frame
          rw [HZV.out] at c0
          rw [HBV.out] at c1
          have HPK := Lib.hid hpk
          clear hpk
          by_cases hkz : k < o.zs.length
          · by_cases hkb : k < o.bs.length
            · obtain ⟨z, hz⟩ : ∃ z, o.zs[k]? = some z := ⟨_, List.getElem?_eq_getElem hkz⟩
              obtain ⟨b, hb⟩ : ∃ b, o.bs[k]? = some b := ⟨_, List.getElem?_eq_getElem hkb⟩
              obtain ⟨zg, zo, rfl, hzc'⟩ := HZS.out (by omega)
              obtain ⟨rfl, hbc'⟩ := HBS.out (by omega)
              have cz := HPK.out.frame.keep (hzc' k z hz)
              have cb := HPK.out.frame.keep (hbc' k (.int .u8 (b.toNat : Int)) (by rw [bcells_at, hb]; rfl))
              have hSW : ∀ w' : World, Fr [] W w' → w'.cell? ⟨gr, offr + i * 4, none⟩ = some (.slice (some ⟨zg, zo, none⟩) o.zs.length zc) ∧ w'.cell? ⟨gr, offr + i * 4 + 1, none⟩ = some (.slice (some ⟨bg, bo, none⟩) o.bs.length bc) ∧ w'.cell? ⟨zg, zo + k, none⟩ = some (.int .i64 z) ∧ w'.cell? ⟨bg, bo + k, none⟩ = some (.int .u8 (b.toNat : Int)) := fun w' hf => by
                obtain ⟨x0, x1, _, _⟩ := HAT.out.fr hf
                rw [HZV.out] at x0
                rw [HBV.out] at x1
                exact ⟨x0, x1, hf.keep (hzc' k z hz), hf.keep (hbc' k (.int .u8 (b.toNat : Int)) (by rw [bcells_at, hb]; rfl))⟩
              have HSW := Lib.hid hSW
              have em := (m3_spec z).2
              have hmz := (m3_spec z).1
              have hbr : (s.puts ((prs o).take k)).br = false := by rw [puts_eq]; exact HRS.out.br
              have hn4 : (s.puts ((prs o).take k)).n = 4 := by rw [puts_eq]; exact HRS.out.n
              have htk := prs_take hz hb
              have HTK := Lib.hid htk; have HBR := Lib.hid hbr; have HN4 := Lib.hid hn4
              clear hz hb hzc' hbc' htk hbr hn4 hSW
              go_wp2_with fail
              refine wp_region_K (fun W' => W'.cell? ⟨gr, offr + i * 4, none⟩ = some (.slice (some ⟨zg, zo, none⟩) o.zs.length zc) ∧ W'.cell? ⟨gr, offr + i * 4 + 1, none⟩ = some (.slice (some ⟨bg, bo, none⟩) o.bs.length bc) ∧ W'.cell? ⟨zg, zo + k, none⟩ = some (.int .i64 z) ∧ W'.cell? ⟨bg, bo + k, none⟩ = some (.int .u8 (b.toNat : Int))) [0, 1, 2, 3, 4, 5, 6, 7, 8, 9, 10, 11, 12, 13, 14, 15, 16, 17] (by kernel_rfl) ?_
              refine wpAnyK_take (i := 0) (some 64) ?vq1_0 rfl rfl (by kernel_rfl) (fun _ _ _ h => h) ⟨c0, c1, cz, cb⟩ (.inl ⟨rfl, fun W hW => ?yq1_0⟩) ?_
              case yq1_0 => (obtain ⟨a0, a1, a2, a3⟩ := hW; go_simp) <;> with_reducible rfl
              simp only [Act.put, List.setIfInBounds_toArray, List.set_cons_zero, List.set_cons_succ]
              refine wpAnyK_take (i := 1) (some 65) ?vq1_1 rfl rfl (by kernel_rfl) (fun _ _ _ h => h) ⟨c0, c1, cz, cb⟩ (.inl ⟨rfl, fun W hW => ?yq1_1⟩) ?_
              case yq1_1 => (obtain ⟨a0, a1, a2, a3⟩ := hW; go_simp) <;> with_reducible rfl
              simp only [Act.put, List.setIfInBounds_toArray, List.set_cons_zero, List.set_cons_succ]
              refine wpAnyK_take (i := 2) (some 66) ?vq1_2 rfl rfl (by kernel_rfl) (fun _ _ _ h => h) ⟨c0, c1, cz, cb⟩ (.inl ⟨rfl, fun W hW => ?yq1_2⟩) ?_
              case yq1_2 => (obtain ⟨a0, a1, a2, a3⟩ := hW; go_simp) <;> with_reducible rfl
              simp only [Act.put, List.setIfInBounds_toArray, List.set_cons_zero, List.set_cons_succ]
              refine wpAnyK_take (i := 3) (some 67) ?vq1_3 rfl rfl (by kernel_rfl) (fun _ _ _ h => h) ⟨c0, c1, cz, cb⟩ (.inl ⟨rfl, fun W hW => ?yq1_3⟩) ?_
              case yq1_3 => (obtain ⟨a0, a1, a2, a3⟩ := hW; go_simp) <;> with_reducible rfl
              simp only [Act.put, List.setIfInBounds_toArray, List.set_cons_zero, List.set_cons_succ]
              refine wpAnyK_take (i := 4) (some 68) ?vq1_4 rfl rfl (by kernel_rfl) (fun _ _ _ h => h) ⟨c0, c1, cz, cb⟩ (.inl ⟨rfl, fun W hW => ?yq1_4⟩) ?_
              case yq1_4 => (obtain ⟨a0, a1, a2, a3⟩ := hW; go_simp) <;> with_reducible rfl
              simp only [Act.put, List.setIfInBounds_toArray, List.set_cons_zero, List.set_cons_succ]
              refine wpAnyK_take (i := 5) (some 69) ?vq1_5 rfl rfl (by kernel_rfl) (fun _ _ _ h => h) ⟨c0, c1, cz, cb⟩ (.inl ⟨rfl, fun W hW => ?yq1_5⟩) ?_
              case yq1_5 => (obtain ⟨a0, a1, a2, a3⟩ := hW; go_simp) <;> with_reducible rfl
              simp only [Act.put, List.setIfInBounds_toArray, List.set_cons_zero, List.set_cons_succ]
              refine wpAnyK_take (i := 6) (some 70) ?vq1_6 rfl rfl (by kernel_rfl) (fun _ _ _ h => h) ⟨c0, c1, cz, cb⟩ (.inl ⟨rfl, fun W hW => ?yq1_6⟩) ?_
              case yq1_6 => (obtain ⟨a0, a1, a2, a3⟩ := hW; go_simp) <;> with_reducible rfl
              simp only [Act.put, List.setIfInBounds_toArray, List.set_cons_zero, List.set_cons_succ]
              refine wpAnyK_take (i := 7) (some 71) ?vq1_7 rfl rfl (by kernel_rfl) (fun _ _ _ h => h) ⟨c0, c1, cz, cb⟩ (.inl ⟨rfl, fun W hW => ?yq1_7⟩) ?_
              case yq1_7 => (obtain ⟨a0, a1, a2, a3⟩ := hW; go_simp) <;> with_reducible rfl
              simp only [Act.put, List.setIfInBounds_toArray, List.set_cons_zero, List.set_cons_succ]
              refine wpAnyK_take (i := 8) (some 72) ?vq1_8 rfl rfl (by kernel_rfl) (fun _ _ _ h => h) ⟨c0, c1, cz, cb⟩ (.inl ⟨rfl, fun W hW => ?yq1_8⟩) ?_
              case yq1_8 => (obtain ⟨a0, a1, a2, a3⟩ := hW; go_simp) <;> with_reducible rfl
              simp only [Act.put, List.setIfInBounds_toArray, List.set_cons_zero, List.set_cons_succ]
              refine wpAnyK_take (i := 9) (some 73) ?vq1_9 rfl rfl (by kernel_rfl) (fun _ _ _ h => h) ⟨c0, c1, cz, cb⟩ (.inl ⟨rfl, fun W hW => ?yq1_9⟩) ?_
              case yq1_9 => (obtain ⟨a0, a1, a2, a3⟩ := hW; go_simp) <;> with_reducible rfl
              simp only [Act.put, List.setIfInBounds_toArray, List.set_cons_zero, List.set_cons_succ]
              refine wpAnyK_take (i := 10) (some 74) ?vq1_10 rfl rfl (by kernel_rfl) (fun _ _ _ h => h) ⟨c0, c1, cz, cb⟩ (.inl ⟨rfl, fun W hW => ?yq1_10⟩) ?_
              case yq1_10 => (obtain ⟨a0, a1, a2, a3⟩ := hW; go_simp) <;> with_reducible rfl
              simp only [Act.put, List.setIfInBounds_toArray, List.set_cons_zero, List.set_cons_succ]
              refine wpAnyK_take (i := 11) (some 75) ?vq1_11 rfl rfl (by kernel_rfl) (fun _ _ _ h => h) ⟨c0, c1, cz, cb⟩ (.inl ⟨rfl, fun W hW => ?yq1_11⟩) ?_
              case yq1_11 => (obtain ⟨a0, a1, a2, a3⟩ := hW; go_simp) <;> with_reducible rfl
              simp only [Act.put, List.setIfInBounds_toArray, List.set_cons_zero, List.set_cons_succ]
              refine wpAnyK_take (i := 12) (some 76) ?vq1_12 rfl rfl (by kernel_rfl) (fun _ _ _ h => h) ⟨c0, c1, cz, cb⟩ (.inl ⟨rfl, fun W hW => ?yq1_12⟩) ?_
              case yq1_12 => (obtain ⟨a0, a1, a2, a3⟩ := hW; go_simp) <;> with_reducible rfl
              simp only [Act.put, List.setIfInBounds_toArray, List.set_cons_zero, List.set_cons_succ]
              refine wpAnyK_take (i := 13) (some 77) ?vq1_13 rfl rfl (by kernel_rfl) (fun _ _ _ h => h) ⟨c0, c1, cz, cb⟩ (.inl ⟨rfl, fun W hW => ?yq1_13⟩) ?_
              case yq1_13 => (obtain ⟨a0, a1, a2, a3⟩ := hW; go_simp) <;> with_reducible rfl
              simp only [Act.put, List.setIfInBounds_toArray, List.set_cons_zero, List.set_cons_succ]
              refine wpAnyK_take (i := 14) (some 78) ?vq1_14 rfl rfl (by kernel_rfl) (fun _ _ _ h => h) ⟨c0, c1, cz, cb⟩ (.inl ⟨rfl, fun W hW => ?yq1_14⟩) ?_
              case yq1_14 => (obtain ⟨a0, a1, a2, a3⟩ := hW; go_simp) <;> with_reducible rfl
              simp only [Act.put, List.setIfInBounds_toArray, List.set_cons_zero, List.set_cons_succ]
              refine wpAnyK_take (i := 15) (some 79) ?vq1_15 rfl rfl (by kernel_rfl) (fun _ _ _ h => h) ⟨c0, c1, cz, cb⟩ (.inl ⟨rfl, fun W hW => ?yq1_15⟩) ?_
              case yq1_15 => (obtain ⟨a0, a1, a2, a3⟩ := hW; go_simp) <;> with_reducible rfl
              simp only [Act.put, List.setIfInBounds_toArray, List.set_cons_zero, List.set_cons_succ]
              refine wpAnyK_take (i := 16) (some 80) ?vq1_16 rfl rfl (by kernel_rfl) (fun _ _ _ h => h) ⟨c0, c1, cz, cb⟩ (.inl ⟨rfl, fun W hW => ?yq1_16⟩) ?_
              case yq1_16 => (obtain ⟨a0, a1, a2, a3⟩ := hW; go_simp) <;> with_reducible rfl
              simp only [Act.put, List.setIfInBounds_toArray, List.set_cons_zero, List.set_cons_succ]
              refine wpAnyK_take (i := 17) (some 81) ?vq1_17 rfl rfl (by kernel_rfl) (fun _ _ _ h => h) ⟨c0, c1, cz, cb⟩ (.inl ⟨rfl, fun W hW => ?yq1_17⟩) ?_
              case yq1_17 => (obtain ⟨a0, a1, a2, a3⟩ := hW; go_simp) <;> with_reducible rfl
              simp only [Act.put, List.setIfInBounds_toArray, List.set_cons_zero, List.set_cons_succ]
              refine wpAnyK_step (j := 18) (some 82) rfl rfl (by kernel_rfl) rfl fun K hK => ?_
              have hdr : Fr [] wr wr.drew := (Fr.refl [] wr).drew
              refine wp_call_f (l := [.tmp 81]) rfl [.int .u8 (b.toNat : Int)] rfl (enter_filled _) ((filled_any wr.drew b).mono ?_)
              rintro e w5 ⟨rfl, hby, hf5⟩
              have hf5' : Fr [] wr w5 := hdr.trans hf5 (by simp)
              have hS5 : w5.cell? ⟨gr, offr + i * 4, none⟩ = some (.slice (some ⟨zg, zo, none⟩) o.zs.length zc) ∧ w5.cell? ⟨gr, offr + i * 4 + 1, none⟩ = some (.slice (some ⟨bg, bo, none⟩) o.bs.length bc) ∧ w5.cell? ⟨zg, zo + k, none⟩ = some (.int .i64 z) ∧ w5.cell? ⟨bg, bo + k, none⟩ = some (.int .u8 (b.toNat : Int)) := ⟨hf5'.keep c0, hf5'.keep c1, hf5'.keep cz, hf5'.keep cb⟩
              refine ⟨_, rfl, hK _ _ (fun _ => hS5) ?_⟩
              simp only [Act.put, List.setIfInBounds_toArray, List.set_cons_zero, List.set_cons_succ]
              clear hK
              refine wpAnyK_step (j := 19) (some 83) rfl rfl (by kernel_rfl) rfl fun K hK => ?_
              refine wp_call_f (l := [.tmp 64, .tmp 73, .tmp 82]) rfl [.pointer (some ⟨g, 0, none⟩), .int .i64 (m3 z : Int), .slice (some ⟨wr.drew.heap.size, 0, none⟩) 512 512] rfl (enter_pwrite _) ((write_Y (HPK.out.stay hf5') HBR.out (m3 z) (by rw [HN4.out]; exact hmz) _ (List.replicate 512 b) _ hby (by rw [List.length_replicate]; exact Nat.le_refl _)).mono ?_)
              rintro e w6 ⟨rfl, hp6, _⟩
              refine ⟨_, rfl, hK _ _ (fun _ => HSW.out _ hp6.frame) ?_⟩
              simp only [Act.put, List.setIfInBounds_toArray, List.set_cons_zero, List.set_cons_succ]
              refine wpAnyK_done (by kernel_rfl) ?_ _
              have HX6 : Hid (InC W d g s o (.int .i64 ((k : Int) + 1)) w6) := Lib.hid ⟨k + 1, by have := HPL.out; omega, by go_num, by rw [HTK.out, puts_snoc]; exact hp6⟩
              clear hK hp6 hby hf5 hf5' hS5 hdr c0 c1 cz cb
              go_wp2_with fail
              go_roundw
              case rel => exact HX6.out
              case measure => simp [intOf]; omega
            · have hkx := hkb
              have hke : k = (prs o).length := by have := HPL.out; omega
              have hpk := HPK.out
              rw [hke, List.take_of_length_le (Nat.le_refl _)] at hpk
              have hr5 := HRS.out.puts (prs_lt o)
              obtain ⟨hce, hr6, hl6⟩ := hr5.commit (by omega)
              have hd5 : (s.puts (prs o)).D.done ≤ 300000 * i := by rw [puts_eq]; exact hdn
              have hdd := commit_done (s.puts (prs o)) (by rw [puts_eq]; exact HHS.out) (by rw [hr5.n]; omega)
              have hh6 : (s.puts (prs o)).commit.1.held.length ≤ (s.puts (prs o)).commit.1.n := by obtain ⟨C, h1, _⟩ := hr6.inv; exact h1.held.few
              have HCM := Lib.hid (commit_Y hpk (by omega))
              rw [hce] at HCM
              have HR6 := Lib.hid hr6; have HL6 := Lib.hid hl6; have HH6 := Lib.hid hh6
              generalize (s.puts (prs o)).commit.1 = s6 at *
              clear hpk hr5 hr6 hl6 hce hh6 hke
              go_wp2_with fail
              refine HCM.out.mono ?_
              rintro e w6 ⟨rfl, hp6, _⟩
              have HP6 := Lib.hid hp6
              clear hp6
              go_wp2_with fail
              go_roundw
              case rel => exact ⟨i + 1, by omega, by go_num, s6, _, by have := HR6.out; rwa [show 1 + 3 * i + 3 = 1 + 3 * (i + 1) by omega] at this, HL6.out, HH6.out, by omega, HP6.out⟩
              case measure => simp [intOf]; omega
          · have hkx := hkz
            have hke : k = (prs o).length := by have := HPL.out; omega
            have hpk := HPK.out
            rw [hke, List.take_of_length_le (Nat.le_refl _)] at hpk
            have hr5 := HRS.out.puts (prs_lt o)
            obtain ⟨hce, hr6, hl6⟩ := hr5.commit (by omega)
            have hd5 : (s.puts (prs o)).D.done ≤ 300000 * i := by rw [puts_eq]; exact hdn
            have hdd := commit_done (s.puts (prs o)) (by rw [puts_eq]; exact HHS.out) (by rw [hr5.n]; omega)
            have hh6 : (s.puts (prs o)).commit.1.held.length ≤ (s.puts (prs o)).commit.1.n := by obtain ⟨C, h1, _⟩ := hr6.inv; exact h1.held.few
            have HCM := Lib.hid (commit_Y hpk (by omega))
            rw [hce] at HCM
            have HR6 := Lib.hid hr6; have HL6 := Lib.hid hl6; have HH6 := Lib.hid hh6
            generalize (s.puts (prs o)).commit.1 = s6 at *
            clear hpk hr5 hr6 hl6 hce hh6 hke
            go_wp2_with fail
            refine HCM.out.mono ?_
            rintro e w6 ⟨rfl, hp6, _⟩
            have HP6 := Lib.hid hp6
            clear hp6
            go_wp2_with fail
            go_roundw
            case rel => exact ⟨i + 1, by omega, by go_num, s6, _, by have := HR6.out; rwa [show 1 + 3 * i + 3 = 1 + 3 * (i + 1) by omega] at this, HL6.out, HH6.out, by omega, HP6.out⟩
            case measure => simp [intOf]; omega
      · obtain rfl : i = l.length := by omega
        have em := (m3_spec at_).2
        have hmz := (m3_spec at_).1
        have hr7 : RSt (1 + 3 * l.length) (s.write (m3 at_) (List.replicate 512 c)) (setF f [(m3 at_, c)]) := HRS.out.puts (l := [(m3 at_, c)]) (by simpa using hmz)
        have hl7 : (s.write (m3 at_) (List.replicate 512 c)).late.length = 1 := by
          show (putP s.late _ _).length = 1
          rw [HLT.out]
          rfl
        have HR7 := Lib.hid hr7; have HL7 := Lib.hid hl7
        have hdn7 : (s.write (m3 at_) (List.replicate 512 c)).D.done ≤ 300000 * l.length := hdn
        clear hr7 hl7
        generalize setF f [(m3 at_, c)] = f7 at *
        go_wp2_with fail
        refine (filled_any wo c).mono ?_
        rintro e w5 ⟨rfl, hby, hf5⟩
        have HPX5 := Lib.hid (HPX.out.stay hf5)
        have HBY := Lib.hid hby
        clear hby hf5
        go_wp2_with fail
        refine (write_Y HPX5.out HRS.out.br (m3 at_) (by rw [HRS.out.n]; exact hmz) _ (List.replicate 512 c) _ HBY.out (by rw [List.length_replicate]; exact Nat.le_refl _)).mono ?_
        rintro e w6 ⟨rfl, hp6, _⟩
        have HP6 := Lib.hid hp6
        clear hp6 HPX5 HBY
        generalize s.write (m3 at_) (List.replicate 512 c) = s7 at *
        have HSH := Lib.hid (shown_any HP6.out HR7.out.br HR7.out.calm HR7.out.n f7 (fun k hk => HR7.out.page hk))
        go_wp2_with fail
        refine HSH.out.mono ?_
        rintro e w7 ⟨rfl, hf7⟩
        have HP7 := Lib.hid (HP6.out.stay hf7)
        clear hf7 HSH
        go_wp2_with (first
          | (with_reducible refine wpList_alloc_z rfl 42 rfl (.agg (outF f7 0).toArray) (outF f7 0).toArray (zero_4 f7) rfl ?_)
          | (with_reducible refine wpList_store_z (W := w7) rfl 42 (.tmp 14) (.tmp 95) rfl (outF f7 4) rfl rfl rfl ?zi ?zl ?z1 ?_))
        case zi => rw [outF_len]; exact size_4
        case zl => show (outF f7 0).length = (outF f7 4).length; rw [outF_len, outF_len]
        case z1 => exact outF_one f7 4
        intro w8 hb8 hf8 hz8
        have HP8 := Lib.hid (HP7.out.fr hf8)
        have HB8 := Lib.hid hb8
        have hx8 : w7.heap.size < w8.heap.size := by omega
        clear hb8 hf8 hz8
        go_wp2_with fail
        refine (dirty_Y HP8.out).mono ?_
        rintro e w9 ⟨rfl, rfl⟩
        rw [HL7.out]
        obtain ⟨k1, k2, k3, k4⟩ := HR7.out.check (by omega)
        have hd8 : s7.check.1.D.done ≤ 300000 * l.length + 100000 := by
          obtain ⟨C7, i7, _⟩ := HR7.out.inv
          have hx := check_done s7 i7.held.few (by rw [HR7.out.n]; omega)
          omega
        have HC9 := Lib.hid (check_Y HP8.out (by omega))
        rw [k1] at HC9
        have K2 := Lib.hid k2; have K3 := Lib.hid k3; have K4 := Lib.hid (show s7.check.1.late.length = 1 by rw [k4]; exact HL7.out)
        generalize s7.check.1 = s8 at *
        clear k1 k2 k3 k4
        go_wp2_with fail
        refine HC9.out.mono ?_
        rintro e w9 ⟨rfl, hp9, hk9⟩
        have hb9 := hk9.blk HB8.out (.inr ⟨Nat.le_refl _, hx8⟩)
        have HP9 := Lib.hid hp9
        have HSH := Lib.hid (shown_any HP9.out K2.out.br K2.out.calm K2.out.n f7 (fun k hk => K2.out.page hk))
        have HB9 := Lib.hid hb9
        clear hp9 hk9 hb9 HC9
        go_wp2_with fail
        refine HSH.out.mono ?_
        rintro e w10 ⟨rfl, hf10⟩
        have HP10 := Lib.hid (HP9.out.stay hf10)
        have HB10 := Lib.hid (HB9.out.fr hf10 (by simp))
        clear hf10 HSH
        go_wp2_with (first
          | (with_reducible refine wpList_alloc_z rfl 42 rfl (.agg (outF f7 0).toArray) (outF f7 0).toArray (zero_4 f7) rfl ?_)
          | (with_reducible refine wpList_store_z (W := w10) rfl 42 (.tmp 18) (.tmp 104) rfl (outF f7 4) rfl rfl rfl ?yi ?yl ?y1 ?_))
        case yi => rw [outF_len]; exact size_4
        case yl => show (outF f7 0).length = (outF f7 4).length; rw [outF_len, outF_len]
        case y1 => exact outF_one f7 4
        intro w11 hb11 hf11 hz11
        have HP11 := Lib.hid (HP10.out.fr hf11)
        have HB11 := Lib.hid hb11
        have HA11 := Lib.hid (HB10.out.fr hf11 (by simp))
        have hx11 : w10.heap.size < w11.heap.size := by omega
        clear hb11 hf11 hz11
        go_wp2_with fail
        refine (writes_X HP11.out.disk).mono ?_
        rintro e w12 ⟨rfl, rfl⟩
        have HC12 := Lib.hid (check_Y HP11.out (by omega))
        rw [check_none K3.out K2.out.br] at HC12
        go_wp2_with fail
        refine HC12.out.mono ?_
        rintro e w12 ⟨rfl, hp12, hk12⟩
        have HP12 := Lib.hid hp12
        have hA12 := hk12.blk HA11.out (.inl (.inr ⟨Nat.le_refl _, hx8⟩))
        have hB12 := hk12.blk HB11.out (.inr ⟨Nat.le_refl _, hx11⟩)
        have a0 : w12.cell? ⟨w7.heap.size, 0, none⟩ = some (.int .u8 ((f7 0).toNat : Int)) := hA12.at_ rfl
        have a1 : w12.cell? ⟨w7.heap.size, 1, none⟩ = some (.int .u8 ((f7 1).toNat : Int)) := hA12.at_ rfl
        have a2 : w12.cell? ⟨w7.heap.size, 2, none⟩ = some (.int .u8 ((f7 2).toNat : Int)) := hA12.at_ rfl
        have a3 : w12.cell? ⟨w7.heap.size, 3, none⟩ = some (.int .u8 ((f7 3).toNat : Int)) := hA12.at_ rfl
        have b0 : w12.cell? ⟨w10.heap.size, 0, none⟩ = some (.int .u8 ((f7 0).toNat : Int)) := hB12.at_ rfl
        have b1 : w12.cell? ⟨w10.heap.size, 1, none⟩ = some (.int .u8 ((f7 1).toNat : Int)) := hB12.at_ rfl
        have b2 : w12.cell? ⟨w10.heap.size, 2, none⟩ = some (.int .u8 ((f7 2).toNat : Int)) := hB12.at_ rfl
        have b3 : w12.cell? ⟨w10.heap.size, 3, none⟩ = some (.int .u8 ((f7 3).toNat : Int)) := hB12.at_ rfl
        have heq : ∀ w, (binOp .eql 42 (.agg #[.int .u8 ((f7 0).toNat : Int), .int .u8 ((f7 1).toNat : Int), .int .u8 ((f7 2).toNat : Int), .int .u8 ((f7 3).toNat : Int)]) (.agg #[.int .u8 ((f7 0).toNat : Int), .int .u8 ((f7 1).toNat : Int), .int .u8 ((f7 2).toNat : Int), .int .u8 ((f7 3).toNat : Int)])).run Try.prog w = .ok (.bool true) w := fun w => eq_4 f7 w
        clear hA12 hB12
        clear hp12 hk12 HC12
        go_wp2_with fail
        refine (dirty_Y HP12.out).mono ?_
        rintro e w13 ⟨rfl, rfl⟩
        rw [K4.out]
        go_wp2_with fail
        refine (writes_X HP12.out.disk).mono ?_
        rintro e w13 ⟨rfl, rfl⟩
        go_wp2_with fail
        go_ret
        exact ⟨rfl, HP12.out.frame⟩

end Go.Proofs.Ytidpleejgalljaa
