/-
  The walk of PagerTwice: for all inputs it answers true and leaves old memory alone.
-/
import Derived.Test.YtidpleejgalljaaLc
import Derived.Test.YtidpleejgalljaaRpt
namespace Go.Proofs.Ytidpleejgalljaa
open Go.RowKit

def TSt (c : Nat) (s : PS) : Prop := (∃ f, Lv c s f f) ∨ s.D.dead = true ∧ ∀ K, ∃ f, Off c (s.D.reopen K) f
theorem TSt.closed {c : Nat} {s : PS} (h : TSt c s) (K : List Bool) : ∃ f, Off c (s.D.reopen K) f := by
  rcases h with ⟨f, h⟩ | ⟨_, h⟩
  · exact ⟨f, h.closed K⟩
  · exact h K
def OutT (W : World) (d g L : Nat) (v : Value) (wr : World) : Prop :=
  ∃ i : Nat, i ≤ L ∧ v = .int .i64 (i : Int) ∧ ∃ s : PS, TSt (1 + 3 * i) s ∧ s.D.done ≤ 300000 * i ∧ PgX W wr d g s (fun _ => False)
theorem fewB_ok {l : List RndA} (h : fewB l = true) : l.length ≤ 12 ∧ ∀ o ∈ l, o.zs.length ≤ 8 ∧ o.bs.length ≤ 8 := by
  unfold fewB at h
  rw [Bool.and_eq_true] at h
  refine ⟨of_decide_eq_true h.1, fun o ho => ?_⟩
  have h := List.all_eq_true.1 h.2 o ho
  unfold okRnd at h
  rw [Bool.and_eq_true] at h
  exact ⟨of_decide_eq_true h.1, of_decide_eq_true h.2⟩
set_option maxRecDepth 100000 in
set_option maxHeartbeats 8000000 in
theorem twice_walk (W : World) (lv kv hv : Value) (l : List RndA) (lim sec : Int) (K1 K2 : List Bool) (hl : ArgRnds W lv l) (hK1 : ArgBools W kv K1) (hK2 : ArgBools W hv K2) :
    Calls Try.prog 3 #[lv, .int .i64 lim, kv, .int .i64 sec, hv] W fun e w' => e = .returned (.bool true) ∧ Fr [] W w' := by
  have HL := Lib.hid hl
  obtain ⟨A, cap, gr, offr, rfl, hm, hel⟩ := hl
  have hm1 := hK1.1; have hm2 := hK2.1
  unfold maxLen at hm hm1 hm2
  obtain ⟨_, kg1, ⟨kA1, kc1, ko1, rfl, hkc1, _⟩, _⟩ := id hK1
  obtain ⟨_, kg2, ⟨kA2, kc2, ko2, rfl, hkc2, _⟩, _⟩ := id hK2
  have HEL := Lib.hid hel; have HK1 := Lib.hid hK1; have HK2 := Lib.hid hK2
  clear hel hK1 hK2
  go_enter Try.func3, Try.ntmps3
  go_wp2_with fail
  refine (awake08 W).mono ?_
  rintro e w1 ⟨rfl, hf1⟩
  have HF1 := Lib.hid hf1; clear hf1
  go_wp2_with fail
  refine (few_any HL.out HF1.out).mono ?_
  rintro e w2 ⟨rfl, rfl⟩
  cases hfw : fewB l with
  | false =>
    clear hfw
    go_wp2
    go_ret
    exact ⟨rfl, HF1.out⟩
  | true =>
    obtain ⟨hlen, hok⟩ := fewB_ok hfw
    have HOK := Lib.hid hok
    clear hfw hok
    by_cases hb1 : 400 < K1.length
    · go_wp2
      go_ret
      exact ⟨rfl, HF1.out⟩
    by_cases hb2 : 400 < K2.length
    · go_wp2
      go_ret
      exact ⟨rfl, HF1.out⟩
    obtain ⟨m1, hm1', em1⟩ := and_mask lim 255 (by omega)
    have em1' : bits .and .i64 lim 255 = (m1 : Int) := em1
    obtain ⟨m2, hm2', em2⟩ := and_mask sec 63 (by omega)
    have em2' : bits .and .i64 sec 63 = (m2 : Int) := em2
    clear em1 em2
    obtain ⟨H1, ht1, hi1, hn1, hde1, hpe1, hfi1⟩ := off_new.open_ (by omega)
    have HT1 := Lib.hid ht1
    have HR1 := Lib.hid (hi1.limited (m1 : Int) (by omega))
    clear hi1 ht1
    go_wp2_with fail
    refine (new_X (X := fun _ => False) W w1 100 (by omega) (by omega) HF1.out (by simp)).mono ?_
    rintro e w2 ⟨d, rfl, hd2, _⟩
    have HD2 := Lib.hid hd2; clear hd2
    go_wp2_with fail
    refine (open_Y (n := 4) (log := 60) HD2.out hde1 hpe1 (by omega) (by omega) (by omega) hfi1 hn1 HT1.out).mono ?_
    rintro e w3 ⟨g, rfl, hp3, _⟩
    have HLM := Lib.hid (limit_Y hp3 (m1 : Int) (by omega))
    have hd0 : ({ openP 4 60 (DM.new 100) H1 with D := (openP 4 60 (DM.new 100) H1).D.limited (m1 : Int) } : PS).D.done = 0 := rfl
    clear hp3 hn1 hde1 hpe1 hfi1 HD2 HT1 HF1 HL
    generalize ({ openP 4 60 (DM.new 100) H1 with D := (openP 4 60 (DM.new 100) H1).D.limited (m1 : Int) } : PS) = s1 at *
    go_wp2_with fail
    refine HLM.out.mono ?_
    rintro e w4 ⟨rfl, hp4, _⟩
    have HP4 := Lib.hid hp4
    clear hp4 HLM
    go_wp2_with fail
    go_loopw [16] (fun v wr => OutT W d g l.length v wr) (fun v _ => l.length - (intOf v).toNat)
    case atStart => exact ⟨0, Nat.zero_le _, rfl, s1, .inl ⟨_, HR1.out⟩, by omega, HP4.out⟩
    case round =>
      obtain ⟨wo, rfl⟩ : ∃ wo : World, wo = wr := ⟨_, rfl⟩
      obtain ⟨i, hi, rfl, s, hts, hdn, hpx⟩ := hrel
      have HTS := Lib.hid hts; have HPX := Lib.hid hpx
      have HDE := Lib.hid (dead_X hpx.disk)
      clear hts hpx HR1 HP4 hd0
      by_cases hil : i < l.length
      · rcases HTS.out with ⟨f, hrs⟩ | ⟨hdead, _⟩
        · have hlv := hrs.live
          rw [hlv] at HDE
          have HRS := Lib.hid hrs
          clear hrs hlv HTS
          obtain ⟨o, ho⟩ : ∃ o, l[i]? = some o := ⟨_, List.getElem?_eq_getElem hil⟩
          obtain ⟨rfl, hat⟩ := HEL.out i o ho
          obtain ⟨hzm, zA, zc, hzv, hzc, hzs⟩ := hat.a
          obtain ⟨hbm, bg, ⟨bA, bc, bo, hbv, hbc, hbs⟩, _⟩ := hat.b
          have hoo := HOK.out o (List.mem_of_getElem? ho)
          have HAT := Lib.hid hat; have HZS := Lib.hid hzs; have HBS := Lib.hid hbs; have HZV := Lib.hid hzv; have HBV := Lib.hid hbv
          have hpl := prs_len o
          have HPL := Lib.hid hpl
          clear ho hat hzs hbs hzm hbm hzv hbv hpl
          go_wp2_with fail
          refine HDE.out.mono ?_
          rintro e w' ⟨rfl, rfl⟩
          clear HDE
          go_wp2_with fail
          go_loopw [17] (fun v wr => InC W d g s o v wr) (fun v _ => (prs o).length + 1 - (intOf v).toNat)
          case atStart => exact ⟨0, Nat.zero_le _, rfl, HPX.out⟩
          case round =>
            obtain ⟨k, hk, rfl, hpk⟩ := hrel
            obtain ⟨c0, c1, _, _⟩ := HAT.out.fr hpk.frame
            rw [HZV.out] at c0
            rw [HBV.out] at c1
            have HPK := Lib.hid hpk
            clear hpk
            by_cases hkz : k < o.zs.length
            · by_cases hkb : k < o.bs.length
              · obtain ⟨z, hz⟩ : ∃ z, o.zs[k]? = some z := ⟨_, List.getElem?_eq_getElem hkz⟩
                obtain ⟨b, hb⟩ : ∃ b, o.bs[k]? = some b := ⟨_, List.getElem?_eq_getElem hkb⟩
                obtain ⟨zg, zo, rfl, hzc'⟩ := HZS.out (by omega)
                obtain ⟨rfl, hbc'⟩ := HBS.out (by omega)
                have cz := HPK.out.frame.keep (hzc' k z hz)
                have cb := HPK.out.frame.keep (hbc' k (.int .u8 (b.toNat : Int)) (by rw [bcells_at, hb]; rfl))
                have hSW : ∀ w' : World, Fr [] W w' → w'.cell? ⟨gr, offr + i * 4, none⟩ = some (.slice (some ⟨zg, zo, none⟩) o.zs.length zc) ∧ w'.cell? ⟨gr, offr + i * 4 + 1, none⟩ = some (.slice (some ⟨bg, bo, none⟩) o.bs.length bc) ∧ w'.cell? ⟨zg, zo + k, none⟩ = some (.int .i64 z) ∧ w'.cell? ⟨bg, bo + k, none⟩ = some (.int .u8 (b.toNat : Int)) := fun w' hf => by
                  obtain ⟨x0, x1, _, _⟩ := HAT.out.fr hf
                  rw [HZV.out] at x0
                  rw [HBV.out] at x1
                  exact ⟨x0, x1, hf.keep (hzc' k z hz), hf.keep (hbc' k (.int .u8 (b.toNat : Int)) (by rw [bcells_at, hb]; rfl))⟩
                have HSW := Lib.hid hSW
                have em := (m3_spec z).2
                have hmz := (m3_spec z).1
                have hbr : (s.puts ((prs o).take k)).br = false := by rw [puts_eq]; exact HRS.out.br
                have hn4 : (s.puts ((prs o).take k)).n = 4 := by rw [puts_eq]; exact HRS.out.n
                have htk := prs_take hz hb
                have HTK := Lib.hid htk; have HBR := Lib.hid hbr; have HN4 := Lib.hid hn4
                clear hz hb hzc' hbc' htk hbr hn4 hSW
                go_wp2_with fail
                refine wp_region_K (fun W' => W'.cell? ⟨gr, offr + i * 4, none⟩ = some (.slice (some ⟨zg, zo, none⟩) o.zs.length zc) ∧ W'.cell? ⟨gr, offr + i * 4 + 1, none⟩ = some (.slice (some ⟨bg, bo, none⟩) o.bs.length bc) ∧ W'.cell? ⟨zg, zo + k, none⟩ = some (.int .i64 z) ∧ W'.cell? ⟨bg, bo + k, none⟩ = some (.int .u8 (b.toNat : Int))) [0, 1, 2, 3, 4, 5, 6, 7, 8, 9, 10, 11, 12, 13, 14, 15, 16, 17] (by kernel_rfl) ?_
                refine wpAnyK_take (i := 0) (some 92) ?vq1_0 rfl rfl (by kernel_rfl) (fun _ _ _ h => h) ⟨c0, c1, cz, cb⟩ (.inl ⟨rfl, fun W hW => ?yq1_0⟩) ?_
                case yq1_0 => (obtain ⟨a0, a1, a2, a3⟩ := hW; go_simp) <;> with_reducible rfl
                simp only [Act.put, List.setIfInBounds_toArray, List.set_cons_zero, List.set_cons_succ]
                refine wpAnyK_take (i := 1) (some 93) ?vq1_1 rfl rfl (by kernel_rfl) (fun _ _ _ h => h) ⟨c0, c1, cz, cb⟩ (.inl ⟨rfl, fun W hW => ?yq1_1⟩) ?_
                case yq1_1 => (obtain ⟨a0, a1, a2, a3⟩ := hW; go_simp) <;> with_reducible rfl
                simp only [Act.put, List.setIfInBounds_toArray, List.set_cons_zero, List.set_cons_succ]
                refine wpAnyK_take (i := 2) (some 94) ?vq1_2 rfl rfl (by kernel_rfl) (fun _ _ _ h => h) ⟨c0, c1, cz, cb⟩ (.inl ⟨rfl, fun W hW => ?yq1_2⟩) ?_
                case yq1_2 => (obtain ⟨a0, a1, a2, a3⟩ := hW; go_simp) <;> with_reducible rfl
                simp only [Act.put, List.setIfInBounds_toArray, List.set_cons_zero, List.set_cons_succ]
                refine wpAnyK_take (i := 3) (some 95) ?vq1_3 rfl rfl (by kernel_rfl) (fun _ _ _ h => h) ⟨c0, c1, cz, cb⟩ (.inl ⟨rfl, fun W hW => ?yq1_3⟩) ?_
                case yq1_3 => (obtain ⟨a0, a1, a2, a3⟩ := hW; go_simp) <;> with_reducible rfl
                simp only [Act.put, List.setIfInBounds_toArray, List.set_cons_zero, List.set_cons_succ]
                refine wpAnyK_take (i := 4) (some 96) ?vq1_4 rfl rfl (by kernel_rfl) (fun _ _ _ h => h) ⟨c0, c1, cz, cb⟩ (.inl ⟨rfl, fun W hW => ?yq1_4⟩) ?_
                case yq1_4 => (obtain ⟨a0, a1, a2, a3⟩ := hW; go_simp) <;> with_reducible rfl
                simp only [Act.put, List.setIfInBounds_toArray, List.set_cons_zero, List.set_cons_succ]
                refine wpAnyK_take (i := 5) (some 97) ?vq1_5 rfl rfl (by kernel_rfl) (fun _ _ _ h => h) ⟨c0, c1, cz, cb⟩ (.inl ⟨rfl, fun W hW => ?yq1_5⟩) ?_
                case yq1_5 => (obtain ⟨a0, a1, a2, a3⟩ := hW; go_simp) <;> with_reducible rfl
                simp only [Act.put, List.setIfInBounds_toArray, List.set_cons_zero, List.set_cons_succ]
                refine wpAnyK_take (i := 6) (some 98) ?vq1_6 rfl rfl (by kernel_rfl) (fun _ _ _ h => h) ⟨c0, c1, cz, cb⟩ (.inl ⟨rfl, fun W hW => ?yq1_6⟩) ?_
                case yq1_6 => (obtain ⟨a0, a1, a2, a3⟩ := hW; go_simp) <;> with_reducible rfl
                simp only [Act.put, List.setIfInBounds_toArray, List.set_cons_zero, List.set_cons_succ]
                refine wpAnyK_take (i := 7) (some 99) ?vq1_7 rfl rfl (by kernel_rfl) (fun _ _ _ h => h) ⟨c0, c1, cz, cb⟩ (.inl ⟨rfl, fun W hW => ?yq1_7⟩) ?_
                case yq1_7 => (obtain ⟨a0, a1, a2, a3⟩ := hW; go_simp) <;> with_reducible rfl
                simp only [Act.put, List.setIfInBounds_toArray, List.set_cons_zero, List.set_cons_succ]
                refine wpAnyK_take (i := 8) (some 100) ?vq1_8 rfl rfl (by kernel_rfl) (fun _ _ _ h => h) ⟨c0, c1, cz, cb⟩ (.inl ⟨rfl, fun W hW => ?yq1_8⟩) ?_
                case yq1_8 => (obtain ⟨a0, a1, a2, a3⟩ := hW; go_simp) <;> with_reducible rfl
                simp only [Act.put, List.setIfInBounds_toArray, List.set_cons_zero, List.set_cons_succ]
                refine wpAnyK_take (i := 9) (some 101) ?vq1_9 rfl rfl (by kernel_rfl) (fun _ _ _ h => h) ⟨c0, c1, cz, cb⟩ (.inl ⟨rfl, fun W hW => ?yq1_9⟩) ?_
                case yq1_9 => (obtain ⟨a0, a1, a2, a3⟩ := hW; go_simp) <;> with_reducible rfl
                simp only [Act.put, List.setIfInBounds_toArray, List.set_cons_zero, List.set_cons_succ]
                refine wpAnyK_take (i := 10) (some 102) ?vq1_10 rfl rfl (by kernel_rfl) (fun _ _ _ h => h) ⟨c0, c1, cz, cb⟩ (.inl ⟨rfl, fun W hW => ?yq1_10⟩) ?_
                case yq1_10 => (obtain ⟨a0, a1, a2, a3⟩ := hW; go_simp) <;> with_reducible rfl
                simp only [Act.put, List.setIfInBounds_toArray, List.set_cons_zero, List.set_cons_succ]
                refine wpAnyK_take (i := 11) (some 103) ?vq1_11 rfl rfl (by kernel_rfl) (fun _ _ _ h => h) ⟨c0, c1, cz, cb⟩ (.inl ⟨rfl, fun W hW => ?yq1_11⟩) ?_
                case yq1_11 => (obtain ⟨a0, a1, a2, a3⟩ := hW; go_simp) <;> with_reducible rfl
                simp only [Act.put, List.setIfInBounds_toArray, List.set_cons_zero, List.set_cons_succ]
                refine wpAnyK_take (i := 12) (some 104) ?vq1_12 rfl rfl (by kernel_rfl) (fun _ _ _ h => h) ⟨c0, c1, cz, cb⟩ (.inl ⟨rfl, fun W hW => ?yq1_12⟩) ?_
                case yq1_12 => (obtain ⟨a0, a1, a2, a3⟩ := hW; go_simp) <;> with_reducible rfl
                simp only [Act.put, List.setIfInBounds_toArray, List.set_cons_zero, List.set_cons_succ]
                refine wpAnyK_take (i := 13) (some 105) ?vq1_13 rfl rfl (by kernel_rfl) (fun _ _ _ h => h) ⟨c0, c1, cz, cb⟩ (.inl ⟨rfl, fun W hW => ?yq1_13⟩) ?_
                case yq1_13 => (obtain ⟨a0, a1, a2, a3⟩ := hW; go_simp) <;> with_reducible rfl
                simp only [Act.put, List.setIfInBounds_toArray, List.set_cons_zero, List.set_cons_succ]
                refine wpAnyK_take (i := 14) (some 106) ?vq1_14 rfl rfl (by kernel_rfl) (fun _ _ _ h => h) ⟨c0, c1, cz, cb⟩ (.inl ⟨rfl, fun W hW => ?yq1_14⟩) ?_
                case yq1_14 => (obtain ⟨a0, a1, a2, a3⟩ := hW; go_simp) <;> with_reducible rfl
                simp only [Act.put, List.setIfInBounds_toArray, List.set_cons_zero, List.set_cons_succ]
                refine wpAnyK_take (i := 15) (some 107) ?vq1_15 rfl rfl (by kernel_rfl) (fun _ _ _ h => h) ⟨c0, c1, cz, cb⟩ (.inl ⟨rfl, fun W hW => ?yq1_15⟩) ?_
                case yq1_15 => (obtain ⟨a0, a1, a2, a3⟩ := hW; go_simp) <;> with_reducible rfl
                simp only [Act.put, List.setIfInBounds_toArray, List.set_cons_zero, List.set_cons_succ]
                refine wpAnyK_take (i := 16) (some 108) ?vq1_16 rfl rfl (by kernel_rfl) (fun _ _ _ h => h) ⟨c0, c1, cz, cb⟩ (.inl ⟨rfl, fun W hW => ?yq1_16⟩) ?_
                case yq1_16 => (obtain ⟨a0, a1, a2, a3⟩ := hW; go_simp) <;> with_reducible rfl
                simp only [Act.put, List.setIfInBounds_toArray, List.set_cons_zero, List.set_cons_succ]
                refine wpAnyK_take (i := 17) (some 109) ?vq1_17 rfl rfl (by kernel_rfl) (fun _ _ _ h => h) ⟨c0, c1, cz, cb⟩ (.inl ⟨rfl, fun W hW => ?yq1_17⟩) ?_
                case yq1_17 => (obtain ⟨a0, a1, a2, a3⟩ := hW; go_simp) <;> with_reducible rfl
                simp only [Act.put, List.setIfInBounds_toArray, List.set_cons_zero, List.set_cons_succ]
                refine wpAnyK_step (j := 18) (some 110) rfl rfl (by kernel_rfl) rfl fun K hK => ?_
                have hdr : Fr [] wr wr.drew := (Fr.refl [] wr).drew
                refine wp_call_f (l := [.tmp 109]) rfl [.int .u8 (b.toNat : Int)] rfl (enter_filled _) ((filled_any wr.drew b).mono ?_)
                rintro e w5 ⟨rfl, hby, hf5⟩
                have hf5' : Fr [] wr w5 := hdr.trans hf5 (by simp)
                refine ⟨_, rfl, hK _ _ (fun _ => HSW.out _ (HPK.out.frame.trans hf5' (by simp))) ?_⟩
                simp only [Act.put, List.setIfInBounds_toArray, List.set_cons_zero, List.set_cons_succ]
                clear hK
                refine wpAnyK_step (j := 19) (some 111) rfl rfl (by kernel_rfl) rfl fun K hK => ?_
                refine wp_call_f (l := [.tmp 92, .tmp 101, .tmp 110]) rfl [.pointer (some ⟨g, 0, none⟩), .int .i64 (m3 z : Int), .slice (some ⟨wr.drew.heap.size, 0, none⟩) 512 512] rfl (enter_pwrite _) ((write_Y (HPK.out.stay hf5') HBR.out (m3 z) (by rw [HN4.out]; exact hmz) _ (List.replicate 512 b) _ hby (by rw [List.length_replicate]; exact Nat.le_refl _)).mono ?_)
                rintro e w6 ⟨rfl, hp6, _⟩
                refine ⟨_, rfl, hK _ _ (fun _ => HSW.out _ hp6.frame) ?_⟩
                simp only [Act.put, List.setIfInBounds_toArray, List.set_cons_zero, List.set_cons_succ]
                refine wpAnyK_done (by kernel_rfl) ?_ _
                have HX6 : Hid (InC W d g s o (.int .i64 ((k : Int) + 1)) w6) := Lib.hid ⟨k + 1, by have := HPL.out; omega, by go_num, by rw [HTK.out, puts_snoc]; exact hp6⟩
                clear hK hp6 hby hf5 hf5' hdr c0 c1 cz cb
                go_wp2_with fail
                go_roundw
                case rel => exact HX6.out
                case measure => simp [intOf]; omega
              · have hkx := hkb
                have hke : k = (prs o).length := by have := HPL.out; omega
                have hpk := HPK.out
                rw [hke, List.take_of_length_le (Nat.le_refl _)] at hpk
                have hr5 := HRS.out.puts (prs_lt o)
                have hd5 : (s.puts (prs o)).D.done ≤ 300000 * i := by rw [puts_eq]; exact hdn
                have hdd := commit_done (s.puts (prs o)) hr5.held (by rw [hr5.n]; omega)
                have hcm := hr5.commit (by omega)
                have HCM := Lib.hid (commit_Y hpk (by omega))
                have HTS6 : Hid (TSt (1 + 3 * (i + 1)) (s.puts (prs o)).commit.1) := Lib.hid (by
                  rcases hcm with ⟨_, a2, _⟩ | ⟨_, a2, a3⟩
                  · exact .inl ⟨_, a2.mono (by omega)⟩
                  · exact .inr ⟨a2, fun K => (a3 K).elim (fun h => ⟨_, h.mono (by omega)⟩) (fun h => ⟨_, h.mono (by omega)⟩)⟩)
                have hd6 : (s.puts (prs o)).commit.1.D.done ≤ 300000 * (i + 1) := by omega
                generalize (s.puts (prs o)).commit = sc at *
                clear hpk hr5 hcm hke hd5 hdd
                go_wp2_with fail
                refine HCM.out.mono ?_
                rintro e w6 ⟨rfl, hp6, _⟩
                have HP6 := Lib.hid hp6
                clear hp6
                go_wp2_with fail
                go_roundw
                case rel => exact ⟨i + 1, by omega, by go_num, sc.1, HTS6.out, hd6, HP6.out⟩
                case measure => simp [intOf]; omega
            · have hkx := hkz
              have hke : k = (prs o).length := by have := HPL.out; omega
              have hpk := HPK.out
              rw [hke, List.take_of_length_le (Nat.le_refl _)] at hpk
              have hr5 := HRS.out.puts (prs_lt o)
              have hd5 : (s.puts (prs o)).D.done ≤ 300000 * i := by rw [puts_eq]; exact hdn
              have hdd := commit_done (s.puts (prs o)) hr5.held (by rw [hr5.n]; omega)
              have hcm := hr5.commit (by omega)
              have HCM := Lib.hid (commit_Y hpk (by omega))
              have HTS6 : Hid (TSt (1 + 3 * (i + 1)) (s.puts (prs o)).commit.1) := Lib.hid (by
                rcases hcm with ⟨_, a2, _⟩ | ⟨_, a2, a3⟩
                · exact .inl ⟨_, a2.mono (by omega)⟩
                · exact .inr ⟨a2, fun K => (a3 K).elim (fun h => ⟨_, h.mono (by omega)⟩) (fun h => ⟨_, h.mono (by omega)⟩)⟩)
              have hd6 : (s.puts (prs o)).commit.1.D.done ≤ 300000 * (i + 1) := by omega
              generalize (s.puts (prs o)).commit = sc at *
              clear hpk hr5 hcm hke hd5 hdd
              go_wp2_with fail
              refine HCM.out.mono ?_
              rintro e w6 ⟨rfl, hp6, _⟩
              have HP6 := Lib.hid hp6
              clear hp6
              go_wp2_with fail
              go_roundw
              case rel => exact ⟨i + 1, by omega, by go_num, sc.1, HTS6.out, hd6, HP6.out⟩
              case measure => simp [intOf]; omega
        · rw [hdead] at HDE
          clear hdead
          go_wp2_with fail
          refine HDE.out.mono ?_
          rintro e w' ⟨rfl, rfl⟩
          clear HDE
          obtain ⟨f, hoff⟩ := HTS.out.closed K1
          obtain ⟨H4, t4, lv4, nw4, de4, pe4, fi4⟩ := hoff.open_ (by omega)
          have hdn4 : (s.D.reopen K1).done ≤ 3600000 := by show s.D.done ≤ _; omega
          obtain ⟨gk, hbk, hgk⟩ := HK1.out.here HPX.out.frame
          have HRE := Lib.hid (reopen_X HPX.out.disk _ K1 gk hbk hgk (by omega))
          generalize s.D.reopen K1 = D4 at *
          have T4 := Lib.hid t4; have LV := Lib.hid lv4
          clear hoff t4 lv4 hbk hgk
          go_wp2_with fail
          refine HRE.out.mono ?_
          rintro e w4 ⟨rfl, hd4, _⟩
          have HD4 := Lib.hid hd4
          clear hd4 HRE
          go_wp2_with fail
          refine (open_Y (n := 4) (log := 60) HD4.out de4 pe4 (by omega) (by omega) (by omega) fi4 nw4 T4.out).mono ?_
          rintro e w5 ⟨g5, rfl, hp5, _⟩
          have HP5 := Lib.hid hp5
          have hd5 : (openP 4 60 D4 H4).D.done ≤ 3600000 := hdn4
          clear hp5 HD4 T4 de4 pe4 fi4 nw4 hdn4
          generalize openP 4 60 D4 H4 = s5 at *
          have HSH := Lib.hid (shown_any HP5.out LV.out.br LV.out.calm LV.out.n f (fun k hk => LV.out.page hk))
          go_wp2_with fail
          refine HSH.out.mono ?_
          rintro e w6 ⟨rfl, hf6⟩
          have HP6 := Lib.hid (HP5.out.stay hf6)
          clear hf6 HSH
          go_wp2_with (first
            | (with_reducible refine wpList_alloc_z rfl 42 rfl (.agg (outF f 0).toArray) (outF f 0).toArray (zero_4 f) rfl ?_)
            | (with_reducible refine wpList_store_z (W := w6) rfl 42 (.tmp 20) (.tmp 125) rfl (outF f 4) rfl rfl rfl ?zi ?zl ?z1 ?_))
          case zi => rw [outF_len]; exact size_4
          case zl => show (outF f 0).length = (outF f 4).length; rw [outF_len, outF_len]
          case z1 => exact outF_one f 4
          intro w7 hb7 hf7 hz7
          have HP7 := Lib.hid (HP6.out.fr hf7)
          have HB7 := Lib.hid hb7
          have hx7 : w6.heap.size < w7.heap.size := by omega
          clear hb7 hf7 hz7
          have hlv8 := LV.out.limited (m2 : Int) (by omega)
          have hd8 : ({ s5 with D := s5.D.limited (m2 : Int) } : PS).D.done ≤ 3600000 := hd5
          have HLM := Lib.hid (limit_Y HP7.out (m2 : Int) (by omega))
          generalize ({ s5 with D := s5.D.limited (m2 : Int) } : PS) = s8 at *
          obtain ⟨hg, hoff9⟩ := hlv8.checked (by omega)
          have HG := Lib.hid hg; have HO9 := Lib.hid hoff9
          clear hg hoff9 hlv8
          go_wp2_with fail
          refine HLM.out.mono ?_
          rintro e w8 ⟨rfl, hp8, hk8⟩
          have HB8 := Lib.hid (hk8.blk HB7.out (.inr ⟨Nat.le_refl _, hx7⟩))
          have HCK := Lib.hid (check_Y hp8 (by omega))
          clear hp8 hk8 HLM
          generalize s8.check = r9 at *
          obtain ⟨s9, g9⟩ := r9
          go_wp2_with fail
          refine HCK.out.mono ?_
          rintro e w9 ⟨rfl, hp9, hk9⟩
          have HP9 := Lib.hid hp9
          have HB9 := Lib.hid (hk9.blk HB8.out (.inr ⟨Nat.le_refl _, hx7⟩))
          clear hp9 hk9 HCK
          obtain ⟨H10, t10, lv10, nw10, de10, pe10, fi10⟩ := (HO9.out K2).open_ (by omega)
          obtain ⟨gk2, hbk2, hgk2⟩ := HK2.out.here HP9.out.frame
          have HRE := Lib.hid (reopen_X HP9.out.disk _ K2 gk2 hbk2 hgk2 (by omega))
          have T10 := Lib.hid t10; have LV10 := Lib.hid lv10
          clear t10 lv10 hbk2 hgk2 HO9
          generalize s9.D.reopen K2 = D10 at *
          go_wp2_with fail
          refine HRE.out.mono ?_
          rintro e w10 ⟨rfl, hd10, hk10⟩
          have HD10 := Lib.hid hd10
          have HB10 := Lib.hid (hk10.blk HB9.out (.inr ⟨Nat.le_refl _, hx7⟩))
          clear hd10 hk10 HRE
          go_wp2_with fail
          refine (open_Y (n := 4) (log := 60) HD10.out de10 pe10 (by omega) (by omega) (by omega) fi10 nw10 T10.out).mono ?_
          rintro e w11 ⟨g11, rfl, hp11, hk11⟩
          have HP11 := Lib.hid hp11
          have HB11 := Lib.hid (hk11.blk HB10.out (.inr ⟨Nat.le_refl _, hx7⟩))
          clear hp11 hk11 HD10 T10 de10 pe10 fi10 nw10
          generalize openP 4 60 D10 H10 = s11 at *
          have HSH := Lib.hid (shown_any HP11.out LV10.out.br LV10.out.calm LV10.out.n f (fun k hk => LV10.out.page hk))
          go_wp2_with fail
          refine HSH.out.mono ?_
          rintro e w12 ⟨rfl, hf12⟩
          have HP12 := Lib.hid (HP11.out.stay hf12)
          have HB12 := Lib.hid (HB11.out.fr hf12 (by simp))
          clear hf12 HSH
          go_wp2_with (first
            | (with_reducible refine wpList_alloc_z rfl 42 rfl (.agg (outF f 0).toArray) (outF f 0).toArray (zero_4 f) rfl ?_)
            | (with_reducible refine wpList_store_z (W := w12) rfl 42 (.tmp 25) (.tmp 144) rfl (outF f 4) rfl rfl rfl ?yi ?yl ?y1 ?_))
          case yi => rw [outF_len]; exact size_4
          case yl => show (outF f 0).length = (outF f 4).length; rw [outF_len, outF_len]
          case y1 => exact outF_one f 4
          intro w13 hb13 hf13 hz13
          have HP13 := Lib.hid (HP12.out.stay hf13)
          have hA12 := HB12.out.fr hf13 (by simp)
          have hB12 := hb13
          have a0 : w13.cell? ⟨w6.heap.size, 0, none⟩ = some (.int .u8 ((f 0).toNat : Int)) := hA12.at_ rfl
          have a1 : w13.cell? ⟨w6.heap.size, 1, none⟩ = some (.int .u8 ((f 1).toNat : Int)) := hA12.at_ rfl
          have a2 : w13.cell? ⟨w6.heap.size, 2, none⟩ = some (.int .u8 ((f 2).toNat : Int)) := hA12.at_ rfl
          have a3 : w13.cell? ⟨w6.heap.size, 3, none⟩ = some (.int .u8 ((f 3).toNat : Int)) := hA12.at_ rfl
          have b0 : w13.cell? ⟨w12.heap.size, 0, none⟩ = some (.int .u8 ((f 0).toNat : Int)) := hB12.at_ rfl
          have b1 : w13.cell? ⟨w12.heap.size, 1, none⟩ = some (.int .u8 ((f 1).toNat : Int)) := hB12.at_ rfl
          have b2 : w13.cell? ⟨w12.heap.size, 2, none⟩ = some (.int .u8 ((f 2).toNat : Int)) := hB12.at_ rfl
          have b3 : w13.cell? ⟨w12.heap.size, 3, none⟩ = some (.int .u8 ((f 3).toNat : Int)) := hB12.at_ rfl
          have heq : ∀ w, (binOp .eql 42 (.agg #[.int .u8 ((f 0).toNat : Int), .int .u8 ((f 1).toNat : Int), .int .u8 ((f 2).toNat : Int), .int .u8 ((f 3).toNat : Int)]) (.agg #[.int .u8 ((f 0).toNat : Int), .int .u8 ((f 1).toNat : Int), .int .u8 ((f 2).toNat : Int), .int .u8 ((f 3).toNat : Int)])).run Try.prog w = .ok (.bool true) w := fun w => eq_4 f w
          clear hA12 hB12 hb13 hf13 hz13
          have hg9 : g9 = 0 ∨ g9 = 10 := HG.out
          rcases hg9 with rfl | rfl
          · go_wp2_with fail
            go_ret
            exact ⟨rfl, HP13.out.frame⟩
          · go_wp2_with fail
            go_ret
            exact ⟨rfl, HP13.out.frame⟩
      · obtain rfl : i = l.length := by omega
        clear HDE
        obtain ⟨f, hoff⟩ := HTS.out.closed K1
        obtain ⟨H4, t4, lv4, nw4, de4, pe4, fi4⟩ := hoff.open_ (by omega)
        have hdn4 : (s.D.reopen K1).done ≤ 3600000 := by show s.D.done ≤ _; omega
        obtain ⟨gk, hbk, hgk⟩ := HK1.out.here HPX.out.frame
        have HRE := Lib.hid (reopen_X HPX.out.disk _ K1 gk hbk hgk (by omega))
        generalize s.D.reopen K1 = D4 at *
        have T4 := Lib.hid t4; have LV := Lib.hid lv4
        clear hoff t4 lv4 hbk hgk
        go_wp2_with fail
        refine HRE.out.mono ?_
        rintro e w4 ⟨rfl, hd4, _⟩
        have HD4 := Lib.hid hd4
        clear hd4 HRE
        go_wp2_with fail
        refine (open_Y (n := 4) (log := 60) HD4.out de4 pe4 (by omega) (by omega) (by omega) fi4 nw4 T4.out).mono ?_
        rintro e w5 ⟨g5, rfl, hp5, _⟩
        have HP5 := Lib.hid hp5
        have hd5 : (openP 4 60 D4 H4).D.done ≤ 3600000 := hdn4
        clear hp5 HD4 T4 de4 pe4 fi4 nw4 hdn4
        generalize openP 4 60 D4 H4 = s5 at *
        have HSH := Lib.hid (shown_any HP5.out LV.out.br LV.out.calm LV.out.n f (fun k hk => LV.out.page hk))
        go_wp2_with fail
        refine HSH.out.mono ?_
        rintro e w6 ⟨rfl, hf6⟩
        have HP6 := Lib.hid (HP5.out.stay hf6)
        clear hf6 HSH
        go_wp2_with (first
          | (with_reducible refine wpList_alloc_z rfl 42 rfl (.agg (outF f 0).toArray) (outF f 0).toArray (zero_4 f) rfl ?_)
          | (with_reducible refine wpList_store_z (W := w6) rfl 42 (.tmp 20) (.tmp 125) rfl (outF f 4) rfl rfl rfl ?ui ?ul ?u1 ?_))
        case ui => rw [outF_len]; exact size_4
        case ul => show (outF f 0).length = (outF f 4).length; rw [outF_len, outF_len]
        case u1 => exact outF_one f 4
        intro w7 hb7 hf7 hz7
        have HP7 := Lib.hid (HP6.out.fr hf7)
        have HB7 := Lib.hid hb7
        have hx7 : w6.heap.size < w7.heap.size := by omega
        clear hb7 hf7 hz7
        have hlv8 := LV.out.limited (m2 : Int) (by omega)
        have hd8 : ({ s5 with D := s5.D.limited (m2 : Int) } : PS).D.done ≤ 3600000 := hd5
        have HLM := Lib.hid (limit_Y HP7.out (m2 : Int) (by omega))
        generalize ({ s5 with D := s5.D.limited (m2 : Int) } : PS) = s8 at *
        obtain ⟨hg, hoff9⟩ := hlv8.checked (by omega)
        have HG := Lib.hid hg; have HO9 := Lib.hid hoff9
        clear hg hoff9 hlv8
        go_wp2_with fail
        refine HLM.out.mono ?_
        rintro e w8 ⟨rfl, hp8, hk8⟩
        have HB8 := Lib.hid (hk8.blk HB7.out (.inr ⟨Nat.le_refl _, hx7⟩))
        have HCK := Lib.hid (check_Y hp8 (by omega))
        clear hp8 hk8 HLM
        generalize s8.check = r9 at *
        obtain ⟨s9, g9⟩ := r9
        go_wp2_with fail
        refine HCK.out.mono ?_
        rintro e w9 ⟨rfl, hp9, hk9⟩
        have HP9 := Lib.hid hp9
        have HB9 := Lib.hid (hk9.blk HB8.out (.inr ⟨Nat.le_refl _, hx7⟩))
        clear hp9 hk9 HCK
        obtain ⟨H10, t10, lv10, nw10, de10, pe10, fi10⟩ := (HO9.out K2).open_ (by omega)
        obtain ⟨gk2, hbk2, hgk2⟩ := HK2.out.here HP9.out.frame
        have HRE := Lib.hid (reopen_X HP9.out.disk _ K2 gk2 hbk2 hgk2 (by omega))
        have T10 := Lib.hid t10; have LV10 := Lib.hid lv10
        clear t10 lv10 hbk2 hgk2 HO9
        generalize s9.D.reopen K2 = D10 at *
        go_wp2_with fail
        refine HRE.out.mono ?_
        rintro e w10 ⟨rfl, hd10, hk10⟩
        have HD10 := Lib.hid hd10
        have HB10 := Lib.hid (hk10.blk HB9.out (.inr ⟨Nat.le_refl _, hx7⟩))
        clear hd10 hk10 HRE
        go_wp2_with fail
        refine (open_Y (n := 4) (log := 60) HD10.out de10 pe10 (by omega) (by omega) (by omega) fi10 nw10 T10.out).mono ?_
        rintro e w11 ⟨g11, rfl, hp11, hk11⟩
        have HP11 := Lib.hid hp11
        have HB11 := Lib.hid (hk11.blk HB10.out (.inr ⟨Nat.le_refl _, hx7⟩))
        clear hp11 hk11 HD10 T10 de10 pe10 fi10 nw10
        generalize openP 4 60 D10 H10 = s11 at *
        have HSH := Lib.hid (shown_any HP11.out LV10.out.br LV10.out.calm LV10.out.n f (fun k hk => LV10.out.page hk))
        go_wp2_with fail
        refine HSH.out.mono ?_
        rintro e w12 ⟨rfl, hf12⟩
        have HP12 := Lib.hid (HP11.out.stay hf12)
        have HB12 := Lib.hid (HB11.out.fr hf12 (by simp))
        clear hf12 HSH
        go_wp2_with (first
          | (with_reducible refine wpList_alloc_z rfl 42 rfl (.agg (outF f 0).toArray) (outF f 0).toArray (zero_4 f) rfl ?_)
          | (with_reducible refine wpList_store_z (W := w12) rfl 42 (.tmp 25) (.tmp 144) rfl (outF f 4) rfl rfl rfl ?vi ?vl ?v1 ?_))
        case vi => rw [outF_len]; exact size_4
        case vl => show (outF f 0).length = (outF f 4).length; rw [outF_len, outF_len]
        case v1 => exact outF_one f 4
        intro w13 hb13 hf13 hz13
        have HP13 := Lib.hid (HP12.out.stay hf13)
        have hA12 := HB12.out.fr hf13 (by simp)
        have hB12 := hb13
        have a0 : w13.cell? ⟨w6.heap.size, 0, none⟩ = some (.int .u8 ((f 0).toNat : Int)) := hA12.at_ rfl
        have a1 : w13.cell? ⟨w6.heap.size, 1, none⟩ = some (.int .u8 ((f 1).toNat : Int)) := hA12.at_ rfl
        have a2 : w13.cell? ⟨w6.heap.size, 2, none⟩ = some (.int .u8 ((f 2).toNat : Int)) := hA12.at_ rfl
        have a3 : w13.cell? ⟨w6.heap.size, 3, none⟩ = some (.int .u8 ((f 3).toNat : Int)) := hA12.at_ rfl
        have b0 : w13.cell? ⟨w12.heap.size, 0, none⟩ = some (.int .u8 ((f 0).toNat : Int)) := hB12.at_ rfl
        have b1 : w13.cell? ⟨w12.heap.size, 1, none⟩ = some (.int .u8 ((f 1).toNat : Int)) := hB12.at_ rfl
        have b2 : w13.cell? ⟨w12.heap.size, 2, none⟩ = some (.int .u8 ((f 2).toNat : Int)) := hB12.at_ rfl
        have b3 : w13.cell? ⟨w12.heap.size, 3, none⟩ = some (.int .u8 ((f 3).toNat : Int)) := hB12.at_ rfl
        have heq : ∀ w, (binOp .eql 42 (.agg #[.int .u8 ((f 0).toNat : Int), .int .u8 ((f 1).toNat : Int), .int .u8 ((f 2).toNat : Int), .int .u8 ((f 3).toNat : Int)]) (.agg #[.int .u8 ((f 0).toNat : Int), .int .u8 ((f 1).toNat : Int), .int .u8 ((f 2).toNat : Int), .int .u8 ((f 3).toNat : Int)])).run Try.prog w = .ok (.bool true) w := fun w => eq_4 f w
        clear hA12 hB12 hb13 hf13 hz13
        have hg9 : g9 = 0 ∨ g9 = 10 := HG.out
        rcases hg9 with rfl | rfl
        · go_wp2_with fail
          go_ret
          exact ⟨rfl, HP13.out.frame⟩
        · go_wp2_with fail
          go_ret
          exact ⟨rfl, HP13.out.frame⟩

end Go.Proofs.Ytidpleejgalljaa
