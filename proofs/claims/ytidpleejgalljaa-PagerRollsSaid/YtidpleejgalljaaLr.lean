/-
  The walk of PagerRolls: for all inputs it answers true and leaves old memory alone.
-/
import Derived.Test.YtidpleejgalljaaLc
namespace Go.Proofs.Ytidpleejgalljaa
open Go.RowKit

def InR (W : World) (d g : Nat) (s : PS) (o : RndA) (X : Nat → Prop) (K : World → Prop) (v : Value) (wr : World) : Prop :=
  ∃ k : Nat, k ≤ (prs o).length ∧ v = .int .i64 (k : Int) ∧ PgX W wr d g (s.puts ((prs o).take k)) X ∧ K wr
def OutR (W : World) (d g c L : Nat) (X : Nat → Prop) (K : World → Prop) (P : PS → Prop) (v : Value) (wr : World) : Prop :=
  ∃ i : Nat, i ≤ L ∧ v = .int .i64 (i : Int) ∧ ∃ (s : PS) (f : Nat → UInt8), RSt c s f ∧ P s ∧ PgX W wr d g s X ∧ K wr
def PDone (s : PS) : Prop := s.D.done = 0 ∧ s.held.length ≤ s.n
def PFrom (s2 s : PS) : Prop := ∃ q : List (Nat × UInt8), s = s2.puts q
theorem PDone.puts {s : PS} (h : PDone s) (l : List (Nat × UInt8)) : PDone (s.puts l) := by rw [puts_eq]; exact h
theorem PFrom.puts {s2 s : PS} (h : PFrom s2 s) (l : List (Nat × UInt8)) : PFrom s2 (s.puts l) := by
  obtain ⟨q, rfl⟩ := h
  exact ⟨q ++ l, by unfold PS.puts; rw [List.foldl_append]⟩
theorem PFrom.rolled {s2 s : PS} (h : PFrom s2 s) (h0 : s2.late = []) : ({ s with late := [] } : PS) = s2 := by
  obtain ⟨q, rfl⟩ := h
  rw [puts_eq]
  cases s2
  simp only at h0
  subst h0
  rfl
theorem few_facts {l : List RndA} (h : fewB l = true) : l.length ≤ 12 ∧ ∀ o ∈ l, o.zs.length ≤ 8 ∧ o.bs.length ≤ 8 := by
  unfold fewB at h
  rw [Bool.and_eq_true] at h
  refine ⟨of_decide_eq_true h.1, fun o ho => ?_⟩
  have h := List.all_eq_true.1 h.2 o ho
  unfold okRnd at h
  rw [Bool.and_eq_true] at h
  exact ⟨of_decide_eq_true h.1, of_decide_eq_true h.2⟩
set_option maxRecDepth 100000 in
set_option maxHeartbeats 4000000 in
theorem rolls_walk (W : World) (lv mv : Value) (l m : List RndA) (hl : ArgRnds W lv l) (hmm : ArgRnds W mv m) :
    Calls Try.prog 5 #[lv, mv] W fun e w' => e = .returned (.bool true) ∧ Fr [] W w' := by
  have HL := Lib.hid hl; have HM := Lib.hid hmm
  obtain ⟨A, cap, gr, offr, rfl, hm, hel⟩ := hl
  obtain ⟨A2, cap2, gr2, offr2, rfl, hm2, hel2⟩ := hmm
  unfold maxLen at hm hm2
  have HEL := Lib.hid hel; have HEM := Lib.hid hel2
  clear hel hel2
  go_enter Try.func5, Try.ntmps5
  go_wp2_with fail
  refine (awake08 W).mono ?_
  rintro e w1 ⟨rfl, hf1⟩
  have HF1 := Lib.hid hf1; clear hf1
  go_wp2_with fail
  refine (few_any HL.out HF1.out).mono ?_
  rintro e w2 ⟨rfl, rfl⟩
  cases hfw : fewB l with
  | false =>
    clear hfw
    go_wp2
    go_ret
    exact ⟨rfl, HF1.out⟩
  | true =>
    obtain ⟨hlen, hok⟩ := few_facts hfw
    have HOK := Lib.hid hok
    clear hfw hok
    go_wp2_with fail
    refine (few_any HM.out HF1.out).mono ?_
    rintro e w2 ⟨rfl, rfl⟩
    cases hfw : fewB m with
    | false =>
      clear hfw
      go_wp2
      go_ret
      exact ⟨rfl, HF1.out⟩
    | true =>
      obtain ⟨hlen2, hok2⟩ := few_facts hfw
      have HOM := Lib.hid hok2
      clear hfw hok2
      obtain ⟨H1, ht1, hi1, hn1⟩ := (PDisk.new (n := 4) (log := 60) (N := 100) (by omega) (by omega) (by omega) (by omega) (by omega)).open_ (by omega)
      have HR1 := Lib.hid (RSt.first hi1)
      have HFIT := Lib.hid hi1.fit
      have HHE := Lib.hid hi1.held.few
      clear hi1
      go_wp2_with fail
      refine (new_X (X := fun _ => False) W w1 100 (by omega) (by omega) HF1.out (by simp)).mono ?_
      rintro e w2 ⟨d, rfl, hd2, _⟩
      have HD2 := Lib.hid hd2; clear hd2
      go_wp2_with fail
      refine (open_Y (n := 4) (log := 60) HD2.out rfl rfl (by omega) (by omega) (by omega) HFIT.out hn1 ht1).mono ?_
      rintro e w3 ⟨g, rfl, hp3, _⟩
      have HP3 := Lib.hid hp3
      have hd0 : PDone (openP 4 60 (DM.new 100) H1) := ⟨rfl, HHE.out⟩
      have HD0 := Lib.hid hd0
      clear hp3 hn1 ht1 HD2 HFIT HF1 HL HM hd0 HHE
      generalize openP 4 60 (DM.new 100) H1 = s1 at *
      have HPP : Hid (∀ (s : PS) (o : RndA), PDone s → PDone (s.puts (prs o))) := Lib.hid (fun s o h => h.puts _)
      have HKC : Hid (∀ w w' : World, Kp (fun _ => False) w w' → True → True) := Lib.hid (fun _ _ _ h => h)
      go_wp2_with fail
      go_loopw [10] (fun v wr => OutR W d g 1 l.length (fun _ => False) (fun _ => True) PDone v wr) (fun v _ => l.length - (intOf v).toNat)
      case atStart => exact ⟨0, Nat.zero_le _, rfl, s1, _, HR1.out, HD0.out, HP3.out, trivial⟩
      case round =>
        obtain ⟨wo, rfl⟩ : ∃ wo : World, wo = wr := ⟨_, rfl⟩
        obtain ⟨i, hi, rfl, s, f, hrs, hps, hpx, hkx0⟩ := hrel
        have HRS := Lib.hid hrs; have HPX := Lib.hid hpx; have HPS := Lib.hid hps; have HKX := Lib.hid hkx0
        clear hrs hps hpx hkx0
        by_cases hil : i < l.length
        · clear hlen2
          obtain ⟨o, ho⟩ : ∃ o, l[i]? = some o := ⟨_, List.getElem?_eq_getElem hil⟩
          obtain ⟨rfl, hat⟩ := HEL.out i o ho
          obtain ⟨hzm, zA, zc, hzv, hzc, hzs⟩ := hat.a
          obtain ⟨hbm, bg, ⟨bA, bc, bo, hbv, hbc, hbs⟩, _⟩ := hat.b
          have hoo := HOK.out o (List.mem_of_getElem? ho)
          have HAT := Lib.hid hat; have HZS := Lib.hid hzs; have HBS := Lib.hid hbs; have HZV := Lib.hid hzv; have HBV := Lib.hid hbv
          have hpl := prs_len o
          have HPL := Lib.hid hpl
          clear ho hat hzs hbs hzm hbm hzv hbv hpl
          go_wp2_with fail
          go_loopw [11] (fun v wr => InR W d g s o (fun _ => False) (fun _ => True) v wr) (fun v _ => (prs o).length + 1 - (intOf v).toNat)
          case atStart => exact ⟨0, Nat.zero_le _, rfl, HPX.out, HKX.out⟩
          case round =>
            obtain ⟨k, hk, rfl, hpk, hkx⟩ := hrel
            obtain ⟨c0, c1, _, _⟩ := HAT.out.fr hpk.frame
            rw [HZV.out] at c0
            rw [HBV.out] at c1
            have HPK := Lib.hid hpk; have HKK := Lib.hid hkx
            clear hpk hkx
            by_cases hkz : k < o.zs.length
            · by_cases hkb : k < o.bs.length
              · obtain ⟨z, hz⟩ : ∃ z, o.zs[k]? = some z := ⟨_, List.getElem?_eq_getElem hkz⟩
                obtain ⟨b, hb⟩ : ∃ b, o.bs[k]? = some b := ⟨_, List.getElem?_eq_getElem hkb⟩
                obtain ⟨zg, zo, rfl, hzc'⟩ := HZS.out (by omega)
                obtain ⟨rfl, hbc'⟩ := HBS.out (by omega)
                have cz := HPK.out.frame.keep (hzc' k z hz)
                have cb := HPK.out.frame.keep (hbc' k (.int .u8 (b.toNat : Int)) (by rw [bcells_at, hb]; rfl))
                have hSW : ∀ w' : World, Fr [] W w' → w'.cell? ⟨gr, offr + i * 4, none⟩ = some (.slice (some ⟨zg, zo, none⟩) o.zs.length zc) ∧ w'.cell? ⟨gr, offr + i * 4 + 1, none⟩ = some (.slice (some ⟨bg, bo, none⟩) o.bs.length bc) ∧ w'.cell? ⟨zg, zo + k, none⟩ = some (.int .i64 z) ∧ w'.cell? ⟨bg, bo + k, none⟩ = some (.int .u8 (b.toNat : Int)) := fun w' hf => by
                  obtain ⟨x0, x1, _, _⟩ := HAT.out.fr hf
                  rw [HZV.out] at x0
                  rw [HBV.out] at x1
                  exact ⟨x0, x1, hf.keep (hzc' k z hz), hf.keep (hbc' k (.int .u8 (b.toNat : Int)) (by rw [bcells_at, hb]; rfl))⟩
                have HSW := Lib.hid hSW
                have em := (m3_spec z).2
                have hmz := (m3_spec z).1
                have hbr : (s.puts ((prs o).take k)).br = false := by rw [puts_eq]; exact HRS.out.br
                have hn4 : (s.puts ((prs o).take k)).n = 4 := by rw [puts_eq]; exact HRS.out.n
                have htk := prs_take hz hb
                have HTK := Lib.hid htk; have HBR := Lib.hid hbr; have HN4 := Lib.hid hn4
                clear hz hb hzc' hbc' htk hbr hn4 hSW
                go_wp2_with fail
                refine wp_region_K (fun W' => W'.cell? ⟨gr, offr + i * 4, none⟩ = some (.slice (some ⟨zg, zo, none⟩) o.zs.length zc) ∧ W'.cell? ⟨gr, offr + i * 4 + 1, none⟩ = some (.slice (some ⟨bg, bo, none⟩) o.bs.length bc) ∧ W'.cell? ⟨zg, zo + k, none⟩ = some (.int .i64 z) ∧ W'.cell? ⟨bg, bo + k, none⟩ = some (.int .u8 (b.toNat : Int))) [0, 1, 2, 3, 4, 5, 6, 7, 8, 9, 10, 11, 12, 13, 14, 15, 16, 17] (by kernel_rfl) ?_
                refine wpAnyK_take (i := 0) (some 68) ?vq1_0 rfl rfl (by kernel_rfl) (fun _ _ _ h => h) ⟨c0, c1, cz, cb⟩ (.inl ⟨rfl, fun W hW => ?yq1_0⟩) ?_
                case yq1_0 => (obtain ⟨a0, a1, a2, a3⟩ := hW; go_simp) <;> with_reducible rfl
                simp only [Act.put, List.setIfInBounds_toArray, List.set_cons_zero, List.set_cons_succ]
                refine wpAnyK_take (i := 1) (some 69) ?vq1_1 rfl rfl (by kernel_rfl) (fun _ _ _ h => h) ⟨c0, c1, cz, cb⟩ (.inl ⟨rfl, fun W hW => ?yq1_1⟩) ?_
                case yq1_1 => (obtain ⟨a0, a1, a2, a3⟩ := hW; go_simp) <;> with_reducible rfl
                simp only [Act.put, List.setIfInBounds_toArray, List.set_cons_zero, List.set_cons_succ]
                refine wpAnyK_take (i := 2) (some 70) ?vq1_2 rfl rfl (by kernel_rfl) (fun _ _ _ h => h) ⟨c0, c1, cz, cb⟩ (.inl ⟨rfl, fun W hW => ?yq1_2⟩) ?_
                case yq1_2 => (obtain ⟨a0, a1, a2, a3⟩ := hW; go_simp) <;> with_reducible rfl
                simp only [Act.put, List.setIfInBounds_toArray, List.set_cons_zero, List.set_cons_succ]
                refine wpAnyK_take (i := 3) (some 71) ?vq1_3 rfl rfl (by kernel_rfl) (fun _ _ _ h => h) ⟨c0, c1, cz, cb⟩ (.inl ⟨rfl, fun W hW => ?yq1_3⟩) ?_
                case yq1_3 => (obtain ⟨a0, a1, a2, a3⟩ := hW; go_simp) <;> with_reducible rfl
                simp only [Act.put, List.setIfInBounds_toArray, List.set_cons_zero, List.set_cons_succ]
                refine wpAnyK_take (i := 4) (some 72) ?vq1_4 rfl rfl (by kernel_rfl) (fun _ _ _ h => h) ⟨c0, c1, cz, cb⟩ (.inl ⟨rfl, fun W hW => ?yq1_4⟩) ?_
                case yq1_4 => (obtain ⟨a0, a1, a2, a3⟩ := hW; go_simp) <;> with_reducible rfl
                simp only [Act.put, List.setIfInBounds_toArray, List.set_cons_zero, List.set_cons_succ]
                refine wpAnyK_take (i := 5) (some 73) ?vq1_5 rfl rfl (by kernel_rfl) (fun _ _ _ h => h) ⟨c0, c1, cz, cb⟩ (.inl ⟨rfl, fun W hW => ?yq1_5⟩) ?_
                case yq1_5 => (obtain ⟨a0, a1, a2, a3⟩ := hW; go_simp) <;> with_reducible rfl
                simp only [Act.put, List.setIfInBounds_toArray, List.set_cons_zero, List.set_cons_succ]
                refine wpAnyK_take (i := 6) (some 74) ?vq1_6 rfl rfl (by kernel_rfl) (fun _ _ _ h => h) ⟨c0, c1, cz, cb⟩ (.inl ⟨rfl, fun W hW => ?yq1_6⟩) ?_
                case yq1_6 => (obtain ⟨a0, a1, a2, a3⟩ := hW; go_simp) <;> with_reducible rfl
                simp only [Act.put, List.setIfInBounds_toArray, List.set_cons_zero, List.set_cons_succ]
                refine wpAnyK_take (i := 7) (some 75) ?vq1_7 rfl rfl (by kernel_rfl) (fun _ _ _ h => h) ⟨c0, c1, cz, cb⟩ (.inl ⟨rfl, fun W hW => ?yq1_7⟩) ?_
                case yq1_7 => (obtain ⟨a0, a1, a2, a3⟩ := hW; go_simp) <;> with_reducible rfl
                simp only [Act.put, List.setIfInBounds_toArray, List.set_cons_zero, List.set_cons_succ]
                refine wpAnyK_take (i := 8) (some 76) ?vq1_8 rfl rfl (by kernel_rfl) (fun _ _ _ h => h) ⟨c0, c1, cz, cb⟩ (.inl ⟨rfl, fun W hW => ?yq1_8⟩) ?_
                case yq1_8 => (obtain ⟨a0, a1, a2, a3⟩ := hW; go_simp) <;> with_reducible rfl
                simp only [Act.put, List.setIfInBounds_toArray, List.set_cons_zero, List.set_cons_succ]
                refine wpAnyK_take (i := 9) (some 77) ?vq1_9 rfl rfl (by kernel_rfl) (fun _ _ _ h => h) ⟨c0, c1, cz, cb⟩ (.inl ⟨rfl, fun W hW => ?yq1_9⟩) ?_
                case yq1_9 => (obtain ⟨a0, a1, a2, a3⟩ := hW; go_simp) <;> with_reducible rfl
                simp only [Act.put, List.setIfInBounds_toArray, List.set_cons_zero, List.set_cons_succ]
                refine wpAnyK_take (i := 10) (some 78) ?vq1_10 rfl rfl (by kernel_rfl) (fun _ _ _ h => h) ⟨c0, c1, cz, cb⟩ (.inl ⟨rfl, fun W hW => ?yq1_10⟩) ?_
                case yq1_10 => (obtain ⟨a0, a1, a2, a3⟩ := hW; go_simp) <;> with_reducible rfl
                simp only [Act.put, List.setIfInBounds_toArray, List.set_cons_zero, List.set_cons_succ]
                refine wpAnyK_take (i := 11) (some 79) ?vq1_11 rfl rfl (by kernel_rfl) (fun _ _ _ h => h) ⟨c0, c1, cz, cb⟩ (.inl ⟨rfl, fun W hW => ?yq1_11⟩) ?_
                case yq1_11 => (obtain ⟨a0, a1, a2, a3⟩ := hW; go_simp) <;> with_reducible rfl
                simp only [Act.put, List.setIfInBounds_toArray, List.set_cons_zero, List.set_cons_succ]
                refine wpAnyK_take (i := 12) (some 80) ?vq1_12 rfl rfl (by kernel_rfl) (fun _ _ _ h => h) ⟨c0, c1, cz, cb⟩ (.inl ⟨rfl, fun W hW => ?yq1_12⟩) ?_
                case yq1_12 => (obtain ⟨a0, a1, a2, a3⟩ := hW; go_simp) <;> with_reducible rfl
                simp only [Act.put, List.setIfInBounds_toArray, List.set_cons_zero, List.set_cons_succ]
                refine wpAnyK_take (i := 13) (some 81) ?vq1_13 rfl rfl (by kernel_rfl) (fun _ _ _ h => h) ⟨c0, c1, cz, cb⟩ (.inl ⟨rfl, fun W hW => ?yq1_13⟩) ?_
                case yq1_13 => (obtain ⟨a0, a1, a2, a3⟩ := hW; go_simp) <;> with_reducible rfl
                simp only [Act.put, List.setIfInBounds_toArray, List.set_cons_zero, List.set_cons_succ]
                refine wpAnyK_take (i := 14) (some 82) ?vq1_14 rfl rfl (by kernel_rfl) (fun _ _ _ h => h) ⟨c0, c1, cz, cb⟩ (.inl ⟨rfl, fun W hW => ?yq1_14⟩) ?_
                case yq1_14 => (obtain ⟨a0, a1, a2, a3⟩ := hW; go_simp) <;> with_reducible rfl
                simp only [Act.put, List.setIfInBounds_toArray, List.set_cons_zero, List.set_cons_succ]
                refine wpAnyK_take (i := 15) (some 83) ?vq1_15 rfl rfl (by kernel_rfl) (fun _ _ _ h => h) ⟨c0, c1, cz, cb⟩ (.inl ⟨rfl, fun W hW => ?yq1_15⟩) ?_
                case yq1_15 => (obtain ⟨a0, a1, a2, a3⟩ := hW; go_simp) <;> with_reducible rfl
                simp only [Act.put, List.setIfInBounds_toArray, List.set_cons_zero, List.set_cons_succ]
                refine wpAnyK_take (i := 16) (some 84) ?vq1_16 rfl rfl (by kernel_rfl) (fun _ _ _ h => h) ⟨c0, c1, cz, cb⟩ (.inl ⟨rfl, fun W hW => ?yq1_16⟩) ?_
                case yq1_16 => (obtain ⟨a0, a1, a2, a3⟩ := hW; go_simp) <;> with_reducible rfl
                simp only [Act.put, List.setIfInBounds_toArray, List.set_cons_zero, List.set_cons_succ]
                refine wpAnyK_take (i := 17) (some 85) ?vq1_17 rfl rfl (by kernel_rfl) (fun _ _ _ h => h) ⟨c0, c1, cz, cb⟩ (.inl ⟨rfl, fun W hW => ?yq1_17⟩) ?_
                case yq1_17 => (obtain ⟨a0, a1, a2, a3⟩ := hW; go_simp) <;> with_reducible rfl
                simp only [Act.put, List.setIfInBounds_toArray, List.set_cons_zero, List.set_cons_succ]
                refine wpAnyK_step (j := 18) (some 86) rfl rfl (by kernel_rfl) rfl fun K hK => ?_
                have hdr : Fr [] wr wr.drew := (Fr.refl [] wr).drew
                refine wp_call_f (l := [.tmp 85]) rfl [.int .u8 (b.toNat : Int)] rfl (enter_filled _) ((filled_any wr.drew b).mono ?_)
                rintro e wv5 ⟨rfl, hby, hf5⟩
                have hf5' : Fr [] wr wv5 := hdr.trans hf5 (by simp)
                refine ⟨_, rfl, hK _ _ (fun _ => HSW.out _ (HPK.out.frame.trans hf5' (by simp))) ?_⟩
                simp only [Act.put, List.setIfInBounds_toArray, List.set_cons_zero, List.set_cons_succ]
                clear hK
                refine wpAnyK_step (j := 19) (some 87) rfl rfl (by kernel_rfl) rfl fun K hK => ?_
                refine wp_call_f (l := [.tmp 68, .tmp 77, .tmp 86]) rfl [.pointer (some ⟨g, 0, none⟩), .int .i64 (m3 z : Int), .slice (some ⟨wr.drew.heap.size, 0, none⟩) 512 512] rfl (enter_pwrite _) ((write_Y (HPK.out.stay hf5') HBR.out (m3 z) (by rw [HN4.out]; exact hmz) _ (List.replicate 512 b) _ hby (by rw [List.length_replicate]; exact Nat.le_refl _)).mono ?_)
                rintro e wv6 ⟨rfl, hp6, hk6⟩
                refine ⟨_, rfl, hK _ _ (fun _ => HSW.out _ hp6.frame) ?_⟩
                simp only [Act.put, List.setIfInBounds_toArray, List.set_cons_zero, List.set_cons_succ]
                refine wpAnyK_done (by kernel_rfl) ?_ _
                have HX6 : Hid (InR W d g s o (fun _ => False) (fun _ => True) (.int .i64 ((k : Int) + 1)) wv6) := Lib.hid ⟨k + 1, by have := HPL.out; omega, by go_num, by rw [HTK.out, puts_snoc]; exact hp6, HKC.out _ _ hk6 (HKC.out _ _ (Kp.of hf5') HKK.out)⟩
                clear hK hp6 hby hf5 hf5' hk6 hdr c0 c1 cz cb
                go_wp2_with fail
                go_roundw
                case rel => exact HX6.out
                case measure => simp [intOf]; omega
              · have hkx := hkb
                have hke : k = (prs o).length := by have := HPL.out; omega
                have hpk := HPK.out
                rw [hke, List.take_of_length_le (Nat.le_refl _)] at hpk
                have HX : Hid (OutR W d g 1 l.length (fun _ => False) (fun _ => True) PDone (.int .i64 ((i : Int) + 1)) wr) := Lib.hid ⟨i + 1, by omega, by go_num, s.puts (prs o), _, HRS.out.puts (prs_lt o), HPP.out s o HPS.out, hpk, HKK.out⟩
                clear hpk hke
                go_wp2_with fail
                go_roundw
                case rel => exact HX.out
                case measure => simp [intOf]; omega
            · have hkx := hkz
              have hke : k = (prs o).length := by have := HPL.out; omega
              have hpk := HPK.out
              rw [hke, List.take_of_length_le (Nat.le_refl _)] at hpk
              have HX : Hid (OutR W d g 1 l.length (fun _ => False) (fun _ => True) PDone (.int .i64 ((i : Int) + 1)) wr) := Lib.hid ⟨i + 1, by omega, by go_num, s.puts (prs o), _, HRS.out.puts (prs_lt o), HPP.out s o HPS.out, hpk, HKK.out⟩
              clear hpk hke
              go_wp2_with fail
              go_roundw
              case rel => exact HX.out
              case measure => simp [intOf]; omega
        · obtain rfl : i = l.length := by omega
          obtain ⟨hce, hr2, hl2⟩ := HRS.out.commit (by omega)
          have hdn := HPS.out.1
          have hdd := commit_done s HPS.out.2 (by rw [HRS.out.n]; omega)
          have HCM := Lib.hid (commit_Y HPX.out (by omega))
          rw [hce] at HCM
          have HR2 := Lib.hid hr2; have HL2 := Lib.hid hl2
          generalize s.commit.1 = s2 at *
          clear hce hr2 hl2 HKC HPP
          go_wp2_with fail
          refine HCM.out.mono ?_
          rintro e w4 ⟨rfl, hp4, _⟩
          have HP4 := Lib.hid hp4
          have HSH := Lib.hid (shown_any hp4 HR2.out.br HR2.out.calm HR2.out.n f (fun k hk => HR2.out.page hk))
          clear hp4 HCM
          go_wp2_with fail
          refine HSH.out.mono ?_
          rintro e w5 ⟨rfl, hf5⟩
          have HP5 := Lib.hid (HP4.out.stay hf5)
          clear hf5 HSH
          go_wp2_with (first
            | (with_reducible refine wpList_alloc_z rfl 42 rfl (.agg (outF f 0).toArray) (outF f 0).toArray (zero_4 f) rfl ?_)
            | (with_reducible refine wpList_store_z (W := w5) rfl 42 (.tmp 13) (.tmp 93) rfl (outF f 4) rfl rfl rfl ?zi ?zl ?z1 ?_))
          case zi => rw [outF_len]; exact size_4
          case zl => show (outF f 0).length = (outF f 4).length; rw [outF_len, outF_len]
          case z1 => exact outF_one f 4
          intro w6 hb6 hf6 hz6
          have HP6 := Lib.hid (HP5.out.fr hf6)
          have HB6 := Lib.hid hb6
          have hx6 : w5.heap.size < w6.heap.size := by omega
          clear hb6 hf6 hz6
          go_wp2_with fail
          refine (writes_X HP6.out.disk).mono ?_
          rintro e w7 ⟨rfl, rfl⟩
          obtain ⟨X8, hX8⟩ : ∃ X8 : Nat → Prop, X8 = fun k => False ∨ w5.heap.size ≤ k ∧ k < w6.heap.size := ⟨_, rfl⟩
          have HP6' : Hid (PgX W w6 d g s2 X8) := Lib.hid (by rw [hX8]; exact HP6.out)
          have HKC : Hid (∀ w w' : World, Kp X8 w w' → Blk w w5.heap.size 42 (outF f 4) → Blk w' w5.heap.size 42 (outF f 4)) := Lib.hid (fun w w' hk h => hk.blk h (by rw [hX8]; exact .inr ⟨Nat.le_refl _, hx6⟩))
          have HPP : Hid (∀ (s : PS) (o : RndA), PFrom s2 s → PFrom s2 (s.puts (prs o))) := Lib.hid (fun s o h => h.puts _)
          have HRR := Lib.hid HR2.out
          have HD2 : Hid (s2.D.done ≤ 300000) := Lib.hid (by omega)
          obtain ⟨f2, hf2⟩ : ∃ f2, f2 = f := ⟨_, rfl⟩
          rw [← hf2] at HB6 HKC HR2
          clear hX8 HP6 HRS HPX HPS HKX HP4 HP5 hdn hdd hf2 HRR
          go_wp2_with fail
          go_loopw [16] (fun v wr => OutR W d g 4 m.length X8 (fun w => Blk w w5.heap.size 42 (outF f2 4)) (PFrom s2) v wr) (fun v _ => m.length - (intOf v).toNat)
          case atStart => exact ⟨0, Nat.zero_le _, rfl, s2, _, HR2.out, ⟨[], rfl⟩, HP6'.out, HB6.out⟩
          case round =>
            obtain ⟨wo2, rfl⟩ : ∃ wo2 : World, wo2 = wr := ⟨_, rfl⟩
            obtain ⟨i, hi, rfl, s, f, hrs, hps, hpx, hkx0⟩ := hrel
            have HRS := Lib.hid hrs; have HPX := Lib.hid hpx; have HPS := Lib.hid hps; have HKX := Lib.hid hkx0
            clear hrs hps hpx hkx0
            by_cases hil : i < m.length
            · clear hlen
              obtain ⟨o, ho⟩ : ∃ o, m[i]? = some o := ⟨_, List.getElem?_eq_getElem hil⟩
              obtain ⟨rfl, hat⟩ := HEM.out i o ho
              obtain ⟨hzm, zA, zc, hzv, hzc, hzs⟩ := hat.a
              obtain ⟨hbm, bg, ⟨bA, bc, bo, hbv, hbc, hbs⟩, _⟩ := hat.b
              have hoo := HOM.out o (List.mem_of_getElem? ho)
              have HAT := Lib.hid hat; have HZS := Lib.hid hzs; have HBS := Lib.hid hbs; have HZV := Lib.hid hzv; have HBV := Lib.hid hbv
              have hpl := prs_len o
              have HPL := Lib.hid hpl
              clear ho hat hzs hbs hzm hbm hzv hbv hpl
              go_wp2_with fail
              go_loopw [17] (fun v wr => InR W d g s o X8 (fun w => Blk w w5.heap.size 42 (outF f2 4)) v wr) (fun v _ => (prs o).length + 1 - (intOf v).toNat)
              case atStart => exact ⟨0, Nat.zero_le _, rfl, HPX.out, HKX.out⟩
              case round =>
                obtain ⟨k, hk, rfl, hpk, hkx⟩ := hrel
                obtain ⟨c0, c1, _, _⟩ := HAT.out.fr hpk.frame
                rw [HZV.out] at c0
                rw [HBV.out] at c1
                have HPK := Lib.hid hpk; have HKK := Lib.hid hkx
                clear hpk hkx
                by_cases hkz : k < o.zs.length
                · by_cases hkb : k < o.bs.length
                  · obtain ⟨z, hz⟩ : ∃ z, o.zs[k]? = some z := ⟨_, List.getElem?_eq_getElem hkz⟩
                    obtain ⟨b, hb⟩ : ∃ b, o.bs[k]? = some b := ⟨_, List.getElem?_eq_getElem hkb⟩
                    obtain ⟨zg, zo, rfl, hzc'⟩ := HZS.out (by omega)
                    obtain ⟨rfl, hbc'⟩ := HBS.out (by omega)
                    have cz := HPK.out.frame.keep (hzc' k z hz)
                    have cb := HPK.out.frame.keep (hbc' k (.int .u8 (b.toNat : Int)) (by rw [bcells_at, hb]; rfl))
                    have hSW : ∀ w' : World, Fr [] W w' → w'.cell? ⟨gr2, offr2 + i * 4, none⟩ = some (.slice (some ⟨zg, zo, none⟩) o.zs.length zc) ∧ w'.cell? ⟨gr2, offr2 + i * 4 + 1, none⟩ = some (.slice (some ⟨bg, bo, none⟩) o.bs.length bc) ∧ w'.cell? ⟨zg, zo + k, none⟩ = some (.int .i64 z) ∧ w'.cell? ⟨bg, bo + k, none⟩ = some (.int .u8 (b.toNat : Int)) := fun w' hf => by
                      obtain ⟨x0, x1, _, _⟩ := HAT.out.fr hf
                      rw [HZV.out] at x0
                      rw [HBV.out] at x1
                      exact ⟨x0, x1, hf.keep (hzc' k z hz), hf.keep (hbc' k (.int .u8 (b.toNat : Int)) (by rw [bcells_at, hb]; rfl))⟩
                    have HSW := Lib.hid hSW
                    have em := (m3_spec z).2
                    have hmz := (m3_spec z).1
                    have hbr : (s.puts ((prs o).take k)).br = false := by rw [puts_eq]; exact HRS.out.br
                    have hn4 : (s.puts ((prs o).take k)).n = 4 := by rw [puts_eq]; exact HRS.out.n
                    have htk := prs_take hz hb
                    have HTK := Lib.hid htk; have HBR := Lib.hid hbr; have HN4 := Lib.hid hn4
                    clear hz hb hzc' hbc' htk hbr hn4 hSW
                    go_wp2_with fail
                    refine wp_region_K (fun W' => W'.cell? ⟨gr2, offr2 + i * 4, none⟩ = some (.slice (some ⟨zg, zo, none⟩) o.zs.length zc) ∧ W'.cell? ⟨gr2, offr2 + i * 4 + 1, none⟩ = some (.slice (some ⟨bg, bo, none⟩) o.bs.length bc) ∧ W'.cell? ⟨zg, zo + k, none⟩ = some (.int .i64 z) ∧ W'.cell? ⟨bg, bo + k, none⟩ = some (.int .u8 (b.toNat : Int))) [0, 1, 2, 3, 4, 5, 6, 7, 8, 9, 10, 11, 12, 13, 14, 15, 16, 17] (by kernel_rfl) ?_
                    refine wpAnyK_take (i := 0) (some 123) ?vq2_0 rfl rfl (by kernel_rfl) (fun _ _ _ h => h) ⟨c0, c1, cz, cb⟩ (.inl ⟨rfl, fun W hW => ?yq2_0⟩) ?_
                    case yq2_0 => (obtain ⟨a0, a1, a2, a3⟩ := hW; go_simp) <;> with_reducible rfl
                    simp only [Act.put, List.setIfInBounds_toArray, List.set_cons_zero, List.set_cons_succ]
                    refine wpAnyK_take (i := 1) (some 124) ?vq2_1 rfl rfl (by kernel_rfl) (fun _ _ _ h => h) ⟨c0, c1, cz, cb⟩ (.inl ⟨rfl, fun W hW => ?yq2_1⟩) ?_
                    case yq2_1 => (obtain ⟨a0, a1, a2, a3⟩ := hW; go_simp) <;> with_reducible rfl
                    simp only [Act.put, List.setIfInBounds_toArray, List.set_cons_zero, List.set_cons_succ]
                    refine wpAnyK_take (i := 2) (some 125) ?vq2_2 rfl rfl (by kernel_rfl) (fun _ _ _ h => h) ⟨c0, c1, cz, cb⟩ (.inl ⟨rfl, fun W hW => ?yq2_2⟩) ?_
                    case yq2_2 => (obtain ⟨a0, a1, a2, a3⟩ := hW; go_simp) <;> with_reducible rfl
                    simp only [Act.put, List.setIfInBounds_toArray, List.set_cons_zero, List.set_cons_succ]
                    refine wpAnyK_take (i := 3) (some 126) ?vq2_3 rfl rfl (by kernel_rfl) (fun _ _ _ h => h) ⟨c0, c1, cz, cb⟩ (.inl ⟨rfl, fun W hW => ?yq2_3⟩) ?_
                    case yq2_3 => (obtain ⟨a0, a1, a2, a3⟩ := hW; go_simp) <;> with_reducible rfl
                    simp only [Act.put, List.setIfInBounds_toArray, List.set_cons_zero, List.set_cons_succ]
                    refine wpAnyK_take (i := 4) (some 127) ?vq2_4 rfl rfl (by kernel_rfl) (fun _ _ _ h => h) ⟨c0, c1, cz, cb⟩ (.inl ⟨rfl, fun W hW => ?yq2_4⟩) ?_
                    case yq2_4 => (obtain ⟨a0, a1, a2, a3⟩ := hW; go_simp) <;> with_reducible rfl
                    simp only [Act.put, List.setIfInBounds_toArray, List.set_cons_zero, List.set_cons_succ]
                    refine wpAnyK_take (i := 5) (some 128) ?vq2_5 rfl rfl (by kernel_rfl) (fun _ _ _ h => h) ⟨c0, c1, cz, cb⟩ (.inl ⟨rfl, fun W hW => ?yq2_5⟩) ?_
                    case yq2_5 => (obtain ⟨a0, a1, a2, a3⟩ := hW; go_simp) <;> with_reducible rfl
                    simp only [Act.put, List.setIfInBounds_toArray, List.set_cons_zero, List.set_cons_succ]
                    refine wpAnyK_take (i := 6) (some 129) ?vq2_6 rfl rfl (by kernel_rfl) (fun _ _ _ h => h) ⟨c0, c1, cz, cb⟩ (.inl ⟨rfl, fun W hW => ?yq2_6⟩) ?_
                    case yq2_6 => (obtain ⟨a0, a1, a2, a3⟩ := hW; go_simp) <;> with_reducible rfl
                    simp only [Act.put, List.setIfInBounds_toArray, List.set_cons_zero, List.set_cons_succ]
                    refine wpAnyK_take (i := 7) (some 130) ?vq2_7 rfl rfl (by kernel_rfl) (fun _ _ _ h => h) ⟨c0, c1, cz, cb⟩ (.inl ⟨rfl, fun W hW => ?yq2_7⟩) ?_
                    case yq2_7 => (obtain ⟨a0, a1, a2, a3⟩ := hW; go_simp) <;> with_reducible rfl
                    simp only [Act.put, List.setIfInBounds_toArray, List.set_cons_zero, List.set_cons_succ]
                    refine wpAnyK_take (i := 8) (some 131) ?vq2_8 rfl rfl (by kernel_rfl) (fun _ _ _ h => h) ⟨c0, c1, cz, cb⟩ (.inl ⟨rfl, fun W hW => ?yq2_8⟩) ?_
                    case yq2_8 => (obtain ⟨a0, a1, a2, a3⟩ := hW; go_simp) <;> with_reducible rfl
                    simp only [Act.put, List.setIfInBounds_toArray, List.set_cons_zero, List.set_cons_succ]
                    refine wpAnyK_take (i := 9) (some 132) ?vq2_9 rfl rfl (by kernel_rfl) (fun _ _ _ h => h) ⟨c0, c1, cz, cb⟩ (.inl ⟨rfl, fun W hW => ?yq2_9⟩) ?_
                    case yq2_9 => (obtain ⟨a0, a1, a2, a3⟩ := hW; go_simp) <;> with_reducible rfl
                    simp only [Act.put, List.setIfInBounds_toArray, List.set_cons_zero, List.set_cons_succ]
                    refine wpAnyK_take (i := 10) (some 133) ?vq2_10 rfl rfl (by kernel_rfl) (fun _ _ _ h => h) ⟨c0, c1, cz, cb⟩ (.inl ⟨rfl, fun W hW => ?yq2_10⟩) ?_
                    case yq2_10 => (obtain ⟨a0, a1, a2, a3⟩ := hW; go_simp) <;> with_reducible rfl
                    simp only [Act.put, List.setIfInBounds_toArray, List.set_cons_zero, List.set_cons_succ]
                    refine wpAnyK_take (i := 11) (some 134) ?vq2_11 rfl rfl (by kernel_rfl) (fun _ _ _ h => h) ⟨c0, c1, cz, cb⟩ (.inl ⟨rfl, fun W hW => ?yq2_11⟩) ?_
                    case yq2_11 => (obtain ⟨a0, a1, a2, a3⟩ := hW; go_simp) <;> with_reducible rfl
                    simp only [Act.put, List.setIfInBounds_toArray, List.set_cons_zero, List.set_cons_succ]
                    refine wpAnyK_take (i := 12) (some 135) ?vq2_12 rfl rfl (by kernel_rfl) (fun _ _ _ h => h) ⟨c0, c1, cz, cb⟩ (.inl ⟨rfl, fun W hW => ?yq2_12⟩) ?_
                    case yq2_12 => (obtain ⟨a0, a1, a2, a3⟩ := hW; go_simp) <;> with_reducible rfl
                    simp only [Act.put, List.setIfInBounds_toArray, List.set_cons_zero, List.set_cons_succ]
                    refine wpAnyK_take (i := 13) (some 136) ?vq2_13 rfl rfl (by kernel_rfl) (fun _ _ _ h => h) ⟨c0, c1, cz, cb⟩ (.inl ⟨rfl, fun W hW => ?yq2_13⟩) ?_
                    case yq2_13 => (obtain ⟨a0, a1, a2, a3⟩ := hW; go_simp) <;> with_reducible rfl
                    simp only [Act.put, List.setIfInBounds_toArray, List.set_cons_zero, List.set_cons_succ]
                    refine wpAnyK_take (i := 14) (some 137) ?vq2_14 rfl rfl (by kernel_rfl) (fun _ _ _ h => h) ⟨c0, c1, cz, cb⟩ (.inl ⟨rfl, fun W hW => ?yq2_14⟩) ?_
                    case yq2_14 => (obtain ⟨a0, a1, a2, a3⟩ := hW; go_simp) <;> with_reducible rfl
                    simp only [Act.put, List.setIfInBounds_toArray, List.set_cons_zero, List.set_cons_succ]
                    refine wpAnyK_take (i := 15) (some 138) ?vq2_15 rfl rfl (by kernel_rfl) (fun _ _ _ h => h) ⟨c0, c1, cz, cb⟩ (.inl ⟨rfl, fun W hW => ?yq2_15⟩) ?_
                    case yq2_15 => (obtain ⟨a0, a1, a2, a3⟩ := hW; go_simp) <;> with_reducible rfl
                    simp only [Act.put, List.setIfInBounds_toArray, List.set_cons_zero, List.set_cons_succ]
                    refine wpAnyK_take (i := 16) (some 139) ?vq2_16 rfl rfl (by kernel_rfl) (fun _ _ _ h => h) ⟨c0, c1, cz, cb⟩ (.inl ⟨rfl, fun W hW => ?yq2_16⟩) ?_
                    case yq2_16 => (obtain ⟨a0, a1, a2, a3⟩ := hW; go_simp) <;> with_reducible rfl
                    simp only [Act.put, List.setIfInBounds_toArray, List.set_cons_zero, List.set_cons_succ]
                    refine wpAnyK_take (i := 17) (some 140) ?vq2_17 rfl rfl (by kernel_rfl) (fun _ _ _ h => h) ⟨c0, c1, cz, cb⟩ (.inl ⟨rfl, fun W hW => ?yq2_17⟩) ?_
                    case yq2_17 => (obtain ⟨a0, a1, a2, a3⟩ := hW; go_simp) <;> with_reducible rfl
                    simp only [Act.put, List.setIfInBounds_toArray, List.set_cons_zero, List.set_cons_succ]
                    refine wpAnyK_step (j := 18) (some 141) rfl rfl (by kernel_rfl) rfl fun K hK => ?_
                    have hdr : Fr [] wr wr.drew := (Fr.refl [] wr).drew
                    refine wp_call_f (l := [.tmp 140]) rfl [.int .u8 (b.toNat : Int)] rfl (enter_filled _) ((filled_any wr.drew b).mono ?_)
                    rintro e wv5 ⟨rfl, hby, hf5⟩
                    have hf5' : Fr [] wr wv5 := hdr.trans hf5 (by simp)
                    refine ⟨_, rfl, hK _ _ (fun _ => HSW.out _ (HPK.out.frame.trans hf5' (by simp))) ?_⟩
                    simp only [Act.put, List.setIfInBounds_toArray, List.set_cons_zero, List.set_cons_succ]
                    clear hK
                    refine wpAnyK_step (j := 19) (some 142) rfl rfl (by kernel_rfl) rfl fun K hK => ?_
                    refine wp_call_f (l := [.tmp 123, .tmp 132, .tmp 141]) rfl [.pointer (some ⟨g, 0, none⟩), .int .i64 (m3 z : Int), .slice (some ⟨wr.drew.heap.size, 0, none⟩) 512 512] rfl (enter_pwrite _) ((write_Y (HPK.out.stay hf5') HBR.out (m3 z) (by rw [HN4.out]; exact hmz) _ (List.replicate 512 b) _ hby (by rw [List.length_replicate]; exact Nat.le_refl _)).mono ?_)
                    rintro e wv6 ⟨rfl, hp6, hk6⟩
                    refine ⟨_, rfl, hK _ _ (fun _ => HSW.out _ hp6.frame) ?_⟩
                    simp only [Act.put, List.setIfInBounds_toArray, List.set_cons_zero, List.set_cons_succ]
                    refine wpAnyK_done (by kernel_rfl) ?_ _
                    have HX6 : Hid (InR W d g s o X8 (fun w => Blk w w5.heap.size 42 (outF f2 4)) (.int .i64 ((k : Int) + 1)) wv6) := Lib.hid ⟨k + 1, by have := HPL.out; omega, by go_num, by rw [HTK.out, puts_snoc]; exact hp6, HKC.out _ _ hk6 (HKC.out _ _ (Kp.of hf5') HKK.out)⟩
                    clear hK hp6 hby hf5 hf5' hk6 hdr c0 c1 cz cb
                    go_wp2_with fail
                    go_roundw
                    case rel => exact HX6.out
                    case measure => simp [intOf]; omega
                  · have hkx := hkb
                    have hke : k = (prs o).length := by have := HPL.out; omega
                    have hpk := HPK.out
                    rw [hke, List.take_of_length_le (Nat.le_refl _)] at hpk
                    have HX : Hid (OutR W d g 4 m.length X8 (fun w => Blk w w5.heap.size 42 (outF f2 4)) (PFrom s2) (.int .i64 ((i : Int) + 1)) wr) := Lib.hid ⟨i + 1, by omega, by go_num, s.puts (prs o), _, HRS.out.puts (prs_lt o), HPP.out s o HPS.out, hpk, HKK.out⟩
                    clear hpk hke
                    go_wp2_with fail
                    go_roundw
                    case rel => exact HX.out
                    case measure => simp [intOf]; omega
                · have hkx := hkz
                  have hke : k = (prs o).length := by have := HPL.out; omega
                  have hpk := HPK.out
                  rw [hke, List.take_of_length_le (Nat.le_refl _)] at hpk
                  have HX : Hid (OutR W d g 4 m.length X8 (fun w => Blk w w5.heap.size 42 (outF f2 4)) (PFrom s2) (.int .i64 ((i : Int) + 1)) wr) := Lib.hid ⟨i + 1, by omega, by go_num, s.puts (prs o), _, HRS.out.puts (prs_lt o), HPP.out s o HPS.out, hpk, HKK.out⟩
                  clear hpk hke
                  go_wp2_with fail
                  go_roundw
                  case rel => exact HX.out
                  case measure => simp [intOf]; omega
            · obtain rfl : i = m.length := by omega
              have HRB := Lib.hid (rollback_Y HPX.out)
              rw [HPS.out.rolled HL2.out] at HRB
              have HKC2 := HKC
              clear HKC HPP
              go_wp2_with fail
              refine HRB.out.mono ?_
              rintro e w8 ⟨rfl, hp8, hk8⟩
              have HB8 := Lib.hid (HKC2.out _ _ hk8 HKX.out)
              have HCM := Lib.hid (commit_Y hp8 (by have := HD2.out; omega))
              rw [commit_none HL2.out HR2.out.br] at HCM
              clear hp8 hk8 HRB
              go_wp2_with fail
              refine HCM.out.mono ?_
              rintro e w9 ⟨rfl, hp9, hk9⟩
              have HP9 := Lib.hid hp9
              have HB9 := Lib.hid (HKC2.out _ _ hk9 HB8.out)
              have HSH := Lib.hid (shown_any hp9 HR2.out.br HR2.out.calm HR2.out.n f2 (fun k hk => HR2.out.page hk))
              clear hp9 hk9 HCM
              go_wp2_with fail
              refine HSH.out.mono ?_
              rintro e w10 ⟨rfl, hf10⟩
              have HP10 := Lib.hid (HP9.out.stay hf10)
              have HB10 := Lib.hid (HB9.out.fr hf10 (by simp))
              clear hf10 HSH
              go_wp2_with (first
                | (with_reducible refine wpList_alloc_z rfl 42 rfl (.agg (outF f2 0).toArray) (outF f2 0).toArray (zero_4 f2) rfl ?_)
                | (with_reducible refine wpList_store_z (W := w10) rfl 42 (.tmp 19) (.tmp 150) rfl (outF f2 4) rfl rfl rfl ?yi ?yl ?y1 ?_))
              case yi => rw [outF_len]; exact size_4
              case yl => show (outF f2 0).length = (outF f2 4).length; rw [outF_len, outF_len]
              case y1 => exact outF_one f2 4
              intro w11 hb11 hf11 hz11
              have HP11 := Lib.hid (HP10.out.stay hf11)
              have hA12 := HB10.out.fr hf11 (by simp)
              have hB12 := hb11
              have a0 : w11.cell? ⟨w5.heap.size, 0, none⟩ = some (.int .u8 ((f2 0).toNat : Int)) := hA12.at_ rfl
              have a1 : w11.cell? ⟨w5.heap.size, 1, none⟩ = some (.int .u8 ((f2 1).toNat : Int)) := hA12.at_ rfl
              have a2 : w11.cell? ⟨w5.heap.size, 2, none⟩ = some (.int .u8 ((f2 2).toNat : Int)) := hA12.at_ rfl
              have a3 : w11.cell? ⟨w5.heap.size, 3, none⟩ = some (.int .u8 ((f2 3).toNat : Int)) := hA12.at_ rfl
              have b0 : w11.cell? ⟨w10.heap.size, 0, none⟩ = some (.int .u8 ((f2 0).toNat : Int)) := hB12.at_ rfl
              have b1 : w11.cell? ⟨w10.heap.size, 1, none⟩ = some (.int .u8 ((f2 1).toNat : Int)) := hB12.at_ rfl
              have b2 : w11.cell? ⟨w10.heap.size, 2, none⟩ = some (.int .u8 ((f2 2).toNat : Int)) := hB12.at_ rfl
              have b3 : w11.cell? ⟨w10.heap.size, 3, none⟩ = some (.int .u8 ((f2 3).toNat : Int)) := hB12.at_ rfl
              have heq : ∀ w, (binOp .eql 42 (.agg #[.int .u8 ((f2 0).toNat : Int), .int .u8 ((f2 1).toNat : Int), .int .u8 ((f2 2).toNat : Int), .int .u8 ((f2 3).toNat : Int)]) (.agg #[.int .u8 ((f2 0).toNat : Int), .int .u8 ((f2 1).toNat : Int), .int .u8 ((f2 2).toNat : Int), .int .u8 ((f2 3).toNat : Int)])).run Try.prog w = .ok (.bool true) w := fun w => eq_4 f2 w
              clear hA12 hB12 hb11 hf11 hz11
              go_wp2_with fail
              refine (writes_X HP11.out.disk).mono ?_
              rintro e w13 ⟨rfl, rfl⟩
              go_wp2_with fail
              go_ret
              exact ⟨rfl, HP11.out.frame⟩

end Go.Proofs.Ytidpleejgalljaa
