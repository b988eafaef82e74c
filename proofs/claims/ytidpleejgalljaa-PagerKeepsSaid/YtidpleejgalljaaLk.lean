/-
  The walk of PagerKeeps: for all inputs it answers true and leaves old memory alone.
-/
import Derived.Test.YtidpleejgalljaaLc
import Derived.Test.YtidpleejgalljaaRpt
namespace Go.Proofs.Ytidpleejgalljaa
open Go.RowKit

section
variable {P : Program} {ops : Array Oper} {rest : List Oper} {o : Oper} {a : Act} {w : World} {Q : Exit → Act → World → Prop}
/-- A whole value read out of a block that is known whole. -/
theorem wpList_load_blk {g : Nat} {t' : TypeId} {cs : List Value} {d : TypeDesc} (hgd : o.guard = none) (t : TypeId) (x : Operand) (ho : o.op = .load t x) (hx : a.eval x = .pointer (some ⟨g, 0, none⟩)) (hb : Blk w g t' cs)
    (hu : P.underlying t = some d) (hd : d.isRow = true) (hi : (P.info? t).map (·.size) = some cs.length) (h : wpList P ops Q rest (a.put o.dst (.agg cs.toArray)) w) : wpList P ops Q (o :: rest) a w := by
  have hl := run_loadVar_row (P := P) w g t' t cs.toArray (0, 0) d hb hu (by cases d <;> simp_all) (by simpa using hi)
  refine wpList_plain hgd fun K hK => ?_
  unfold Oper.wp
  simp [execOp, ho, hx, Instr.loadAt, Instr.sureAddr, hl, Result.andThen]
  exact hK _ _ h
/-- A whole value stored into a block that is known whole. -/
theorem wpList_store_row {g : Nat} {t' : TypeId} {old : List Value} (hgd : o.guard = none) (t : TypeId) (x y : Operand) (ho : o.op = .store t x y) (cs : List Value)
    (hx : a.eval x = .pointer (some ⟨g, 0, none⟩)) (hy : a.eval y = .agg cs.toArray) (hb : Blk w g t' old)
    (hi : (P.info? t).map (·.size) = some cs.length) (hl : old.length = cs.length) (h1 : ∀ v ∈ cs, v.oneCell' = true)
    (h : ∀ w1, Blk w1 g t' cs → Fr [g] w w1 → wpList P ops Q rest (a.put o.dst undef) w1) : wpList P ops Q (o :: rest) a w := by
  refine wpList_plain hgd fun K hK => wp_store_row t x y ho cs hx hy hb hi hl h1 (hK _ _ (h _ (hb.row_ cs) ((Fr.refl _ _).setRow (by simp) _)))
end
theorem outF_zero : outF (fun _ => 0) 0 = outF (fun _ => 0) 4 := rfl
theorem outF_put (f : Nat → UInt8) {a : Nat} (ha : a < 4) (c : UInt8) : (outF f 4).set a (B8 c) = outF (fun k => if k = a then c else f k) 4 := by
  apply List.ext_getElem?
  intro j
  rw [List.getElem?_set]
  by_cases hj : j < 4
  · rw [outF_at f hj, outF_at _ hj]
    by_cases hi : a = j
    · subst hi
      rw [if_pos rfl, if_pos (by simpa [outF] using ha), if_pos hj, if_pos rfl]
    · rw [if_neg hi, if_pos hj, if_pos hj, if_neg (fun h => hi h.symm)]
  · rw [List.getElem?_eq_none (l := outF _ 4) (by simp [outF]; omega)]
    by_cases hi : a = j
    · omega
    · rw [if_neg hi, List.getElem?_eq_none (by simp [outF]; omega)]
theorem eq_4b (f g : Nat → UInt8) : ∃ b : Bool, ∀ w : World, (binOp .eql 42 (.agg #[.int .u8 ((f 0).toNat : Int), .int .u8 ((f 1).toNat : Int), .int .u8 ((f 2).toNat : Int), .int .u8 ((f 3).toNat : Int)]) (.agg #[.int .u8 ((g 0).toNat : Int), .int .u8 ((g 1).toNat : Int), .int .u8 ((g 2).toNat : Int), .int .u8 ((g 3).toNat : Int)])).run Try.prog w = .ok (.bool b) w := by
  have hsz : ∀ w, (sizeOf 5).run Try.prog w = .ok 1 w := fun w => by
    obtain ⟨i, hi1, hi2⟩ := Option.map_eq_some_iff.1 size_u8
    simp [sizeOf, typeInfo, go_sem, hi1, hi2]
  exact ⟨_, fun w => run_eql_bytes (P := Try.prog) w 42 5 4 Try.underlying42 Try.underlying5 hsz [f 0, f 1, f 2, f 3] [g 0, g 1, g 2, g 3] rfl rfl⟩
def KSt (c : Nat) (s : PS) (f0 f1 : Nat → UInt8) : Prop := Lv c s f0 f0 ∨ s.D.dead = true ∧ ∀ K, Off c (s.D.reopen K) f0 ∨ Off c (s.D.reopen K) f1
theorem KSt.closed {c : Nat} {s : PS} {f0 f1 : Nat → UInt8} (h : KSt c s f0 f1) (K : List Bool) : Off c (s.D.reopen K) f0 ∨ Off c (s.D.reopen K) f1 := by
  rcases h with h | ⟨_, h⟩
  · exact .inl (h.closed K)
  · exact h K
def OutK (W : World) (d g gb L : Nat) (v : Value) (wr : World) : Prop :=
  ∃ i : Nat, i ≤ L ∧ v = .int .i64 (i : Int) ∧ ∃ (s : PS) (f0 f1 : Nat → UInt8), KSt (1 + 4 * i) s f0 f1 ∧ s.D.done ≤ 400000 * i ∧ PgX W wr d g s (fun k => k = gb ∨ k = gb + 1) ∧ Blk wr gb 42 (outF f0 4) ∧ Blk wr (gb + 1) 42 (outF f1 4)
def InK (W : World) (d g gb : Nat) (s : PS) (o : RndA) (f0 : Nat → UInt8) (v : Value) (wr : World) : Prop :=
  ∃ k : Nat, k ≤ (prs o).length ∧ v = .int .i64 (k : Int) ∧ PgX W wr d g (s.puts ((prs o).take k)) (fun k => k = gb ∨ k = gb + 1) ∧ Blk wr gb 42 (outF f0 4) ∧ Blk wr (gb + 1) 42 (outF (setF f0 ((prs o).take k)) 4)

theorem fewB_okK {l : List RndA} (h : fewB l = true) : l.length ≤ 12 ∧ ∀ o ∈ l, o.zs.length ≤ 8 ∧ o.bs.length ≤ 8 := by
  unfold fewB at h
  rw [Bool.and_eq_true] at h
  refine ⟨of_decide_eq_true h.1, fun o ho => ?_⟩
  have h := List.all_eq_true.1 h.2 o ho
  unfold okRnd at h
  rw [Bool.and_eq_true] at h
  exact ⟨of_decide_eq_true h.1, of_decide_eq_true h.2⟩
set_option maxRecDepth 100000 in
set_option maxHeartbeats 16000000 in
theorem keeps_walk8 (W : World) (lv kv : Value) (l : List RndA) (lim : Int) (K1 : List Bool) (hl : ArgRnds W lv l) (hK1 : ArgBools W kv K1) :
    Calls Try.prog 4 #[lv, .int .i64 lim, kv] W fun e w' => e = .returned (.bool true) ∧ Fr [] W w' := by
  have HL := Lib.hid hl
  obtain ⟨A, cap, gr, offr, rfl, hm, hel⟩ := hl
  have hm1 := hK1.1
  unfold maxLen at hm hm1
  obtain ⟨_, kg1, ⟨kA1, kc1, ko1, rfl, hkc1, _⟩, _⟩ := id hK1
  have HEL := Lib.hid hel; have HK1 := Lib.hid hK1
  clear hel hK1
  go_enter Try.func4, Try.ntmps4
  go_wp2_with fail
  refine (awake08 W).mono ?_
  rintro e w1 ⟨rfl, hf1⟩
  have HF1 := Lib.hid hf1; clear hf1
  go_wp2_with fail
  refine (few_any HL.out HF1.out).mono ?_
  rintro e w2 ⟨rfl, rfl⟩
  cases hfw : fewB l with
  | false =>
    clear hfw
    go_wp2
    go_ret
    exact ⟨rfl, HF1.out⟩
  | true =>
    obtain ⟨hlen, hok⟩ := fewB_okK hfw
    have HOK := Lib.hid hok
    clear hfw hok
    by_cases hb1 : 400 < K1.length
    · go_wp2
      go_ret
      exact ⟨rfl, HF1.out⟩
    obtain ⟨m1, hm1', em1⟩ := and_mask lim 255 (by omega)
    have em1' : bits .and .i64 lim 255 = (m1 : Int) := em1
    clear em1
    obtain ⟨H1, ht1, hi1, hn1, hde1, hpe1, hfi1⟩ := off_new.open_ (by omega)
    have HT1 := Lib.hid ht1
    have HR1 := Lib.hid (hi1.limited (m1 : Int) (by omega))
    clear hi1 ht1
    go_wp2_with fail
    refine (new_X (X := fun _ => False) W w1 100 (by omega) (by omega) HF1.out (by simp)).mono ?_
    rintro e w2 ⟨d, rfl, hd2, _⟩
    have HD2 := Lib.hid hd2; clear hd2
    go_wp2_with fail
    refine (open_Y (n := 4) (log := 60) HD2.out hde1 hpe1 (by omega) (by omega) (by omega) hfi1 hn1 HT1.out).mono ?_
    rintro e w3 ⟨g, rfl, hp3, _⟩
    have HLM := Lib.hid (limit_Y hp3 (m1 : Int) (by omega))
    have hd0 : ({ openP 4 60 (DM.new 100) H1 with D := (openP 4 60 (DM.new 100) H1).D.limited (m1 : Int) } : PS).D.done = 0 := rfl
    clear hp3 hn1 hde1 hpe1 hfi1 HD2 HT1 HF1 HL
    generalize ({ openP 4 60 (DM.new 100) H1 with D := (openP 4 60 (DM.new 100) H1).D.limited (m1 : Int) } : PS) = s1 at *
    go_wp2_with fail
    refine HLM.out.mono ?_
    rintro e wq ⟨rfl, hp4, _⟩
    have hgW : W.heap.size ≤ wq.heap.size := hp4.frame.size
    have HP5 : Hid (PgX W ((wq.alloc (.cells (outF (fun _ => 0) 0).toArray 42)).alloc (.cells (outF (fun _ => 0) 0).toArray 42)) d g s1 (fun k => k = wq.heap.size ∨ k = wq.heap.size + 1)) := Lib.hid ((hp4.fr (((Fr.refl [] wq).alloc _).alloc _)).weak (by rintro k (rfl | rfl) <;> exact .inr ⟨by simp, by simp <;> omega⟩))
    have HG5 : Hid (Blk ((wq.alloc (.cells (outF (fun _ => 0) 0).toArray 42)).alloc (.cells (outF (fun _ => 0) 0).toArray 42)) wq.heap.size 42 (outF (fun _ => 0) 4)) := Lib.hid ((Blk.new wq _ _).alloc _)
    have HN5 : Hid (Blk ((wq.alloc (.cells (outF (fun _ => 0) 0).toArray 42)).alloc (.cells (outF (fun _ => 0) 0).toArray 42)) (wq.heap.size + 1) 42 (outF (fun _ => 0) 4)) := Lib.hid (by
      have h := Blk.new (wq.alloc (.cells (outF (fun _ => 0) 0).toArray 42)) 42 (outF (fun _ => 0) 0)
      rw [show (wq.alloc (.cells (outF (fun _ => 0) 0).toArray 42)).heap.size = wq.heap.size + 1 by simp] at h
      exact h)
    clear hp4 HLM
    go_wp2_with (with_reducible refine wpList_alloc_z rfl 42 rfl (.agg (outF (fun _ => 0) 0).toArray) (outF (fun _ => 0) 0).toArray (zero_4 (fun _ => 0)) rfl ?_)
    go_loopw [14] (fun v wr => OutK W d g wq.heap.size l.length v wr) (fun v _ => l.length - (intOf v).toNat)
    case atStart => exact ⟨0, Nat.zero_le _, rfl, s1, _, _, .inl HR1.out, by omega, HP5.out, HG5.out, HN5.out⟩
    case round =>
      obtain ⟨wo, rfl⟩ : ∃ wo : World, wo = wr := ⟨_, rfl⟩
      obtain ⟨i, hi, rfl, s, f0, f1, hts, hdn, hpx, hbg, hbn⟩ := hrel
      have HTS := Lib.hid hts; have HPX := Lib.hid hpx; have HBG := Lib.hid hbg; have HBN := Lib.hid hbn
      have HDE := Lib.hid (dead_X hpx.disk)
      clear hts hpx hbg hbn HR1 hd0 HP5 HG5 HN5
      by_cases hil : i < l.length
      · rcases HTS.out with hrs | ⟨hdead, _⟩
        · have hlv := hrs.live
          rw [hlv] at HDE
          have HRS := Lib.hid hrs
          clear hrs hlv HTS
          obtain ⟨o, ho⟩ : ∃ o, l[i]? = some o := ⟨_, List.getElem?_eq_getElem hil⟩
          obtain ⟨rfl, hat⟩ := HEL.out i o ho
          obtain ⟨hzm, zA, zc, hzv, hzc, hzs⟩ := hat.a
          obtain ⟨hbm, bg, ⟨bA, bc, bo, hbv, hbc, hbs⟩, _⟩ := hat.b
          have hoo := HOK.out o (List.mem_of_getElem? ho)
          have HAT := Lib.hid hat; have HZS := Lib.hid hzs; have HBS := Lib.hid hbs; have HZV := Lib.hid hzv; have HBV := Lib.hid hbv
          have hpl := prs_len o
          have HPL := Lib.hid hpl
          clear ho hat hzs hbs hzm hbm hzv hbv hpl
          go_wp2_with fail
          refine HDE.out.mono ?_
          rintro e w' ⟨rfl, rfl⟩
          clear HDE
          go_wp2_with (first
            | (with_reducible refine wpList_load_blk rfl 42 (.tmp 12) rfl rfl HBG.out Try.underlying42 rfl (by rw [outF_len]; exact size_4) ?_)
            | (with_reducible refine wpList_store_row rfl 42 (.tmp 13) (.tmp 61) rfl (outF f0 4) rfl rfl HBN.out (by rw [outF_len]; exact size_4) (by rw [outF_len, outF_len]) (outF_one f0 4) ?_))
          intro w6 hn6 hf6
          have HN6 := Lib.hid hn6
          have HG6 := Lib.hid (HBG.out.fr hf6 (by simp))
          have HP6 := Lib.hid (HPX.out.other hf6 (by simp) (by simp; omega))
          clear hn6 hf6 HPX HBG HBN
          go_wp2_with fail
          go_loopw [15] (fun v wr => InK W d g wq.heap.size s o f0 v wr) (fun v _ => (prs o).length + 1 - (intOf v).toNat)
          case atStart => exact ⟨0, Nat.zero_le _, rfl, HP6.out, HG6.out, HN6.out⟩
          case round =>
            clear HP6 HG6 HN6
            obtain ⟨k, hk, rfl, hpk, hgk, hnk⟩ := hrel
            obtain ⟨c0, c1, _, _⟩ := HAT.out.fr hpk.frame
            rw [HZV.out] at c0
            rw [HBV.out] at c1
            have HPK := Lib.hid hpk; have HGK := Lib.hid hgk; have HNK := Lib.hid hnk
            clear hpk hgk hnk
            by_cases hkz : k < o.zs.length
            · by_cases hkb : k < o.bs.length
              · obtain ⟨z, hz⟩ : ∃ z, o.zs[k]? = some z := ⟨_, List.getElem?_eq_getElem hkz⟩
                obtain ⟨b, hb⟩ : ∃ b, o.bs[k]? = some b := ⟨_, List.getElem?_eq_getElem hkb⟩
                obtain ⟨zg, zo, rfl, hzc'⟩ := HZS.out (by omega)
                obtain ⟨rfl, hbc'⟩ := HBS.out (by omega)
                have cz := HPK.out.frame.keep (hzc' k z hz)
                have cb := HPK.out.frame.keep (hbc' k (.int .u8 (b.toNat : Int)) (by rw [bcells_at, hb]; rfl))
                have hSW : ∀ w' : World, Fr [] W w' → w'.cell? ⟨gr, offr + i * 4 + 1, none⟩ = some (.slice (some ⟨bg, bo, none⟩) o.bs.length bc) ∧ w'.cell? ⟨bg, bo + k, none⟩ = some (.int .u8 (b.toNat : Int)) := fun w' hf => by
                  obtain ⟨x0, x1, _, _⟩ := HAT.out.fr hf
                  rw [HBV.out] at x1
                  exact ⟨x1, hf.keep (hbc' k (.int .u8 (b.toNat : Int)) (by rw [bcells_at, hb]; rfl))⟩
                have HSW := Lib.hid hSW
                have em := (m3_spec z).2
                have hmz := (m3_spec z).1
                have hbr : (s.puts ((prs o).take k)).br = false := by rw [puts_eq]; exact HRS.out.br
                have hn4 : (s.puts ((prs o).take k)).n = 4 := by rw [puts_eq]; exact HRS.out.n
                have htk := prs_take hz hb
                have HTK := Lib.hid htk; have HBR := Lib.hid hbr; have HN4 := Lib.hid hn4
                clear hz hb hzc' hbc' htk hbr hn4 hSW
                go_wp2_with fail
                refine (filled_any wr b).mono ?_
                rintro e w6 ⟨rfl, hby, hf6⟩
                have HBY := Lib.hid hby
                have HP6 := Lib.hid (HPK.out.stay hf6)
                have HG6 := Lib.hid (HGK.out.fr hf6 (by simp))
                have HN6 := Lib.hid (HNK.out.fr hf6 (by simp))
                clear hby hf6 c0 c1 cz cb
                go_wp2_with fail
                refine (write_Y HP6.out HBR.out (m3 z) (by rw [HN4.out]; exact hmz) _ (List.replicate 512 b) _ HBY.out (by rw [List.length_replicate]; exact Nat.le_refl _)).mono ?_
                rintro e w7 ⟨rfl, hp7, hk7⟩
                have HG7 := Lib.hid (hk7.blk HG6.out (.inl rfl))
                have HN7 := Lib.hid (hk7.blk HN6.out (.inr rfl))
                obtain ⟨c1, cb⟩ := HSW.out w7 hp7.frame
                have hcell : w7.cell? ⟨wq.heap.size + 1, m3 z, none⟩ = some (B8 (setF f0 ((prs o).take k) (m3 z))) := HN7.out.at_ (by rw [outF_at _ hmz, if_pos hmz])
                have hfz := HN7.out.free
                have hlz := HN7.out.lt
                have HX : Hid (InK W d g wq.heap.size s o f0 (.int .i64 ((k : Int) + 1)) (w7.setCell ⟨wq.heap.size + 1, m3 z, none⟩ (.int .u8 (b.toNat : Int)))) := Lib.hid ⟨k + 1, by have := HPL.out; omega, by go_num, by
                  rw [HTK.out, puts_snoc]
                  exact hp7.other (S := [wq.heap.size + 1]) ((Fr.refl _ _).setCell (.inl (by simp)) _) (by simp) (by simp; omega), HG7.out.far (by simp) _, by
                  have h := HN7.out.set_ (m3 z) (B8 b)
                  rw [outF_put _ hmz] at h
                  rw [HTK.out, setF_snoc]
                  exact h⟩
                clear hp7 hk7 HG6 HN6 HP6 HG7 HN7 HBY
                go_wp2_with fail
                go_roundw
                case rel => exact HX.out
                case measure => simp [intOf]; omega
              · have hkx := hkb
                have hke : k = (prs o).length := by have := HPL.out; omega
                have hpk := HPK.out
                rw [hke, List.take_of_length_le (Nat.le_refl _)] at hpk
                have hnk := HNK.out
                rw [hke, List.take_of_length_le (Nat.le_refl _)] at hnk
                have HN5 := Lib.hid hnk
                have hr5 := HRS.out.puts (prs_lt o)
                clear hke hnk
                cases hco : o.com with
                | false =>
                  have hc2 : wr.cell? ⟨gr, offr + i * 4 + 2, none⟩ = some (.bool false) := by rw [← hco]; exact (HAT.out.fr hpk.frame).2.2.1
                  have HR6 := Lib.hid hr5.rolled
                  have hd6 : ({ s.puts (prs o) with late := [] } : PS).D.done ≤ 400000 * i + 300000 := by show (s.puts (prs o)).D.done ≤ _; rw [puts_eq]; show s.D.done ≤ _; omega
                  have HRB := Lib.hid (rollback_Y hpk)
                  clear hr5 hpk
                  generalize ({ s.puts (prs o) with late := [] } : PS) = s6 at *
                  generalize setF f0 (prs o) = f5 at *
                  go_wp2_with fail
                  refine HRB.out.mono ?_
                  rintro e w6 ⟨rfl, hp6, hk6⟩
                  have HP6 := Lib.hid hp6
                  have HG6 := Lib.hid (hk6.blk HGK.out (.inl rfl))
                  have HN6 := Lib.hid (hk6.blk HN5.out (.inr rfl))
                  clear hp6 hk6 HRB hc2
                  go_wp2_with (first
                    | (with_reducible refine wpList_load_blk rfl 42 (.tmp 12) rfl rfl HG6.out Try.underlying42 rfl (by rw [outF_len]; exact size_4) ?_)
                    | (with_reducible refine wpList_store_row rfl 42 (.tmp 13) (.tmp 122) rfl (outF f0 4) rfl rfl HN6.out (by rw [outF_len]; exact size_4) (by rw [outF_len, outF_len]) (outF_one f0 4) ?_))
                  intro w7 hn7 hf7
                  have HN7 := Lib.hid hn7
                  have HG7 := Lib.hid (HG6.out.fr hf7 (by simp))
                  have HP7 := Lib.hid (HP6.out.other hf7 (by simp) (by simp; omega))
                  clear hn7 hf7 HP6 HG6 HN6
                  cases hck : o.chk with
                  | false =>
                    have hc3 : w7.cell? ⟨gr, offr + i * 4 + 3, none⟩ = some (.bool false) := by rw [← hck]; exact (HAT.out.fr HP7.out.frame).2.2.2
                    go_wp2_with fail
                    go_roundw
                    case rel => exact ⟨i + 1, by omega, by go_num, s6, f0, f0, .inl (HR6.out.mono (by omega)), by omega, HP7.out, HG7.out, HN7.out⟩
                    case measure => simp [intOf]; omega
                  | true =>
                    have hc3 : w7.cell? ⟨gr, offr + i * 4 + 3, none⟩ = some (.bool true) := by rw [← hck]; exact (HAT.out.fr HP7.out.frame).2.2.2
                    have HDD := Lib.hid (dead_X HP7.out.disk)
                    rw [HR6.out.live] at HDD
                    have HCH := Lib.hid (check_Y HP7.out (by omega))
                    have hdc := check_done s6 HR6.out.held (by have := HR6.out.n; omega)
                    go_wp2_with fail
                    refine HDD.out.mono ?_
                    rintro e w' ⟨rfl, rfl⟩
                    go_wp2_with fail
                    refine HCH.out.mono ?_
                    rintro e w9 ⟨rfl, hp9, hk9⟩
                    have HP9 := Lib.hid hp9
                    have HG9 := Lib.hid (hk9.blk HG7.out (.inl rfl))
                    have HN9 := Lib.hid (hk9.blk HN7.out (.inr rfl))
                    clear hp9 hk9 HCH HDD
                    rcases HR6.out.check (by omega) with ⟨a1, a2, _⟩ | ⟨a1, a2, a3⟩
                    · rw [a1]
                      have A2 := Lib.hid a2
                      clear a1 a2
                      go_wp2_with fail
                      go_roundw
                      case rel => exact ⟨i + 1, by omega, by go_num, _, f0, f0, .inl (A2.out.mono (by omega)), by omega, HP9.out, HG9.out, HN9.out⟩
                      case measure => simp [intOf]; omega
                    · rw [a1]
                      have A3 := Lib.hid a3
                      have HDD := Lib.hid (dead_X HP9.out.disk)
                      rw [a2] at HDD
                      have A2 := Lib.hid a2
                      clear a1 a2 a3
                      go_wp2_with fail
                      refine HDD.out.mono ?_
                      rintro e w' ⟨rfl, rfl⟩
                      go_wp2_with fail
                      go_roundw
                      case rel => exact ⟨i + 1, by omega, by go_num, _, f0, f0, .inr ⟨A2.out, fun K => .inl ((A3.out K).mono (by omega))⟩, by omega, HP9.out, HG9.out, HN9.out⟩
                      case measure => simp [intOf]; omega
                | true =>
                  have hc2 : wr.cell? ⟨gr, offr + i * 4 + 2, none⟩ = some (.bool true) := by rw [← hco]; exact (HAT.out.fr hpk.frame).2.2.1
                  have hd5 : (s.puts (prs o)).D.done ≤ 400000 * i := by rw [puts_eq]; exact hdn
                  have hdd := commit_done (s.puts (prs o)) hr5.held (by rw [hr5.n]; omega)
                  have hd6 : (s.puts (prs o)).commit.1.D.done ≤ 400000 * i + 300000 := by omega
                  have HMM := Lib.hid (hr5.commit (by omega))
                  have HCM := Lib.hid (commit_Y hpk (by omega))
                  clear hdd hd5 hpk hr5
                  generalize (s.puts (prs o)).commit.1 = s6 at *
                  generalize (s.puts (prs o)).commit.2 = e6 at *
                  generalize setF f0 (prs o) = f5 at *
                  go_wp2_with fail
                  refine HCM.out.mono ?_
                  rintro e w6 ⟨rfl, hp6, hk6⟩
                  have HP6 := Lib.hid hp6
                  have HG6 := Lib.hid (hk6.blk HGK.out (.inl rfl))
                  have HN6 := Lib.hid (hk6.blk HN5.out (.inr rfl))
                  clear hp6 hk6 HCM hc2
                  rcases HMM.out with ⟨rfl, a2, _⟩ | ⟨rfl, a2, a3⟩
                  · have HR6 := Lib.hid a2
                    clear a2 HMM
                    go_wp2_with (first
                      | (with_reducible refine wpList_load_blk rfl 42 (.tmp 13) rfl rfl HN6.out Try.underlying42 rfl (by rw [outF_len]; exact size_4) ?_)
                      | (with_reducible refine wpList_store_row rfl 42 (.tmp 12) (.tmp 126) rfl (outF f5 4) rfl rfl HG6.out (by rw [outF_len]; exact size_4) (by rw [outF_len, outF_len]) (outF_one f5 4) ?_))
                    intro w7 hg7 hf7
                    have HG7 := Lib.hid hg7
                    have HN7 := Lib.hid (HN6.out.fr hf7 (by simp))
                    have HP7 := Lib.hid (HP6.out.other hf7 (by simp) (by simp; omega))
                    clear hg7 hf7 HP6 HG6 HN6
                    cases hck : o.chk with
                    | false =>
                      have hc3 : w7.cell? ⟨gr, offr + i * 4 + 3, none⟩ = some (.bool false) := by rw [← hck]; exact (HAT.out.fr HP7.out.frame).2.2.2
                      go_wp2_with fail
                      go_roundw
                      case rel => exact ⟨i + 1, by omega, by go_num, s6, f5, f5, .inl (HR6.out.mono (by omega)), by omega, HP7.out, HG7.out, HN7.out⟩
                      case measure => simp [intOf]; omega
                    | true =>
                      have hc3 : w7.cell? ⟨gr, offr + i * 4 + 3, none⟩ = some (.bool true) := by rw [← hck]; exact (HAT.out.fr HP7.out.frame).2.2.2
                      have HDD := Lib.hid (dead_X HP7.out.disk)
                      rw [HR6.out.live] at HDD
                      have HCH := Lib.hid (check_Y HP7.out (by omega))
                      have hdc := check_done s6 HR6.out.held (by have := HR6.out.n; omega)
                      go_wp2_with fail
                      refine HDD.out.mono ?_
                      rintro e w' ⟨rfl, rfl⟩
                      go_wp2_with fail
                      refine HCH.out.mono ?_
                      rintro e w9 ⟨rfl, hp9, hk9⟩
                      have HP9 := Lib.hid hp9
                      have HG9 := Lib.hid (hk9.blk HG7.out (.inl rfl))
                      have HN9 := Lib.hid (hk9.blk HN7.out (.inr rfl))
                      clear hp9 hk9 HCH HDD
                      rcases HR6.out.check (by omega) with ⟨a1, a2, _⟩ | ⟨a1, a2, a3⟩
                      · rw [a1]
                        have A2 := Lib.hid a2
                        clear a1 a2
                        go_wp2_with fail
                        go_roundw
                        case rel => exact ⟨i + 1, by omega, by go_num, _, f5, f5, .inl (A2.out.mono (by omega)), by omega, HP9.out, HG9.out, HN9.out⟩
                        case measure => simp [intOf]; omega
                      · rw [a1]
                        have A3 := Lib.hid a3
                        have HDD := Lib.hid (dead_X HP9.out.disk)
                        rw [a2] at HDD
                        have A2 := Lib.hid a2
                        clear a1 a2 a3
                        go_wp2_with fail
                        refine HDD.out.mono ?_
                        rintro e w' ⟨rfl, rfl⟩
                        go_wp2_with fail
                        go_roundw
                        case rel => exact ⟨i + 1, by omega, by go_num, _, f5, f5, .inr ⟨A2.out, fun K => .inl ((A3.out K).mono (by omega))⟩, by omega, HP9.out, HG9.out, HN9.out⟩
                        case measure => simp [intOf]; omega
                  · have HDD := Lib.hid (dead_X HP6.out.disk)
                    rw [a2] at HDD
                    have A2 := Lib.hid a2; have A3 := Lib.hid a3
                    clear a2 a3 HMM
                    cases hck : o.chk with
                    | false =>
                      have hc3 : w6.cell? ⟨gr, offr + i * 4 + 3, none⟩ = some (.bool false) := by rw [← hck]; exact (HAT.out.fr HP6.out.frame).2.2.2
                      go_wp2_with fail
                      go_roundw
                      case rel => exact ⟨i + 1, by omega, by go_num, s6, f0, f5, .inr ⟨A2.out, fun K => (A3.out K).imp (fun h => h.mono (by omega)) (fun h => h.mono (by omega))⟩, by omega, HP6.out, HG6.out, HN6.out⟩
                      case measure => simp [intOf]; omega
                    | true =>
                      have hc3 : w6.cell? ⟨gr, offr + i * 4 + 3, none⟩ = some (.bool true) := by rw [← hck]; exact (HAT.out.fr HP6.out.frame).2.2.2
                      go_wp2_with fail
                      refine HDD.out.mono ?_
                      rintro e w' ⟨rfl, rfl⟩
                      go_wp2_with fail
                      go_roundw
                      case rel => exact ⟨i + 1, by omega, by go_num, s6, f0, f5, .inr ⟨A2.out, fun K => (A3.out K).imp (fun h => h.mono (by omega)) (fun h => h.mono (by omega))⟩, by omega, HP6.out, HG6.out, HN6.out⟩
                      case measure => simp [intOf]; omega
            · have hkx := hkz
              have hke : k = (prs o).length := by have := HPL.out; omega
              have hpk := HPK.out
              rw [hke, List.take_of_length_le (Nat.le_refl _)] at hpk
              have hnk := HNK.out
              rw [hke, List.take_of_length_le (Nat.le_refl _)] at hnk
              have HN5 := Lib.hid hnk
              have hr5 := HRS.out.puts (prs_lt o)
              clear hke hnk
              cases hco : o.com with
              | false =>
                have hc2 : wr.cell? ⟨gr, offr + i * 4 + 2, none⟩ = some (.bool false) := by rw [← hco]; exact (HAT.out.fr hpk.frame).2.2.1
                have HR6 := Lib.hid hr5.rolled
                have hd6 : ({ s.puts (prs o) with late := [] } : PS).D.done ≤ 400000 * i + 300000 := by show (s.puts (prs o)).D.done ≤ _; rw [puts_eq]; show s.D.done ≤ _; omega
                have HRB := Lib.hid (rollback_Y hpk)
                clear hr5 hpk
                generalize ({ s.puts (prs o) with late := [] } : PS) = s6 at *
                generalize setF f0 (prs o) = f5 at *
                go_wp2_with fail
                refine HRB.out.mono ?_
                rintro e w6 ⟨rfl, hp6, hk6⟩
                have HP6 := Lib.hid hp6
                have HG6 := Lib.hid (hk6.blk HGK.out (.inl rfl))
                have HN6 := Lib.hid (hk6.blk HN5.out (.inr rfl))
                clear hp6 hk6 HRB hc2
                go_wp2_with (first
                  | (with_reducible refine wpList_load_blk rfl 42 (.tmp 12) rfl rfl HG6.out Try.underlying42 rfl (by rw [outF_len]; exact size_4) ?_)
                  | (with_reducible refine wpList_store_row rfl 42 (.tmp 13) (.tmp 122) rfl (outF f0 4) rfl rfl HN6.out (by rw [outF_len]; exact size_4) (by rw [outF_len, outF_len]) (outF_one f0 4) ?_))
                intro w7 hn7 hf7
                have HN7 := Lib.hid hn7
                have HG7 := Lib.hid (HG6.out.fr hf7 (by simp))
                have HP7 := Lib.hid (HP6.out.other hf7 (by simp) (by simp; omega))
                clear hn7 hf7 HP6 HG6 HN6
                cases hck : o.chk with
                | false =>
                  have hc3 : w7.cell? ⟨gr, offr + i * 4 + 3, none⟩ = some (.bool false) := by rw [← hck]; exact (HAT.out.fr HP7.out.frame).2.2.2
                  go_wp2_with fail
                  go_roundw
                  case rel => exact ⟨i + 1, by omega, by go_num, s6, f0, f0, .inl (HR6.out.mono (by omega)), by omega, HP7.out, HG7.out, HN7.out⟩
                  case measure => simp [intOf]; omega
                | true =>
                  have hc3 : w7.cell? ⟨gr, offr + i * 4 + 3, none⟩ = some (.bool true) := by rw [← hck]; exact (HAT.out.fr HP7.out.frame).2.2.2
                  have HDD := Lib.hid (dead_X HP7.out.disk)
                  rw [HR6.out.live] at HDD
                  have HCH := Lib.hid (check_Y HP7.out (by omega))
                  have hdc := check_done s6 HR6.out.held (by have := HR6.out.n; omega)
                  go_wp2_with fail
                  refine HDD.out.mono ?_
                  rintro e w' ⟨rfl, rfl⟩
                  go_wp2_with fail
                  refine HCH.out.mono ?_
                  rintro e w9 ⟨rfl, hp9, hk9⟩
                  have HP9 := Lib.hid hp9
                  have HG9 := Lib.hid (hk9.blk HG7.out (.inl rfl))
                  have HN9 := Lib.hid (hk9.blk HN7.out (.inr rfl))
                  clear hp9 hk9 HCH HDD
                  rcases HR6.out.check (by omega) with ⟨a1, a2, _⟩ | ⟨a1, a2, a3⟩
                  · rw [a1]
                    have A2 := Lib.hid a2
                    clear a1 a2
                    go_wp2_with fail
                    go_roundw
                    case rel => exact ⟨i + 1, by omega, by go_num, _, f0, f0, .inl (A2.out.mono (by omega)), by omega, HP9.out, HG9.out, HN9.out⟩
                    case measure => simp [intOf]; omega
                  · rw [a1]
                    have A3 := Lib.hid a3
                    have HDD := Lib.hid (dead_X HP9.out.disk)
                    rw [a2] at HDD
                    have A2 := Lib.hid a2
                    clear a1 a2 a3
                    go_wp2_with fail
                    refine HDD.out.mono ?_
                    rintro e w' ⟨rfl, rfl⟩
                    go_wp2_with fail
                    go_roundw
                    case rel => exact ⟨i + 1, by omega, by go_num, _, f0, f0, .inr ⟨A2.out, fun K => .inl ((A3.out K).mono (by omega))⟩, by omega, HP9.out, HG9.out, HN9.out⟩
                    case measure => simp [intOf]; omega
              | true =>
                have hc2 : wr.cell? ⟨gr, offr + i * 4 + 2, none⟩ = some (.bool true) := by rw [← hco]; exact (HAT.out.fr hpk.frame).2.2.1
                have hd5 : (s.puts (prs o)).D.done ≤ 400000 * i := by rw [puts_eq]; exact hdn
                have hdd := commit_done (s.puts (prs o)) hr5.held (by rw [hr5.n]; omega)
                have hd6 : (s.puts (prs o)).commit.1.D.done ≤ 400000 * i + 300000 := by omega
                have HMM := Lib.hid (hr5.commit (by omega))
                have HCM := Lib.hid (commit_Y hpk (by omega))
                clear hdd hd5 hpk hr5
                generalize (s.puts (prs o)).commit.1 = s6 at *
                generalize (s.puts (prs o)).commit.2 = e6 at *
                generalize setF f0 (prs o) = f5 at *
                go_wp2_with fail
                refine HCM.out.mono ?_
                rintro e w6 ⟨rfl, hp6, hk6⟩
                have HP6 := Lib.hid hp6
                have HG6 := Lib.hid (hk6.blk HGK.out (.inl rfl))
                have HN6 := Lib.hid (hk6.blk HN5.out (.inr rfl))
                clear hp6 hk6 HCM hc2
                rcases HMM.out with ⟨rfl, a2, _⟩ | ⟨rfl, a2, a3⟩
                · have HR6 := Lib.hid a2
                  clear a2 HMM
                  go_wp2_with (first
                    | (with_reducible refine wpList_load_blk rfl 42 (.tmp 13) rfl rfl HN6.out Try.underlying42 rfl (by rw [outF_len]; exact size_4) ?_)
                    | (with_reducible refine wpList_store_row rfl 42 (.tmp 12) (.tmp 126) rfl (outF f5 4) rfl rfl HG6.out (by rw [outF_len]; exact size_4) (by rw [outF_len, outF_len]) (outF_one f5 4) ?_))
                  intro w7 hg7 hf7
                  have HG7 := Lib.hid hg7
                  have HN7 := Lib.hid (HN6.out.fr hf7 (by simp))
                  have HP7 := Lib.hid (HP6.out.other hf7 (by simp) (by simp; omega))
                  clear hg7 hf7 HP6 HG6 HN6
                  cases hck : o.chk with
                  | false =>
                    have hc3 : w7.cell? ⟨gr, offr + i * 4 + 3, none⟩ = some (.bool false) := by rw [← hck]; exact (HAT.out.fr HP7.out.frame).2.2.2
                    go_wp2_with fail
                    go_roundw
                    case rel => exact ⟨i + 1, by omega, by go_num, s6, f5, f5, .inl (HR6.out.mono (by omega)), by omega, HP7.out, HG7.out, HN7.out⟩
                    case measure => simp [intOf]; omega
                  | true =>
                    have hc3 : w7.cell? ⟨gr, offr + i * 4 + 3, none⟩ = some (.bool true) := by rw [← hck]; exact (HAT.out.fr HP7.out.frame).2.2.2
                    have HDD := Lib.hid (dead_X HP7.out.disk)
                    rw [HR6.out.live] at HDD
                    have HCH := Lib.hid (check_Y HP7.out (by omega))
                    have hdc := check_done s6 HR6.out.held (by have := HR6.out.n; omega)
                    go_wp2_with fail
                    refine HDD.out.mono ?_
                    rintro e w' ⟨rfl, rfl⟩
                    go_wp2_with fail
                    refine HCH.out.mono ?_
                    rintro e w9 ⟨rfl, hp9, hk9⟩
                    have HP9 := Lib.hid hp9
                    have HG9 := Lib.hid (hk9.blk HG7.out (.inl rfl))
                    have HN9 := Lib.hid (hk9.blk HN7.out (.inr rfl))
                    clear hp9 hk9 HCH HDD
                    rcases HR6.out.check (by omega) with ⟨a1, a2, _⟩ | ⟨a1, a2, a3⟩
                    · rw [a1]
                      have A2 := Lib.hid a2
                      clear a1 a2
                      go_wp2_with fail
                      go_roundw
                      case rel => exact ⟨i + 1, by omega, by go_num, _, f5, f5, .inl (A2.out.mono (by omega)), by omega, HP9.out, HG9.out, HN9.out⟩
                      case measure => simp [intOf]; omega
                    · rw [a1]
                      have A3 := Lib.hid a3
                      have HDD := Lib.hid (dead_X HP9.out.disk)
                      rw [a2] at HDD
                      have A2 := Lib.hid a2
                      clear a1 a2 a3
                      go_wp2_with fail
                      refine HDD.out.mono ?_
                      rintro e w' ⟨rfl, rfl⟩
                      go_wp2_with fail
                      go_roundw
                      case rel => exact ⟨i + 1, by omega, by go_num, _, f5, f5, .inr ⟨A2.out, fun K => .inl ((A3.out K).mono (by omega))⟩, by omega, HP9.out, HG9.out, HN9.out⟩
                      case measure => simp [intOf]; omega
                · have HDD := Lib.hid (dead_X HP6.out.disk)
                  rw [a2] at HDD
                  have A2 := Lib.hid a2; have A3 := Lib.hid a3
                  clear a2 a3 HMM
                  cases hck : o.chk with
                  | false =>
                    have hc3 : w6.cell? ⟨gr, offr + i * 4 + 3, none⟩ = some (.bool false) := by rw [← hck]; exact (HAT.out.fr HP6.out.frame).2.2.2
                    go_wp2_with fail
                    go_roundw
                    case rel => exact ⟨i + 1, by omega, by go_num, s6, f0, f5, .inr ⟨A2.out, fun K => (A3.out K).imp (fun h => h.mono (by omega)) (fun h => h.mono (by omega))⟩, by omega, HP6.out, HG6.out, HN6.out⟩
                    case measure => simp [intOf]; omega
                  | true =>
                    have hc3 : w6.cell? ⟨gr, offr + i * 4 + 3, none⟩ = some (.bool true) := by rw [← hck]; exact (HAT.out.fr HP6.out.frame).2.2.2
                    go_wp2_with fail
                    refine HDD.out.mono ?_
                    rintro e w' ⟨rfl, rfl⟩
                    go_wp2_with fail
                    go_roundw
                    case rel => exact ⟨i + 1, by omega, by go_num, s6, f0, f5, .inr ⟨A2.out, fun K => (A3.out K).imp (fun h => h.mono (by omega)) (fun h => h.mono (by omega))⟩, by omega, HP6.out, HG6.out, HN6.out⟩
                    case measure => simp [intOf]; omega
        · rw [hdead] at HDE
          clear hdead
          go_wp2_with fail
          refine HDE.out.mono ?_
          rintro e w' ⟨rfl, rfl⟩
          clear HDE
          rcases HTS.out.closed K1 with hoff | hoff
          · clear HTS
            obtain ⟨H4, t4, lv4, nw4, de4, pe4, fi4⟩ := hoff.open_ (by omega)
            obtain ⟨gk, hbk, hgk⟩ := HK1.out.here HPX.out.frame
            have HRE := Lib.hid (reopen_X HPX.out.disk _ K1 gk hbk hgk (by omega))
            generalize s.D.reopen K1 = D4 at *
            have T4 := Lib.hid t4; have LV := Lib.hid lv4
            clear hoff t4 lv4 hbk hgk
            go_wp2_with fail
            refine HRE.out.mono ?_
            rintro e w4 ⟨rfl, hd4, hk4⟩
            have HD4 := Lib.hid hd4
            have HG4 := Lib.hid (hk4.blk HBG.out (.inl rfl))
            have HN4 := Lib.hid (hk4.blk HBN.out (.inr rfl))
            clear hd4 HRE hk4
            go_wp2_with fail
            refine (open_Y (n := 4) (log := 60) HD4.out de4 pe4 (by omega) (by omega) (by omega) fi4 nw4 T4.out).mono ?_
            rintro e w5 ⟨g5, rfl, hp5, hk5⟩
            have HP5 := Lib.hid hp5
            have HG5 := Lib.hid (hk5.blk HG4.out (.inl rfl))
            have HN5 := Lib.hid (hk5.blk HN4.out (.inr rfl))
            clear hp5 HD4 T4 de4 pe4 fi4 nw4 hk5
            generalize openP 4 60 D4 H4 = s5 at *
            have HSH := Lib.hid (shown_any HP5.out LV.out.br LV.out.calm LV.out.n f0 (fun k hk => LV.out.page hk))
            go_wp2_with fail
            refine HSH.out.mono ?_
            rintro e w6 ⟨rfl, hf6⟩
            have HP6 := Lib.hid (HP5.out.stay hf6)
            have HG6 := Lib.hid (HG5.out.fr hf6 (by simp))
            have HN6 := Lib.hid (HN5.out.fr hf6 (by simp))
            clear hf6 HSH
            go_wp2_with (first
              | (with_reducible refine wpList_alloc_z rfl 42 rfl (.agg (outF f0 0).toArray) (outF f0 0).toArray (zero_4 f0) rfl ?_)
              | (with_reducible refine wpList_store_z (W := w6) rfl 42 (.tmp 19) (.tmp 160) rfl (outF f0 4) rfl rfl rfl ?zi ?zl ?z1 ?_))
            case zi => rw [outF_len]; exact size_4
            case zl => show (outF f0 0).length = (outF f0 4).length; rw [outF_len, outF_len]
            case z1 => exact outF_one f0 4
            intro w7 hb7 hf7 hz7
            have HP7 := Lib.hid (HP6.out.stay hf7)
            have hG7 := HG6.out.fr hf7 (by simp)
            have hN7 := HN6.out.fr hf7 (by simp)
            have a0 : w7.cell? ⟨w6.heap.size, 0, none⟩ = some (.int .u8 ((f0 0).toNat : Int)) := hb7.at_ rfl
            have a1 : w7.cell? ⟨w6.heap.size, 1, none⟩ = some (.int .u8 ((f0 1).toNat : Int)) := hb7.at_ rfl
            have a2 : w7.cell? ⟨w6.heap.size, 2, none⟩ = some (.int .u8 ((f0 2).toNat : Int)) := hb7.at_ rfl
            have a3 : w7.cell? ⟨w6.heap.size, 3, none⟩ = some (.int .u8 ((f0 3).toNat : Int)) := hb7.at_ rfl
            have b0 : w7.cell? ⟨wq.heap.size, 0, none⟩ = some (.int .u8 ((f0 0).toNat : Int)) := hG7.at_ rfl
            have b1 : w7.cell? ⟨wq.heap.size, 1, none⟩ = some (.int .u8 ((f0 1).toNat : Int)) := hG7.at_ rfl
            have b2 : w7.cell? ⟨wq.heap.size, 2, none⟩ = some (.int .u8 ((f0 2).toNat : Int)) := hG7.at_ rfl
            have b3 : w7.cell? ⟨wq.heap.size, 3, none⟩ = some (.int .u8 ((f0 3).toNat : Int)) := hG7.at_ rfl
            have c0 : w7.cell? ⟨wq.heap.size + 1, 0, none⟩ = some (.int .u8 ((f1 0).toNat : Int)) := hN7.at_ rfl
            have c1 : w7.cell? ⟨wq.heap.size + 1, 1, none⟩ = some (.int .u8 ((f1 1).toNat : Int)) := hN7.at_ rfl
            have c2 : w7.cell? ⟨wq.heap.size + 1, 2, none⟩ = some (.int .u8 ((f1 2).toNat : Int)) := hN7.at_ rfl
            have c3 : w7.cell? ⟨wq.heap.size + 1, 3, none⟩ = some (.int .u8 ((f1 3).toNat : Int)) := hN7.at_ rfl
            clear hG7 hN7 hb7 hf7 hz7
            have heq : ∀ w, (binOp .eql 42 (.agg #[.int .u8 ((f0 0).toNat : Int), .int .u8 ((f0 1).toNat : Int), .int .u8 ((f0 2).toNat : Int), .int .u8 ((f0 3).toNat : Int)]) (.agg #[.int .u8 ((f0 0).toNat : Int), .int .u8 ((f0 1).toNat : Int), .int .u8 ((f0 2).toNat : Int), .int .u8 ((f0 3).toNat : Int)])).run Try.prog w = .ok (.bool true) w := fun w => eq_4 f0 w
            go_wp2_with fail
            go_ret
            exact ⟨rfl, HP7.out.frame⟩
          · clear HTS
            obtain ⟨H4, t4, lv4, nw4, de4, pe4, fi4⟩ := hoff.open_ (by omega)
            obtain ⟨gk, hbk, hgk⟩ := HK1.out.here HPX.out.frame
            have HRE := Lib.hid (reopen_X HPX.out.disk _ K1 gk hbk hgk (by omega))
            generalize s.D.reopen K1 = D4 at *
            have T4 := Lib.hid t4; have LV := Lib.hid lv4
            clear hoff t4 lv4 hbk hgk
            go_wp2_with fail
            refine HRE.out.mono ?_
            rintro e w4 ⟨rfl, hd4, hk4⟩
            have HD4 := Lib.hid hd4
            have HG4 := Lib.hid (hk4.blk HBG.out (.inl rfl))
            have HN4 := Lib.hid (hk4.blk HBN.out (.inr rfl))
            clear hd4 HRE hk4
            go_wp2_with fail
            refine (open_Y (n := 4) (log := 60) HD4.out de4 pe4 (by omega) (by omega) (by omega) fi4 nw4 T4.out).mono ?_
            rintro e w5 ⟨g5, rfl, hp5, hk5⟩
            have HP5 := Lib.hid hp5
            have HG5 := Lib.hid (hk5.blk HG4.out (.inl rfl))
            have HN5 := Lib.hid (hk5.blk HN4.out (.inr rfl))
            clear hp5 HD4 T4 de4 pe4 fi4 nw4 hk5
            generalize openP 4 60 D4 H4 = s5 at *
            have HSH := Lib.hid (shown_any HP5.out LV.out.br LV.out.calm LV.out.n f1 (fun k hk => LV.out.page hk))
            go_wp2_with fail
            refine HSH.out.mono ?_
            rintro e w6 ⟨rfl, hf6⟩
            have HP6 := Lib.hid (HP5.out.stay hf6)
            have HG6 := Lib.hid (HG5.out.fr hf6 (by simp))
            have HN6 := Lib.hid (HN5.out.fr hf6 (by simp))
            clear hf6 HSH
            go_wp2_with (first
              | (with_reducible refine wpList_alloc_z rfl 42 rfl (.agg (outF f1 0).toArray) (outF f1 0).toArray (zero_4 f1) rfl ?_)
              | (with_reducible refine wpList_store_z (W := w6) rfl 42 (.tmp 19) (.tmp 160) rfl (outF f1 4) rfl rfl rfl ?yi ?yl ?y1 ?_))
            case yi => rw [outF_len]; exact size_4
            case yl => show (outF f1 0).length = (outF f1 4).length; rw [outF_len, outF_len]
            case y1 => exact outF_one f1 4
            intro w7 hb7 hf7 hz7
            have HP7 := Lib.hid (HP6.out.stay hf7)
            have hG7 := HG6.out.fr hf7 (by simp)
            have hN7 := HN6.out.fr hf7 (by simp)
            have a0 : w7.cell? ⟨w6.heap.size, 0, none⟩ = some (.int .u8 ((f1 0).toNat : Int)) := hb7.at_ rfl
            have a1 : w7.cell? ⟨w6.heap.size, 1, none⟩ = some (.int .u8 ((f1 1).toNat : Int)) := hb7.at_ rfl
            have a2 : w7.cell? ⟨w6.heap.size, 2, none⟩ = some (.int .u8 ((f1 2).toNat : Int)) := hb7.at_ rfl
            have a3 : w7.cell? ⟨w6.heap.size, 3, none⟩ = some (.int .u8 ((f1 3).toNat : Int)) := hb7.at_ rfl
            have b0 : w7.cell? ⟨wq.heap.size, 0, none⟩ = some (.int .u8 ((f0 0).toNat : Int)) := hG7.at_ rfl
            have b1 : w7.cell? ⟨wq.heap.size, 1, none⟩ = some (.int .u8 ((f0 1).toNat : Int)) := hG7.at_ rfl
            have b2 : w7.cell? ⟨wq.heap.size, 2, none⟩ = some (.int .u8 ((f0 2).toNat : Int)) := hG7.at_ rfl
            have b3 : w7.cell? ⟨wq.heap.size, 3, none⟩ = some (.int .u8 ((f0 3).toNat : Int)) := hG7.at_ rfl
            have c0 : w7.cell? ⟨wq.heap.size + 1, 0, none⟩ = some (.int .u8 ((f1 0).toNat : Int)) := hN7.at_ rfl
            have c1 : w7.cell? ⟨wq.heap.size + 1, 1, none⟩ = some (.int .u8 ((f1 1).toNat : Int)) := hN7.at_ rfl
            have c2 : w7.cell? ⟨wq.heap.size + 1, 2, none⟩ = some (.int .u8 ((f1 2).toNat : Int)) := hN7.at_ rfl
            have c3 : w7.cell? ⟨wq.heap.size + 1, 3, none⟩ = some (.int .u8 ((f1 3).toNat : Int)) := hN7.at_ rfl
            clear hG7 hN7 hb7 hf7 hz7
            have heq : ∀ w, (binOp .eql 42 (.agg #[.int .u8 ((f1 0).toNat : Int), .int .u8 ((f1 1).toNat : Int), .int .u8 ((f1 2).toNat : Int), .int .u8 ((f1 3).toNat : Int)]) (.agg #[.int .u8 ((f1 0).toNat : Int), .int .u8 ((f1 1).toNat : Int), .int .u8 ((f1 2).toNat : Int), .int .u8 ((f1 3).toNat : Int)])).run Try.prog w = .ok (.bool true) w := fun w => eq_4 f1 w
            obtain ⟨b, heqb⟩ := eq_4b f1 f0
            cases b with
            | true =>
              go_wp2_with fail
              go_ret
              exact ⟨rfl, HP7.out.frame⟩
            | false =>
              go_wp2_with fail
              go_ret
              exact ⟨rfl, HP7.out.frame⟩
      · obtain rfl : i = l.length := by omega
        clear HDE
        rcases HTS.out.closed K1 with hoff | hoff
        · clear HTS
          obtain ⟨H4, t4, lv4, nw4, de4, pe4, fi4⟩ := hoff.open_ (by omega)
          obtain ⟨gk, hbk, hgk⟩ := HK1.out.here HPX.out.frame
          have HRE := Lib.hid (reopen_X HPX.out.disk _ K1 gk hbk hgk (by omega))
          generalize s.D.reopen K1 = D4 at *
          have T4 := Lib.hid t4; have LV := Lib.hid lv4
          clear hoff t4 lv4 hbk hgk
          go_wp2_with fail
          refine HRE.out.mono ?_
          rintro e w4 ⟨rfl, hd4, hk4⟩
          have HD4 := Lib.hid hd4
          have HG4 := Lib.hid (hk4.blk HBG.out (.inl rfl))
          have HN4 := Lib.hid (hk4.blk HBN.out (.inr rfl))
          clear hd4 HRE hk4
          go_wp2_with fail
          refine (open_Y (n := 4) (log := 60) HD4.out de4 pe4 (by omega) (by omega) (by omega) fi4 nw4 T4.out).mono ?_
          rintro e w5 ⟨g5, rfl, hp5, hk5⟩
          have HP5 := Lib.hid hp5
          have HG5 := Lib.hid (hk5.blk HG4.out (.inl rfl))
          have HN5 := Lib.hid (hk5.blk HN4.out (.inr rfl))
          clear hp5 HD4 T4 de4 pe4 fi4 nw4 hk5
          generalize openP 4 60 D4 H4 = s5 at *
          have HSH := Lib.hid (shown_any HP5.out LV.out.br LV.out.calm LV.out.n f0 (fun k hk => LV.out.page hk))
          go_wp2_with fail
          refine HSH.out.mono ?_
          rintro e w6 ⟨rfl, hf6⟩
          have HP6 := Lib.hid (HP5.out.stay hf6)
          have HG6 := Lib.hid (HG5.out.fr hf6 (by simp))
          have HN6 := Lib.hid (HN5.out.fr hf6 (by simp))
          clear hf6 HSH
          go_wp2_with (first
            | (with_reducible refine wpList_alloc_z rfl 42 rfl (.agg (outF f0 0).toArray) (outF f0 0).toArray (zero_4 f0) rfl ?_)
            | (with_reducible refine wpList_store_z (W := w6) rfl 42 (.tmp 19) (.tmp 160) rfl (outF f0 4) rfl rfl rfl ?vi ?vl ?v1 ?_))
          case vi => rw [outF_len]; exact size_4
          case vl => show (outF f0 0).length = (outF f0 4).length; rw [outF_len, outF_len]
          case v1 => exact outF_one f0 4
          intro w7 hb7 hf7 hz7
          have HP7 := Lib.hid (HP6.out.stay hf7)
          have hG7 := HG6.out.fr hf7 (by simp)
          have hN7 := HN6.out.fr hf7 (by simp)
          have a0 : w7.cell? ⟨w6.heap.size, 0, none⟩ = some (.int .u8 ((f0 0).toNat : Int)) := hb7.at_ rfl
          have a1 : w7.cell? ⟨w6.heap.size, 1, none⟩ = some (.int .u8 ((f0 1).toNat : Int)) := hb7.at_ rfl
          have a2 : w7.cell? ⟨w6.heap.size, 2, none⟩ = some (.int .u8 ((f0 2).toNat : Int)) := hb7.at_ rfl
          have a3 : w7.cell? ⟨w6.heap.size, 3, none⟩ = some (.int .u8 ((f0 3).toNat : Int)) := hb7.at_ rfl
          have b0 : w7.cell? ⟨wq.heap.size, 0, none⟩ = some (.int .u8 ((f0 0).toNat : Int)) := hG7.at_ rfl
          have b1 : w7.cell? ⟨wq.heap.size, 1, none⟩ = some (.int .u8 ((f0 1).toNat : Int)) := hG7.at_ rfl
          have b2 : w7.cell? ⟨wq.heap.size, 2, none⟩ = some (.int .u8 ((f0 2).toNat : Int)) := hG7.at_ rfl
          have b3 : w7.cell? ⟨wq.heap.size, 3, none⟩ = some (.int .u8 ((f0 3).toNat : Int)) := hG7.at_ rfl
          have c0 : w7.cell? ⟨wq.heap.size + 1, 0, none⟩ = some (.int .u8 ((f1 0).toNat : Int)) := hN7.at_ rfl
          have c1 : w7.cell? ⟨wq.heap.size + 1, 1, none⟩ = some (.int .u8 ((f1 1).toNat : Int)) := hN7.at_ rfl
          have c2 : w7.cell? ⟨wq.heap.size + 1, 2, none⟩ = some (.int .u8 ((f1 2).toNat : Int)) := hN7.at_ rfl
          have c3 : w7.cell? ⟨wq.heap.size + 1, 3, none⟩ = some (.int .u8 ((f1 3).toNat : Int)) := hN7.at_ rfl
          clear hG7 hN7 hb7 hf7 hz7
          have heq : ∀ w, (binOp .eql 42 (.agg #[.int .u8 ((f0 0).toNat : Int), .int .u8 ((f0 1).toNat : Int), .int .u8 ((f0 2).toNat : Int), .int .u8 ((f0 3).toNat : Int)]) (.agg #[.int .u8 ((f0 0).toNat : Int), .int .u8 ((f0 1).toNat : Int), .int .u8 ((f0 2).toNat : Int), .int .u8 ((f0 3).toNat : Int)])).run Try.prog w = .ok (.bool true) w := fun w => eq_4 f0 w
          go_wp2_with fail
          go_ret
          exact ⟨rfl, HP7.out.frame⟩
        · clear HTS
          obtain ⟨H4, t4, lv4, nw4, de4, pe4, fi4⟩ := hoff.open_ (by omega)
          obtain ⟨gk, hbk, hgk⟩ := HK1.out.here HPX.out.frame
          have HRE := Lib.hid (reopen_X HPX.out.disk _ K1 gk hbk hgk (by omega))
          generalize s.D.reopen K1 = D4 at *
          have T4 := Lib.hid t4; have LV := Lib.hid lv4
          clear hoff t4 lv4 hbk hgk
          go_wp2_with fail
          refine HRE.out.mono ?_
          rintro e w4 ⟨rfl, hd4, hk4⟩
          have HD4 := Lib.hid hd4
          have HG4 := Lib.hid (hk4.blk HBG.out (.inl rfl))
          have HN4 := Lib.hid (hk4.blk HBN.out (.inr rfl))
          clear hd4 HRE hk4
          go_wp2_with fail
          refine (open_Y (n := 4) (log := 60) HD4.out de4 pe4 (by omega) (by omega) (by omega) fi4 nw4 T4.out).mono ?_
          rintro e w5 ⟨g5, rfl, hp5, hk5⟩
          have HP5 := Lib.hid hp5
          have HG5 := Lib.hid (hk5.blk HG4.out (.inl rfl))
          have HN5 := Lib.hid (hk5.blk HN4.out (.inr rfl))
          clear hp5 HD4 T4 de4 pe4 fi4 nw4 hk5
          generalize openP 4 60 D4 H4 = s5 at *
          have HSH := Lib.hid (shown_any HP5.out LV.out.br LV.out.calm LV.out.n f1 (fun k hk => LV.out.page hk))
          go_wp2_with fail
          refine HSH.out.mono ?_
          rintro e w6 ⟨rfl, hf6⟩
          have HP6 := Lib.hid (HP5.out.stay hf6)
          have HG6 := Lib.hid (HG5.out.fr hf6 (by simp))
          have HN6 := Lib.hid (HN5.out.fr hf6 (by simp))
          clear hf6 HSH
          go_wp2_with (first
            | (with_reducible refine wpList_alloc_z rfl 42 rfl (.agg (outF f1 0).toArray) (outF f1 0).toArray (zero_4 f1) rfl ?_)
            | (with_reducible refine wpList_store_z (W := w6) rfl 42 (.tmp 19) (.tmp 160) rfl (outF f1 4) rfl rfl rfl ?xi ?xl ?x1 ?_))
          case xi => rw [outF_len]; exact size_4
          case xl => show (outF f1 0).length = (outF f1 4).length; rw [outF_len, outF_len]
          case x1 => exact outF_one f1 4
          intro w7 hb7 hf7 hz7
          have HP7 := Lib.hid (HP6.out.stay hf7)
          have hG7 := HG6.out.fr hf7 (by simp)
          have hN7 := HN6.out.fr hf7 (by simp)
          have a0 : w7.cell? ⟨w6.heap.size, 0, none⟩ = some (.int .u8 ((f1 0).toNat : Int)) := hb7.at_ rfl
          have a1 : w7.cell? ⟨w6.heap.size, 1, none⟩ = some (.int .u8 ((f1 1).toNat : Int)) := hb7.at_ rfl
          have a2 : w7.cell? ⟨w6.heap.size, 2, none⟩ = some (.int .u8 ((f1 2).toNat : Int)) := hb7.at_ rfl
          have a3 : w7.cell? ⟨w6.heap.size, 3, none⟩ = some (.int .u8 ((f1 3).toNat : Int)) := hb7.at_ rfl
          have b0 : w7.cell? ⟨wq.heap.size, 0, none⟩ = some (.int .u8 ((f0 0).toNat : Int)) := hG7.at_ rfl
          have b1 : w7.cell? ⟨wq.heap.size, 1, none⟩ = some (.int .u8 ((f0 1).toNat : Int)) := hG7.at_ rfl
          have b2 : w7.cell? ⟨wq.heap.size, 2, none⟩ = some (.int .u8 ((f0 2).toNat : Int)) := hG7.at_ rfl
          have b3 : w7.cell? ⟨wq.heap.size, 3, none⟩ = some (.int .u8 ((f0 3).toNat : Int)) := hG7.at_ rfl
          have c0 : w7.cell? ⟨wq.heap.size + 1, 0, none⟩ = some (.int .u8 ((f1 0).toNat : Int)) := hN7.at_ rfl
          have c1 : w7.cell? ⟨wq.heap.size + 1, 1, none⟩ = some (.int .u8 ((f1 1).toNat : Int)) := hN7.at_ rfl
          have c2 : w7.cell? ⟨wq.heap.size + 1, 2, none⟩ = some (.int .u8 ((f1 2).toNat : Int)) := hN7.at_ rfl
          have c3 : w7.cell? ⟨wq.heap.size + 1, 3, none⟩ = some (.int .u8 ((f1 3).toNat : Int)) := hN7.at_ rfl
          clear hG7 hN7 hb7 hf7 hz7
          have heq : ∀ w, (binOp .eql 42 (.agg #[.int .u8 ((f1 0).toNat : Int), .int .u8 ((f1 1).toNat : Int), .int .u8 ((f1 2).toNat : Int), .int .u8 ((f1 3).toNat : Int)]) (.agg #[.int .u8 ((f1 0).toNat : Int), .int .u8 ((f1 1).toNat : Int), .int .u8 ((f1 2).toNat : Int), .int .u8 ((f1 3).toNat : Int)])).run Try.prog w = .ok (.bool true) w := fun w => eq_4 f1 w
          obtain ⟨b, heqb⟩ := eq_4b f1 f0
          cases b with
          | true =>
            go_wp2_with fail
            go_ret
            exact ⟨rfl, HP7.out.frame⟩
          | false =>
            go_wp2_with fail
            go_ret
            exact ⟨rfl, HP7.out.frame⟩

end Go.Proofs.Ytidpleejgalljaa
