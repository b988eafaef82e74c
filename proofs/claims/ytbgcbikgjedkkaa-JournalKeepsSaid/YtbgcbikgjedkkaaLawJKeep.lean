/-
  The walk of JournalKeeps: for all inputs it answers true and leaves old memory alone.
-/
import Derived.Test.YtbgcbikgjedkkaaJv
import Derived.Test.YtbgcbikgjedkkaaBits
import Derived.Test.YtbgcbikgjedkkaaArgOps
namespace Go.Proofs.Ytbgcbikgjedkkaa
open Go.RowKit

set_option maxRecDepth 100000 in
set_option maxHeartbeats 8000000 in
theorem jkeep_walk (W : World) (lv kv : Value) (zs : List Int) (p : Int) (K : List Bool) (hl : ArgInts W lv zs) (hK : ArgBools W kv K) :
    Calls Try.prog 10 #[lv, .int .i64 p, kv] W fun e w' => e = .returned (.bool true) ∧ Fr [] W w' := by
  have hm1 := hl.1; have hm2 := hK.1
  unfold maxLen at hm1 hm2
  obtain ⟨_, lA, lc, rfl, hlc, hlcell⟩ := id hl
  obtain ⟨_, kg2, ⟨kA2, kc2, ko2, rfl, hkc2, _⟩, _⟩ := id hK
  have HL := Lib.hid hlcell; have HK := Lib.hid hK
  clear hl hK hlcell
  go_enter Try.func10, Try.ntmps10
  go_wp2_with fail
  refine (awake07 W).mono ?_
  rintro e w1 ⟨rfl, hf1⟩
  have HF1 := Lib.hid hf1; clear hf1
  by_cases hb1 : 20 < zs.length
  · go_wp2
    go_ret
    exact ⟨rfl, HF1.out⟩
  by_cases hb2 : 200 < K.length
  · go_wp2
    go_ret
    exact ⟨rfl, HF1.out⟩
  obtain ⟨q, hq, eq⟩ := and_mask p 63 (by omega)
  have eq' : bits .and .i64 p 63 = (q : Int) := eq
  clear eq
  go_wp2_with fail
  refine (new_X (X := fun _ => False) W w1 64 (by omega) (by omega) HF1.out (by simp)).mono ?_
  rintro e w2 ⟨d, rfl, hd2, _⟩
  have HD2 := Lib.hid hd2; clear hd2
  obtain ⟨r0, l0, n0⟩ := open_zero (n := 64) (St.new 0 64 64 (by omega)) (by simp) (rep_zero 64)
  have R0 := Lib.hid r0; have L0 := Lib.hid l0; have N0 := Lib.hid n0
  clear r0 l0 n0
  go_wp2_with fail
  refine (open_X (f := 0) (n := 64) HD2.out rfl (by omega) (by decide) (by rw [N0.out]; omega)).mono ?_
  rintro e w3 ⟨out, rfl, hd3, ⟨vs3, hr3⟩, hb3, hf3⟩
  rw [L0.out] at hb3
  rw [R0.out] at hr3
  obtain ⟨nA, nc, rfl, _, _⟩ := own_shape hr3.own
  simp only [List.map_nil, List.length_nil]
  have hz3 := hb3.lt
  have HD3 := Lib.hid hd3; have HB3 := Lib.hid hb3; have HZ2 := Lib.hid HD2.out.frame.size; clear hd3 hb3 hf3 hr3 HD2
  go_wp2_with fail
  refine (limit_X HD3.out q (by omega)).mono ?_
  rintro e w4 ⟨rfl, hd4, hk4⟩
  have hb4 := hk4.blk HB3.out (.inr (by omega))
  have hd4' : DkX W w4 d ((DM.new 64).limited q) (fun x => x = w2.heap.size ∨ False) := hd4.weak (fun x hx => by rcases hx with rfl | h; right; omega; cases h)
  have HD4 := Lib.hid hd4'; have HB4 := Lib.hid hb4
  clear hd4 hd4' hb4 hk4 HD3 HB3
  go_wp2_with fail
  go_loopw [13, 14, 15] (KRel W d w2.heap.size zs.length K) (fun _ _ i _ => zs.length - (intOf i).toNat)
  case atStart => exact ⟨0, fun _ => False, _, [], [], Nat.zero_le _, rfl, by simp, by simp, HD4.out, RowsX.nil _ _, .inl ⟨_, rfl, KLive.start q, HB4.out⟩⟩
  case round =>
    obtain ⟨k, Y, D, Ws, vs, hk, rfl, hY0, hYl, hD, hrows, hst⟩ := hrel
    have HY0 := Lib.hid hY0; have HYL := Lib.hid hYl; have HD := Lib.hid hD; have HROWS := Lib.hid hrows
    clear hY0 hYl hD hrows
    by_cases hkn : k < zs.length
    · rcases hst with ⟨l, hkW, hlive, hblk⟩ | ⟨b, gY, hdead, hfl, hYg⟩
      · obtain ⟨g, off, eA, hcell⟩ := HL.out (by omega)
        subst eA
        have hc := HD.out.frame.keep (hcell k _ (List.getElem?_eq_getElem hkn))
        clear hcell
        generalize zs[k] = z at *
        obtain ⟨m, hm, em⟩ := and_mask z 127 (by omega)
        have em' : bits .and .i64 z 127 = (m : Int) := em
        clear em
        have HLV := Lib.hid hlive; have HBK := Lib.hid hblk
        have hdd := hlive.st.dead
        have hWs : Ws.length < 20 := by omega
        have HKW := Lib.hid hkW
        clear hlive hblk hkW
        go_wp2_with fail
        refine (dead_X HD.out).mono ?_
        rintro e w5 ⟨rfl, rfl⟩
        rw [hdd]
        go_wp2_with fail
        rw [byte_small (by omega)]
        refine (bytes07 wr m (by omega) (UInt8.ofNat k)).mono ?_
        rintro e w5 ⟨rfl, hb5, hf5⟩
        have hz5 := hb5.lt
        have hv5 : BytesAt w5 (.slice (some ⟨wr.heap.size, 0, none⟩) m m) (runB m (UInt8.ofNat k)) wr.heap.size := by
          have := BytesAt.of_blk hb5 m (by rw [runB_len]; exact Nat.le_refl _)
          rw [runB_len] at this
          exact this
        have hd5 := HD.out.fr hf5
        have hl5 := HBK.out.fr hf5 (by simp)
        have hr5 := HROWS.out.fr hf5 (by simp)
        have hlw := HBK.out.lt
        have HD5 := Lib.hid hd5; have HL5 := Lib.hid hl5; have HR5 := Lib.hid hr5; have HV5 := Lib.hid hv5
        clear hb5 hf5 hv5 hd5 hl5 hr5 HBK HROWS
        go_wp2_with fail
        refine (append_X (lg := w2.heap.size) (gb := wr.heap.size) HD5.out HL5.out (.inl (.inl rfl)) HZ2.out HLV.out.ok HV5.out (.inr (by omega)) (by rw [runB_len]; omega) (by have := HLV.out.done; have := HLV.out.most; omega)).mono ?_
        rintro e w6 ⟨rfl, hd6, hb6, hok6, hk6⟩
        have hr6 := HR5.out.kp hk6 (fun x hx => ⟨.inl (.inr hx), fun h => HYL.out (h ▸ hx)⟩)
        have hv6 := hk6.bytes HV5.out ⟨.inr (by omega), by omega⟩
        have HD6 := Lib.hid hd6; have HR6 := Lib.hid hr6; have HV6 := Lib.hid hv6; have HB6 := Lib.hid hb6
        have hz6 := hb6.lt
        have hzw6 : wr.heap.size < w6.heap.size := hd6.lt _ (.inr ⟨Nat.le_refl _, hz5⟩)
        have hYw : Hid (∀ x, Y x → x < wr.heap.size) := Lib.hid fun x hx => HD.out.lt x (.inr hx)
        have hWr := HD.out.frame.size
        clear hd6 hr6 hv6 hb6 hok6 hk6 HD5 HL5 HR5 HV5 HD
        rcases HLV.out.next (runB m (UInt8.ofNat k)) (by rw [runB_len]; omega) (by omega) K with ⟨hE, hnx⟩ | ⟨hE, hnx⟩
        · rw [hE]
          have HNX := Lib.hid hnx
          clear hnx hE
          obtain ⟨i0, hi0, hz0, hz1, hz2⟩ := info_parts info_bytes
          have HI0 := Lib.hid hi0; have HZ0 := Lib.hid hz0; have HZ1 := Lib.hid hz1; have HZZ2 := Lib.hid hz2; clear hi0 hz0 hz1 hz2
          obtain ⟨wA, wc, rfl, hwc, _⟩ := own_shape HR6.out.own
          go_wp2_with (refine wpList_append_lies _ rfl (.tmp 70) (.tmp 72) 52 rfl 0 22 i0 (.slice none 0 0) 1 24 Try.underlying52 HI0.out HZ0.out HZ1.out HZZ2.out rfl (by omega) (.slice wA Ws.length wc) Ws.length vs rfl ?own ⟨w6.heap.size, 0, none⟩ 1 1 [.slice (some ⟨wr.heap.size, 0, none⟩) m m] rfl rfl ?news ?one (by omega) (by unfold maxLen; omega) (by omega) (Nat.zero_le _) _ rfl ?_)
          case own => exact own_fr HR6.out.own ((Fr.refl [] w6).alloc _) (by simp)
          case one => intro u hu; simp at hu; subst hu; rfl
          case news => intro j u hu; rw [Addr.add_mid, Nat.zero_add]; exact (Blk.new w6 22 [.slice (some ⟨wr.heap.size, 0, none⟩) m m]).at_ hu
          intro g7 cap w7 hown7 hg7 hat7 hlt7
          have hfa : Fr [] w6 (w6.alloc (.cells #[.slice (some ⟨wr.heap.size, 0, none⟩) m m] 22)) := (Fr.refl [] w6).alloc _
          have hfb : Fr (Value.slice wA Ws.length wc).ownBlock.toList (w6.alloc (.cells #[.slice (some ⟨wr.heap.size, 0, none⟩) m m] 22)) w7 := (Fr.refl _ _).grown hg7 (fun g hg => .inl (by simp [hg]))
          have hsz : (w6.alloc (.cells #[.slice (some ⟨wr.heap.size, 0, none⟩) m m] 22)).heap.size = w6.heap.size + 1 := by simp
          have hinY : ∀ x, (Value.slice wA Ws.length wc).ownBlock = some x → Y x := HR6.out.inY
          have hr7 := (((HR6.out.fr hfa (by simp)).weak (Z := fun x => Y x ∨ x = wr.heap.size) (fun x hx => .inl hx))).push (g7 := g7) (cap := cap) (w7 := w7) (fun x hx => by rw [hsz]; rcases hx with h | h; have := hYw.out x h; omega; omega) (HV6.out.fr hfa (by simp)) (.inr rfl) (fun h => by have := hYw.out _ (hinY _ h); omega) rfl hown7 hfb (by rcases hat7 with h | h; exact .inl h; exact .inr (by omega))
          have hl7 : Blk w7 w2.heap.size 84 _ := (HB6.out.fr hfa (by simp)).fr hfb (fun hm => HYL.out (hinY _ (by simpa using hm)))
          have hd7 := (HD6.out.stay hfa).frX hfb (fun x hx => .inl ⟨.inl (.inr (hinY x (by simpa using hx))), HY0.out x (hinY x (by simpa using hx))⟩)
          have hfin : KRel W d w2.heap.size zs.length K (.slice (some ⟨g7, 0, none⟩) (Ws.length + 1) cap) u14 (.int .i64 ((k : Int) + 1)) w7 := by
            refine ⟨k + 1, fun x => (Y x ∨ x = wr.heap.size) ∨ x = g7, _, Ws ++ [runB m (UInt8.ofNat k)], vs ++ [.slice (some ⟨wr.heap.size, 0, none⟩) m m], hkn, rfl, ?_, ?_, hd7.weak ?_, hr7, .inl ⟨_, by rw [List.length_append, HKW.out]; rfl, HNX.out, hl7⟩⟩
            · rintro x ((h | h) | h)
              · exact HY0.out x h
              · omega
              · rcases hat7 with h7 | h7
                · exact HY0.out x (hinY x (h ▸ h7))
                · omega
            · rintro ((h | h) | h)
              · exact HYL.out h
              · omega
              · rcases hat7 with h7 | h7
                · exact HYL.out (hinY _ (h ▸ h7))
                · omega
            · rintro x (h | (h | h) | h)
              · exact .inl (.inl (.inl h))
              · exact .inl (.inl (.inr h))
              · exact .inl (.inr (by omega))
              · rcases hat7 with h7 | h7
                · exact .inl (.inl (.inr (hinY x (h ▸ h7))))
                · right; rw [hsz]; omega
          have HFIN := Lib.hid hfin
          clear hfin hd7 hl7 hr7 hinY hsz hfb hfa hown7 hg7 hat7 HNX HD6 HR6 HV6 HB6
          go_wp2
          exact ⟨HFIN.out, by simp [intOf]; omega⟩
        · rw [hE]
          have HNX := Lib.hid hnx
          clear hnx hE
          go_wp2
          refine ⟨⟨k + 1, fun x => Y x ∨ x = wr.heap.size, _, Ws, vs, hkn, rfl, ?_, ?_, HD6.out.weak ?_, HR6.out.weak (fun x hx => .inl hx), .inr ⟨_, wr.heap.size, HNX.out, HV6.out, .inr rfl⟩⟩, by simp [intOf]; omega⟩
          · rintro x (h | h)
            · exact HY0.out x h
            · omega
          · rintro (h | h)
            · exact HYL.out h
            · omega
          · rintro x (h | h | h)
            · exact .inl (.inl h)
            · exact .inl (.inr h)
            · exact .inr (by omega)
      · have HFL := Lib.hid hfl
        clear hfl
        have hdd := hdead.dead
        go_wp2_with fail
        refine (dead_X HD.out).mono ?_
        rintro e w5 ⟨rfl, rfl⟩
        rw [hdd]
        clear hdd
        obtain ⟨t1, t2, t3⟩ := hdead.told
        have hWn := hdead.most
        have HT1 := Lib.hid t1; have HT2 := Lib.hid t2; have HT3' := Lib.hid t3; have HDEAD := Lib.hid hdead.dead
        clear t1 t2 t3 hdead
        go_wp2_with fail
        refine (dead_X HD.out).mono ?_
        rintro e w5 ⟨rfl, rfl⟩
        rw [HDEAD.out]
        go_wp2_with fail
        obtain ⟨gk, hgk, hgk'⟩ := HK.out.here HD.out.frame
        refine (reopen_X HD.out _ K gk hgk hgk' (by omega)).mono ?_
        rintro e w6 ⟨rfl, hd6, hk6⟩
        have hr6 := HROWS.out.kp hk6 (fun x hx => .inr hx)
        have hfl6 := hk6.bytes HFL.out (.inr hYg)
        have HFL6 := Lib.hid hfl6
        clear hfl6
        have HD6 := Lib.hid hd6; have HR6 := Lib.hid hr6
        clear hd6 hk6 hr6 hgk hgk' HD HROWS
        go_wp2_with fail
        refine (open_X (f := 0) (n := 64) HD6.out rfl (by omega) (by rw [HT1.out]; omega) HT2.out).mono ?_
        rintro e w7 ⟨out7, rfl, hd7, ⟨vs7, hr7⟩, _, hf7⟩
        have hw7 := HR6.out.fr hf7 (by simp)
        have hlt7 : ∀ k, Y k → k < w7.heap.size := fun k hk => hd7.lt k (.inl (.inr hk))
        have hwr7 := (hw7.in_ hlt7).rd
        obtain ⟨wA, wc, rfl, hwc, _⟩ := own_shape hw7.own
        obtain ⟨oA, oc, rfl, hoc, _⟩ := own_shape hr7.own
        have hfl7 := HFL6.out.fr hf7 (by simp)
        have HFL7 := Lib.hid hfl7
        clear hfl7 HFL6
        have HF7 := Lib.hid hd7.frame; have HWR7 := Lib.hid hwr7
        clear hd7 hw7 hf7 hlt7 hwr7 HD6 HR6
        rcases HT3'.out with h3 | h3
        · have HT3 := Lib.hid h3
          clear h3
          rw [HT3.out] at hr7 hoc ⊢
          have hgr7 := hr7.rd
          clear hr7
          rw [← List.append_nil Ws] at hgr7
          obtain ⟨hgr1, hg1, _⟩ := hgr7.take
          clear hgr7
          have hsl := slice_run_to (P := Try.prog) (t := 52) Try.underlying52 (by kernel_rfl) oA Ws.length oc Ws.length .i64 hg1
          go_wp2_with fail
          go_quiet (fail)
          go_wp2_with fail
          refine (same_any (hgr1.drewN _) (HWR7.out.drewN _) (by omega) (by omega)).mono ?_
          rintro e w8 ⟨rfl, m8, rfl⟩
          rw [decide_eq_true rfl]
          go_wp2
          go_ret
          exact ⟨rfl, HF7.out.drewN _⟩
        · have HT3 := Lib.hid h3
          clear h3
          have hr7' := hr7
          rw [HT3.out] at hr7'
          rw [HT3.out] at hr7 hoc ⊢
          have hgr7 := hr7.rd
          clear hr7
          have hone := hr7'.bytes (j := Ws.length) (bs := b) (by simp)
          obtain ⟨g1, A1, c1, x1, y1, he1, hc1, m1, b1⟩ := hone
          injection he1 with he1 _ he2
          subst he1 he2
          have k5 := fun nq : Nat => run_string_of (P := Try.prog) (dst := 9) Try.underlying22 Try.underlying5 Try.underlying9 (b1.fr ((Fr.refl [] w7).drewN nq) (by simp))
          have k6 := fun nq : Nat => run_string_of (P := Try.prog) (dst := 9) Try.underlying22 Try.underlying5 Try.underlying9 (HFL7.out.fr ((Fr.refl [] w7).drewN nq) (by simp))
          clear hr7' b1
          obtain ⟨hgr1, hg1, _⟩ := hgr7.take
          clear hgr7
          rw [List.length_append, List.length_singleton] at hoc hc1
          simp only [List.length_append, List.length_singleton]
          have hgt : decide ((Ws.length : Int) < (Ws.length : Int) + 1) = true := decide_eq_true (by omega)
          have hsl := slice_run_to (P := Try.prog) (t := 52) Try.underlying52 (by kernel_rfl) (some ⟨g1, 0, none⟩) (Ws.length + 1) oc Ws.length .i64 hg1
          go_wp2_with fail
          go_quiet (fail)
          go_wp2_with fail
          refine (same_any (hgr1.drewN _) (HWR7.out.drewN _) (by omega) (by omega)).mono ?_
          rintro e w8 ⟨rfl, m8, rfl⟩
          rw [decide_eq_true rfl]
          go_wp2
          go_ret
          exact ⟨rfl, HF7.out.drewN _⟩
    · rcases hst with ⟨l, hkW, hlive, hblk⟩ | ⟨b, gY, hdead, hfl, hYg⟩
      · clear hblk
        have hWn : Ws.length ≤ 20 := by omega
        have HKW := Lib.hid hkW
        clear hkW
        obtain ⟨t1, t2, t3, t4⟩ := hlive.told K
        have HT1 := Lib.hid t1; have HT2 := Lib.hid t2; have HT3 := Lib.hid t3; have HDEAD := Lib.hid t4
        clear t1 t2 t3 t4 hlive
        go_wp2_with fail
        refine (dead_X HD.out).mono ?_
        rintro e w5 ⟨rfl, rfl⟩
        rw [HDEAD.out]
        go_wp2_with fail
        obtain ⟨gk, hgk, hgk'⟩ := HK.out.here HD.out.frame
        refine (reopen_X HD.out _ K gk hgk hgk' (by omega)).mono ?_
        rintro e w6 ⟨rfl, hd6, hk6⟩
        have hr6 := HROWS.out.kp hk6 (fun x hx => .inr hx)
        skip
        have HD6 := Lib.hid hd6; have HR6 := Lib.hid hr6
        clear hd6 hk6 hr6 hgk hgk' HD HROWS
        go_wp2_with fail
        refine (open_X (f := 0) (n := 64) HD6.out rfl (by omega) (by rw [HT1.out]; omega) HT2.out).mono ?_
        rintro e w7 ⟨out7, rfl, hd7, ⟨vs7, hr7⟩, _, hf7⟩
        have hw7 := HR6.out.fr hf7 (by simp)
        have hlt7 : ∀ k, Y k → k < w7.heap.size := fun k hk => hd7.lt k (.inl (.inr hk))
        have hwr7 := (hw7.in_ hlt7).rd
        obtain ⟨wA, wc, rfl, hwc, _⟩ := own_shape hw7.own
        obtain ⟨oA, oc, rfl, hoc, _⟩ := own_shape hr7.own
        skip
        have HF7 := Lib.hid hd7.frame; have HWR7 := Lib.hid hwr7
        clear hd7 hw7 hf7 hlt7 hwr7 HD6 HR6
        rw [HT3.out] at hr7 hoc ⊢
        have hgr7 := hr7.rd
        clear hr7
        rw [← List.append_nil Ws] at hgr7
        obtain ⟨hgr1, hg1, _⟩ := hgr7.take
        clear hgr7
        have hsl := slice_run_to (P := Try.prog) (t := 52) Try.underlying52 (by kernel_rfl) oA Ws.length oc Ws.length .i64 hg1
        go_wp2_with fail
        go_quiet (fail)
        go_wp2_with fail
        refine (same_any (hgr1.drewN _) (HWR7.out.drewN _) (by omega) (by omega)).mono ?_
        rintro e w8 ⟨rfl, m8, rfl⟩
        rw [decide_eq_true rfl]
        go_wp2
        go_ret
        exact ⟨rfl, HF7.out.drewN _⟩
      · have HFL := Lib.hid hfl
        clear hfl
        obtain ⟨t1, t2, t3⟩ := hdead.told
        have hWn := hdead.most
        have HT1 := Lib.hid t1; have HT2 := Lib.hid t2; have HT3' := Lib.hid t3; have HDEAD := Lib.hid hdead.dead
        clear t1 t2 t3 hdead
        go_wp2_with fail
        refine (dead_X HD.out).mono ?_
        rintro e w5 ⟨rfl, rfl⟩
        rw [HDEAD.out]
        go_wp2_with fail
        obtain ⟨gk, hgk, hgk'⟩ := HK.out.here HD.out.frame
        refine (reopen_X HD.out _ K gk hgk hgk' (by omega)).mono ?_
        rintro e w6 ⟨rfl, hd6, hk6⟩
        have hr6 := HROWS.out.kp hk6 (fun x hx => .inr hx)
        have hfl6 := hk6.bytes HFL.out (.inr hYg)
        have HFL6 := Lib.hid hfl6
        clear hfl6
        have HD6 := Lib.hid hd6; have HR6 := Lib.hid hr6
        clear hd6 hk6 hr6 hgk hgk' HD HROWS
        go_wp2_with fail
        refine (open_X (f := 0) (n := 64) HD6.out rfl (by omega) (by rw [HT1.out]; omega) HT2.out).mono ?_
        rintro e w7 ⟨out7, rfl, hd7, ⟨vs7, hr7⟩, _, hf7⟩
        have hw7 := HR6.out.fr hf7 (by simp)
        have hlt7 : ∀ k, Y k → k < w7.heap.size := fun k hk => hd7.lt k (.inl (.inr hk))
        have hwr7 := (hw7.in_ hlt7).rd
        obtain ⟨wA, wc, rfl, hwc, _⟩ := own_shape hw7.own
        obtain ⟨oA, oc, rfl, hoc, _⟩ := own_shape hr7.own
        have hfl7 := HFL6.out.fr hf7 (by simp)
        have HFL7 := Lib.hid hfl7
        clear hfl7 HFL6
        have HF7 := Lib.hid hd7.frame; have HWR7 := Lib.hid hwr7
        clear hd7 hw7 hf7 hlt7 hwr7 HD6 HR6
        rcases HT3'.out with h3 | h3
        · have HT3 := Lib.hid h3
          clear h3
          rw [HT3.out] at hr7 hoc ⊢
          have hgr7 := hr7.rd
          clear hr7
          rw [← List.append_nil Ws] at hgr7
          obtain ⟨hgr1, hg1, _⟩ := hgr7.take
          clear hgr7
          have hsl := slice_run_to (P := Try.prog) (t := 52) Try.underlying52 (by kernel_rfl) oA Ws.length oc Ws.length .i64 hg1
          go_wp2_with fail
          go_quiet (fail)
          go_wp2_with fail
          refine (same_any (hgr1.drewN _) (HWR7.out.drewN _) (by omega) (by omega)).mono ?_
          rintro e w8 ⟨rfl, m8, rfl⟩
          rw [decide_eq_true rfl]
          go_wp2
          go_ret
          exact ⟨rfl, HF7.out.drewN _⟩
        · have HT3 := Lib.hid h3
          clear h3
          have hr7' := hr7
          rw [HT3.out] at hr7'
          rw [HT3.out] at hr7 hoc ⊢
          have hgr7 := hr7.rd
          clear hr7
          have hone := hr7'.bytes (j := Ws.length) (bs := b) (by simp)
          obtain ⟨g1, A1, c1, x1, y1, he1, hc1, m1, b1⟩ := hone
          injection he1 with he1 _ he2
          subst he1 he2
          have k5 := fun nq : Nat => run_string_of (P := Try.prog) (dst := 9) Try.underlying22 Try.underlying5 Try.underlying9 (b1.fr ((Fr.refl [] w7).drewN nq) (by simp))
          have k6 := fun nq : Nat => run_string_of (P := Try.prog) (dst := 9) Try.underlying22 Try.underlying5 Try.underlying9 (HFL7.out.fr ((Fr.refl [] w7).drewN nq) (by simp))
          clear hr7' b1
          obtain ⟨hgr1, hg1, _⟩ := hgr7.take
          clear hgr7
          rw [List.length_append, List.length_singleton] at hoc hc1
          simp only [List.length_append, List.length_singleton]
          have hgt : decide ((Ws.length : Int) < (Ws.length : Int) + 1) = true := decide_eq_true (by omega)
          have hsl := slice_run_to (P := Try.prog) (t := 52) Try.underlying52 (by kernel_rfl) (some ⟨g1, 0, none⟩) (Ws.length + 1) oc Ws.length .i64 hg1
          go_wp2_with fail
          go_quiet (fail)
          go_wp2_with fail
          refine (same_any (hgr1.drewN _) (HWR7.out.drewN _) (by omega) (by omega)).mono ?_
          rintro e w8 ⟨rfl, m8, rfl⟩
          rw [decide_eq_true rfl]
          go_wp2
          go_ret
          exact ⟨rfl, HF7.out.drewN _⟩

end Go.Proofs.Ytbgcbikgjedkkaa
