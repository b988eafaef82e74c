/-
  The contract of orangeryref07.Open.
-/
import Derived.Test.YtbgcbikgjedkkaaKb
import Derived.Test.YtbgcbikgjedkkaaJv
namespace Go.Proofs.Ytbgcbikgjedkkaa
open Go.RowKit

def rlog (m f n at_ num ses : Nat) (br : Bool) : List Value := [.pointer (some ⟨m, 0, none⟩), .int .i64 (f : Int), .int .i64 (n : Int), .int .i64 (at_ : Int), .int .u32 (num : Int), .int .u32 (ses : Int), .bool br]
def anyP (L : List (List UInt8)) : Bool := L.any fun s => (pieceOf s).isSome
theorem anyP_snoc (L : List (List UInt8)) (s : List UInt8) : anyP (L ++ [s]) = (anyP L || (pieceOf s).isSome) := by simp [anyP]
theorem newFrom_snoc (a : Nat × Nat) (L : List (List UInt8)) (s : List UInt8) : newFrom a (L ++ [s]) = newStep (newFrom a L) s := by simp [newFrom, List.foldl_append]
theorem anyP_none {L : List (List UInt8)} (h : anyP L = false) : (newFrom (0, 0) L) = (0, 0) := by
  have hn : ∀ s ∈ L, pieceOf s = none := fun s hs => by
    have := List.any_eq_false.1 h s hs
    simpa using this
  have := newFold_le L 0 0 (fun s hs q hq => by rw [hn s hs] at hq; cases hq) (0, 0) (Nat.le_refl _) (Nat.le_refl _)
  exact Prod.ext (by show _ = 0; omega) (by show _ = 0; omega)
theorem max_u32 (a b : Nat) : (Value.int .u32 (if a < b then (b : Int) else (a : Int))) = .int .u32 ((max a b : Nat) : Int) := by
  congr 1
  split <;> omega

theorem newFrom_bd : ∀ (L : List (List UInt8)) (a : Nat × Nat), a.1 < 4294967296 ∧ a.2 < 4294967296 → (newFrom a L).1 < 4294967296 ∧ (newFrom a L).2 < 4294967296
  | [], _, h => h
  | s :: L, a, h => newFrom_bd L (newStep a s) (newStep_bd s h)
section
variable {P : Program} {o : Oper} {a : Act} {w : World}
theorem exec_load_blk {t t' : TypeId} {x : Operand} {g : Nat} {cs : List Value} {d : TypeDesc} (ho : o.op = .load t x) (hx : a.eval x = .pointer (some ⟨g, 0, none⟩)) (hb : Blk w g t' cs) (hu : P.underlying t = some d) (hd : d.isRow = true) (hi : (P.info? t).map (·.size) = some cs.length) :
    (execOp a.eval o).run P w = .ok (.value (.agg cs.toArray)) w := by
  unfold execOp
  simp only [ho, hx, Instr.loadAt, Instr.sureAddr, Sem.run_bind, Sem.run_pure, Result.andThen_ok, run_loadVar_mid w g 0 t cs d (fun j v hj => by rw [Nat.zero_add]; exact hb.at_ hj) hu hd hi]
end

set_option maxRecDepth 100000 in
set_option maxHeartbeats 400000 in
theorem ropen_dead {w : World} {m : Nat} {D : DM} {fp : List Nat} (hd : RefAt w m D fp) (hdead : D.dead = true) (f n : Int) :
    Calls Try.prog 40 #[.pointer (some ⟨m, 0, none⟩), .int .i64 f, .int .i64 n] w fun e w' => e = .returned (.tuple #[.pointer none, .slice none 0 0, .int .i64 10]) ∧ w = w' := by
  obtain ⟨sv, pv, rfl, hd⟩ := hd
  have c3 := hd.c3
  rw [hdead] at c3
  clear hd
  go_enter Try.func40, Try.ntmps40
  go_wp2
  go_ret3
  exact ⟨rfl, rfl⟩
set_option maxRecDepth 100000 in
set_option maxHeartbeats 400000 in
theorem ropen_arg {w : World} {m : Nat} {D : DM} {fp : List Nat} (hd : RefAt w m D fp) (hdead : D.dead = false) (f n : Int) (hn1 : -1000000 ≤ n) (hn2 : n ≤ 1000000) (hf0 : 0 ≤ f) (hbad : n < 1 ∨ (D.S.length : Int) < n ∨ (D.S.length : Int) - n < f) :
    Calls Try.prog 40 #[.pointer (some ⟨m, 0, none⟩), .int .i64 f, .int .i64 n] w fun e w' => e = .returned (.tuple #[.pointer none, .slice none 0 0, .int .i64 1]) ∧ w = w' := by
  obtain ⟨sv, pv, rfl, hd⟩ := hd
  have c3 := hd.c3
  have c0 := hd.c0
  rw [hdead] at c3
  have hmost := hd.2.2.2.most
  obtain ⟨sA, sc, rfl, hsc, _⟩ := own_shape hd.2.1
  clear hd
  by_cases b1 : n < 1
  · clear hbad
    go_enter Try.func40, Try.ntmps40
    go_wp2
    go_ret3
    exact ⟨rfl, rfl⟩
  · have b2 : ¬ f < 0 := by omega
    by_cases b3 : (D.S.length : Int) < n
    · clear hbad
      go_enter Try.func40, Try.ntmps40
      go_wp2
      go_ret3
      exact ⟨rfl, rfl⟩
    · have b4 : (D.S.length : Int) - n < f := by omega
      clear hbad
      go_enter Try.func40, Try.ntmps40
      go_wp2
      go_ret3
      exact ⟨rfl, rfl⟩

def RLoadRel (w : World) (D : DM) (f n : Nat) (l any ses num i : Value) (wr : World) : Prop :=
  ∃ (k : Nat) (vs : List Value), k ≤ n ∧ i = .int .i64 k ∧ RowsIn wr l (D.part f k) vs w.heap.size ∧ any = .bool (anyP (D.part f k)) ∧ ses = .int .u32 ((newFrom (0, 0) (D.part f k)).1 : Int) ∧ num = .int .u32 ((newFrom (0, 0) (D.part f k)).2 : Int) ∧ Fr [] w wr
def RJRel (w : World) (m f n num0 ses lg gl : Nat) (lv : Value) (B : Nat) (L : List (List UInt8)) (out : Value) (wr : World) : Prop :=
  ∃ (R : List (Stamp × List UInt8)) (vs : List Value) (k at_ : Nat) (lc : List Value) (ls : List Value), R.length ≤ at_ ∧ at_ ≤ n ∧ n ≤ at_ + k ∧ recordsOf n none L = R ++ recordsOf k (lastOf R) (L.drop at_) ∧ at_ = (R.map (·.1.count)).sum ∧
    (∀ x ∈ R, x.1.session < 4294967296 ∧ x.1.number < 4294967296) ∧
    RowsIn wr out (R.map (·.2)) vs (gl + 1) ∧ Blk wr lg 99 (rlog m f n at_ (numAfter num0 (lastOf R)) ses false) ∧ Blk wr gl 95 lc ∧ lc.length = 5 ∧
    (∀ st, lastOf R = some st → lc[0]? = some (.int .u32 (st.session : Int)) ∧ lc[1]? = some (.int .u32 (st.number : Int))) ∧ RowsX wr lv L ls (fun x => x < B) ∧ Fr [] w wr

set_option maxRecDepth 100000 in
set_option maxHeartbeats 8000000 in
theorem ropen_ok {w : World} {m f n : Nat} {D : DM} {fp : List Nat} (hd : RefAt w m D fp) (hdead : D.dead = false) (h1 : 1 ≤ n) (hfit : f + n ≤ D.S.length) :
    Calls Try.prog 40 #[.pointer (some ⟨m, 0, none⟩), .int .i64 (f : Int), .int .i64 (n : Int)] w fun e w' =>
      ((newestOf (D.part f n)).1 = 4294967295 ∧ e = .returned (.tuple #[.pointer none, .slice none 0 0, .int .i64 5]) ∧ Fr [] w w') ∨
      ((newestOf (D.part f n)).1 < 4294967295 ∧ ∃ lg out, e = .returned (.tuple #[.pointer (some ⟨lg, 0, none⟩), out, .int .i64 0]) ∧ w.heap.size ≤ lg ∧
        RowsAt w' out ((openR D f n).map (·.2)) (lg + 1) ∧ Blk w' lg 99 (rlog m f n (openL D f n).at_ (openL D f n).num (openL D f n).ses false) ∧ Fr [] w w') := by
  have HD := Lib.hid hd; have HDEAD := Lib.hid hdead
  obtain ⟨sv, pv, rfl, hd⟩ := hd
  have c3 := hd.c3
  have c0 := hd.c0
  rw [hdead] at c3
  have hmost := hd.2.2.2.most
  have HOK := Lib.hid hd.2.2.2
  obtain ⟨sA, sc, rfl, hsc, _⟩ := own_shape hd.2.1
  clear hd hdead
  have b1 : ¬ (n : Int) < 1 := by omega
  have b2 : ¬ (f : Int) < 0 := by omega
  have b3 : ¬ (D.S.length : Int) < (n : Int) := by omega
  have b4 : ¬ (D.S.length : Int) - (n : Int) < (f : Int) := by omega
  go_enter Try.func40, Try.ntmps40
  go_wp2_with fail
  go_loopw [9, 10, 11, 12, 13] (RLoadRel w D f n) (fun _ _ _ _ i _ => n - (intOf i).toNat)
  case atStart => exact ⟨0, [], Nat.zero_le _, rfl, RowsIn.nil _ _, rfl, rfl, rfl, Fr.refl _ _⟩
  case round =>
    obtain ⟨k, vs, hk, rfl, hrows, rfl, rfl, rfl, hf⟩ := hrel
    have HROWS := Lib.hid hrows; have HF := Lib.hid hf
    clear hrows hf c0 c3
    obtain ⟨lA, lc, rfl, hlc, _⟩ := own_shape HROWS.out.own
    rw [D.part_len]
    rw [D.part_len] at hlc
    by_cases hkn : k < n
    · go_wp2_with fail
      refine (rread_at (locRef m D |>.fr HD.out HF.out (by simp)) ((f : Int) + (k : Int))).mono ?_
      rintro e w1 ⟨v1, g1, rfl, hb1, hg1, hf1, _⟩
      have hE : D.readE ((f : Int) + (k : Int)) = 0 := by
        unfold DM.readE
        rw [HDEAD.out, if_neg (by simp), if_neg (by omega)]
      have hRd : D.read ((f : Int) + (k : Int)) = D.look (f + k) := by
        unfold DM.read
        rw [if_pos hE, show ((f : Int) + (k : Int)).toNat = f + k by omega]
      have hs64 : (D.look (f + k)).length = 64 := DM.look_len HOK.out (by omega)
      rw [hRd] at hb1
      rw [hE]
      clear hE hRd
      obtain ⟨A1, c1, o1, rfl, hc1, hcell1⟩ := id hb1
      obtain ⟨rfl, hcell2⟩ := hcell1 (by omega)
      have hcs1 : CellsOf w1 g1 o1 (D.look (f + k)) := fun j u hu => hcell2 j (B8 u) (by rw [bcells_at, hu]; rfl)
      have hg1w : g1 < w1.heap.size := by
        have := hcs1 0 _ (List.getElem?_eq_getElem (by omega))
        exact World.block_lt_of_cell? w1 _ this
      have HB1 := Lib.hid hb1; have HF1 := Lib.hid hf1; have HCS1 := Lib.hid hcs1
      have hwr := HF.out.size
      clear hb1 hf1 hcell1 hcell2 hcs1
      rw [hs64]
      rw [hs64] at HB1 hc1
      go_upto_region 15 with fail
      refine wp_region_lit ?_
      refine wpList_plain rfl fun K hK => ?_
      refine wp_run_same (v := ?al1_0) ?yl1_0 (hK _ _ ?_)
      case yl1_0 => go_simp <;> with_reducible rfl
      clear hK K
      simp only [Act.put, List.setIfInBounds_toArray, List.set_cons_zero, List.set_cons_succ]
      refine wpList_plain rfl fun K hK => ?_
      refine wp_run_same (v := ?al1_1) ?yl1_1 (hK _ _ ?_)
      case yl1_1 => go_simp <;> with_reducible rfl
      clear hK K
      simp only [Act.put, List.setIfInBounds_toArray, List.set_cons_zero, List.set_cons_succ]
      refine wpList_plain rfl fun K hK => ?_
      obtain ⟨i0, hi0, hz0, hz1, hz2⟩ := info_parts info_bytes
      refine wp_build_cell (.tmp 70) rfl Try.underlying52 hi0 hz0 hz1 rfl (.slice (some ⟨g1, o1, none⟩) 64 c1) rfl rfl w1.heap.size rfl fun w6 hB6 hF6 hz6 => hK _ _ ?_
      simp only [Act.put, List.setIfInBounds_toArray, List.set_cons_zero, List.set_cons_succ]
      refine wpList_plain rfl fun K hK => ?_
      refine wp_append_fr (.tmp 69) (.tmp 71) rfl 22 1 24 Try.underlying52 hi0 hz0 hz1 hz2 rfl (by omega) (.slice lA k lc) k vs rfl ?own ⟨w1.heap.size, 0, none⟩ 1 1 [.slice (some ⟨g1, o1, none⟩) 64 c1] rfl rfl ?news ?one (by omega) (by unfold maxLen; omega) (by omega) (w1.heap.size + 1) hz6 fun g7 cap w7 ho7 hf7 hat7 hlt7 => hK _ _ ?_
      case own => have := (HROWS.out.fr (HF1.out.trans hF6 (by simp)) (by simp)).own; rw [D.part_len] at this; exact this
      case one => intro u hu; simp at hu; subst hu; rfl
      case news => intro j u hu; rw [Addr.add_mid, Nat.zero_add]; exact hB6.at_ hu
      simp only [Act.put, List.setIfInBounds_toArray, List.set_cons_zero, List.set_cons_succ]
      refine wpList_plain rfl fun K hK => ?_
      refine wp_run_same (v := ?al1_4) ?yl1_4 (hK _ _ ?_)
      case yl1_4 => go_simp <;> with_reducible rfl
      clear hK K
      simp only [Act.put, List.setIfInBounds_toArray, List.set_cons_zero, List.set_cons_succ]
      refine wpList_nil ?_
      have hown : ∀ x, (Value.slice lA k lc).ownBlock = some x → w.heap.size ≤ x ∧ x < wr.heap.size := fun x hx => by
        have h1 := HROWS.out.ge x; have h2 := own_lt HROWS.out.own x
        rw [D.part_len] at h1 h2
        exact ⟨h1 hx, h2 hx⟩
      have hr7 : RowsIn w7 (.slice (some ⟨g7, 0, none⟩) (k + 1) cap) (D.part f (k + 1)) (vs ++ [.slice (some ⟨g1, o1, none⟩) 64 c1]) w.heap.size := by
        have hr6 := HROWS.out.fr (HF1.out.trans hF6 (by simp)) (by simp)
        have := hr6.push (g7 := g7) (cap := cap) (w7 := w7) (HB1.out.fr hF6 (by simp)) (by omega) (by omega) (fun hx => by have := hown g1 (by rw [D.part_len] at hx; exact hx); omega) rfl (by rw [D.part_len]; exact ho7) (by rw [D.part_len]; exact hf7) (by rw [D.part_len, hz6]; exact hat7) (by omega)
        rw [D.part_len] at this
        rw [D.part_succ]
        exact this
      have hcs7 : CellsOf w7 g1 o1 (D.look (f + k)) := (HCS1.out.fr hF6 (by simp)).fr hf7 (fun hm => by have := hown g1 (by simpa using hm); omega)
      have hfw7 : Fr [] w w7 := ((HF.out.trans HF1.out (by simp)).trans hF6 (by simp)).trans hf7 (fun x hx => .inr (hown x (by simpa using hx)).1)
      have HR7 := Lib.hid hr7; have HCS7 := Lib.hid hcs7; have HFW7 := Lib.hid hfw7
      clear hr7 hcs7 hfw7 hown hat7 ho7 hf7 hlt7 hF6 hB6 hz6 hi0 hz0 hz1 hz2 hK
      go_wp2_with fail
      refine (rpiece_any HCS7.out hs64 hc1).mono ?_
      rintro e w8 ⟨rfl, hf8⟩
      have HF8 := Lib.hid hf8; clear hf8
      unfold rpieceV
      have hps := D.part_succ f k
      have HPS := Lib.hid hps
      clear hps
      have hfin : Hid (∀ w9, Fr [] w8 w9 → ∀ ses num : Value, ∀ an : Bool, an = anyP (D.part f (k + 1)) → ses = .int .u32 ((newFrom (0, 0) (D.part f (k + 1))).1 : Int) → num = .int .u32 ((newFrom (0, 0) (D.part f (k + 1))).2 : Int) → RLoadRel w D f n (.slice (some ⟨g7, 0, none⟩) (k + 1) cap) (.bool an) ses num (.int .i64 ((k : Int) + 1)) w9) :=
        Lib.hid fun w9 hf9 ses num an e0 e1 e2 => ⟨k + 1, _, hkn, rfl, HR7.out.fr (HF8.out.trans hf9 (by simp)) (by simp), by rw [e0], e1, e2, (HFW7.out.trans HF8.out (by simp)).trans hf9 (by simp)⟩
      cases hq : pieceOf (D.look (f + k)) with
      | none =>
        simp only [rnone]
        go_wp2
        refine ⟨hfin.out _ ((Fr.refl [] w8).alloc _) _ _ _ ?_ ?_ ?_, by simp [intOf]; omega⟩
        · rw [HPS.out, anyP_snoc, hq]; simp
        · rw [HPS.out, newFrom_snoc]; unfold newStep; rw [hq]
        · rw [HPS.out, newFrom_snoc]; unfold newStep; rw [hq]
      | some q =>
        simp only [rcells]
        go_wp2
        refine ⟨hfin.out _ ((Fr.refl [] w8).alloc _) _ _ _ ?_ ?_ ?_, by simp [intOf]; omega⟩
        · rw [HPS.out, anyP_snoc, hq]; simp
        · rw [HPS.out, newFrom_snoc]; unfold newStep; rw [hq]; exact max_u32 _ _
        · rw [HPS.out, newFrom_snoc]; unfold newStep; rw [hq]; exact max_u32 _ _
    · have hkk : k = n := by omega
      subst hkk
      have hLn := D.part_len f k
      have hbd := newFrom_bd (D.part f k) (0, 0) ⟨by decide, by decide⟩
      have hnw := newestOf_eq (D.part f k)
      have h64 : ∀ s ∈ D.part f k, s.length = 64 := fun s hs => by
        unfold DM.part at hs
        obtain ⟨j, hj, rfl⟩ := List.mem_map.1 hs
        exact DM.look_len HOK.out (by have := List.mem_range.1 hj; omega)
      have H64 := Lib.hid h64; have HLN := Lib.hid hLn; have HNW := Lib.hid hnw
      clear h64 hLn hnw
      by_cases hfull : (newFrom (0, 0) (D.part f k)).1 = 4294967295
      · have hany : anyP (D.part f k) = true := by
          cases h : anyP (D.part f k) with
          | true => rfl
          | false => rw [anyP_none h] at hfull; cases hfull
        have hcmp : (((newFrom (0, 0) (D.part f k)).1 : Int) == 4294967295) = true := by rw [hfull]; rfl
        have HFULL := Lib.hid hfull
        clear hfull
        go_wp2
        go_ret3
        exact .inl ⟨by rw [HNW.out]; exact HFULL.out, rfl, HF.out⟩
      · have hcmp : (((newFrom (0, 0) (D.part f k)).1 : Int) == 4294967295) = false := by rw [beq_eq_false_iff_ne]; omega
        have hlt : (newFrom (0, 0) (D.part f k)).1 < 4294967295 := by omega
        have wses : IntKind.u32.wrap (((newFrom (0, 0) (D.part f k)).1 : Int) + 1) = (((newFrom (0, 0) (D.part f k)).1 + 1 : Nat) : Int) := by rw [IntKind.wrap_u32]; omega
        have wnum : IntKind.u32.wrap (((newFrom (0, 0) (D.part f k)).2 : Int) + 1) = ((((newFrom (0, 0) (D.part f k)).2 + 1) % 4294967296 : Nat) : Int) := by rw [IntKind.wrap_u32]; omega
        have HLT := Lib.hid hlt
        clear hfull hlt
        obtain ⟨num0, hN0⟩ : ∃ num0, ((newFrom (0, 0) (D.part f k)).2 + 1) % 4294967296 = num0 := ⟨_, rfl⟩
        obtain ⟨ses0, hS0⟩ : ∃ ses0, (newFrom (0, 0) (D.part f k)).1 + 1 = ses0 := ⟨_, rfl⟩
        rw [hN0] at wnum
        rw [hS0] at wses
        have HN0 := Lib.hid hN0; have HS0 := Lib.hid hS0
        clear hN0 hS0
        obtain ⟨wq, hwq⟩ : ∃ wq, wq = wr := ⟨_, rfl⟩
        subst hwq
        cases hany : anyP (D.part f k)
        · skip
          go_wp2_with fail
          go_loopw [19] (RJRel w m f k num0 ses0 wq.heap.size (wq.heap.size + 1) (.slice lA k lc) wq.heap.size (D.part f k)) (fun out _ => k + 1 - sliceLen out)
          case atStart =>
            have hfa : Fr [] wq (wq.alloc (.cells #[.pointer (some ⟨m, 0, none⟩), .int .i64 (f : Int), .int .i64 (k : Int), .int .i64 0, .int .u32 (num0 : Int), .int .u32 (ses0 : Int), .bool false] 99)) := (Fr.refl [] wq).alloc _
            have hrx : RowsX wq (.slice lA k lc) (D.part f k) vs (fun x => x < wq.heap.size) := by
              have h := HROWS.out
              have hl := HLN.out
              have ho := h.own
              have hol := own_lt h.own
              simp only [hl] at ho hol
              refine ⟨by rw [hl]; exact ho, h.len, fun x hx => hol x hx, fun j u bs h1 h2 => ?_, h.one⟩
              obtain ⟨g, h3, h4, h5, h6⟩ := h.row j u bs h1 h2
              rw [hl] at h6
              exact ⟨g, h3, h5, h6⟩
            refine ⟨[], [], k, 0, rnone, vs, Nat.zero_le _, Nat.zero_le _, by omega, rfl, rfl, by simp, RowsIn.nil _ _, (Blk.new wq _ (rlog m f k 0 num0 ses0 false)).alloc _, ?_, rfl, by intro st h; simp [lastOf] at h, (hrx.fr hfa (by simp)).fr ((Fr.refl [] _).alloc _) (by simp), (HF.out.trans hfa (by simp)).alloc _⟩
            have h := Blk.new (wq.alloc (.cells #[.pointer (some ⟨m, 0, none⟩), .int .i64 (f : Int), .int .i64 (k : Int), .int .i64 0, .int .u32 (num0 : Int), .int .u32 (ses0 : Int), .bool false] 99)) 95 rnone
            rw [show (wq.alloc (.cells #[.pointer (some ⟨m, 0, none⟩), .int .i64 (f : Int), .int .i64 (k : Int), .int .i64 0, .int .u32 (num0 : Int), .int .u32 (ses0 : Int), .bool false] 99)).heap.size = wq.heap.size + 1 by simp] at h
            exact h
          case round =>
            obtain ⟨R, vs, kk, at_, lcs, ls, hRa, han, hnk, hrecs, hsum, hbd2, hrows2, hlog, hlb, hlc5, hlast, hrx, hf2⟩ := hrel
            obtain ⟨oA, oc, rfl, hoc, _⟩ := own_shape hrows2.own
            rw [List.length_map] at *
            have m3 := hlog.at_ (i := 3) rfl
            have hB : ∀ x, x < wq.heap.size → x < wr.heap.size := fun x hx => by have := hlog.lt; omega
            have hrd := (hrx.in_ hB).rd
            have HRD := Lib.hid hrd; have HRECS := Lib.hid hrecs; have HSUM := Lib.hid hsum; have HBD := Lib.hid hbd2; have HROWS2 := Lib.hid hrows2; have HLOG := Lib.hid hlog; have HLB := Lib.hid hlb; have HLC := Lib.hid hlc5; have HLAST := Lib.hid hlast; have HRX := Lib.hid hrx; have HF2 := Lib.hid hf2
            clear hrd hB hrecs hsum hbd2 hrows2 hlog hlb hlc5 hlast hrx hf2
            have hnone : recordOf ((D.part f k).drop at_) = none → recordsOf k none (D.part f k) = R := fun h => by rw [HRECS.out, recs_none h, List.append_nil]
            have HNONE := Lib.hid hnone; clear hnone
            have hend : ∀ w5, recordsOf k none (D.part f k) = R → Fr [] wr w5 → (newestOf (D.part f k)).1 < 4294967295 ∧ ∃ lg out, Ending.returned (.tuple #[.pointer (some ⟨wq.heap.size, 0, none⟩), .slice oA R.length oc, .int .i64 0]) = .returned (.tuple #[.pointer (some ⟨lg, 0, none⟩), out, .int .i64 0]) ∧ w.heap.size ≤ lg ∧
                RowsAt w5 out ((openR D f k).map (·.2)) (lg + 1) ∧ Blk w5 lg 99 (rlog m f k (openL D f k).at_ (openL D f k).num (openL D f k).ses false) ∧ Fr [] w w5 := by
              intro w5 hR hf5
              refine ⟨by rw [HNW.out]; exact HLT.out, wq.heap.size, _, rfl, HF.out.size, ?_, ?_, HF2.out.trans hf5 (by simp)⟩
              · show RowsAt w5 _ ((recordsOf k none (D.part f k)).map (·.2)) _
                rw [hR]
                exact ⟨vs, (HROWS2.out.fr hf5 (by simp)).mono (by omega)⟩
              · have e1 : (openL D f k).at_ = at_ := by show ((recordsOf k none (D.part f k)).map (·.1.count)).sum = _; rw [hR]; exact HSUM.out.symm
                have e2 : (openL D f k).num = numAfter num0 (lastOf R) := by show numAfter (((newestOf (D.part f k)).2 + 1) % 4294967296) (lastOf (recordsOf k none (D.part f k))) = _; rw [hR, HNW.out, HN0.out]
                have e3 : (openL D f k).ses = ses0 := by show (newestOf (D.part f k)).1 + 1 = _; rw [HNW.out, HS0.out]
                rw [e1, e2, e3]
                exact HLOG.out.fr hf5 (by simp)
            have HEND := Lib.hid hend; clear hend
            go_wp2_with fail
            refine (whole_any (k0 := at_) HRD.out H64.out (by rw [HLN.out]; exact han) (by rw [HLN.out]; omega)).mono ?_
            intro e w4 hans
            unfold WholeAns at hans
            cases hro : recordOf ((D.part f k).drop at_) with
            | none =>
              rw [hro] at hans
              obtain ⟨rfl, hf4⟩ := hans
              have hR0 := HNONE.out hro
              have HR0 := Lib.hid hR0; have HF4 := Lib.hid hf4
              clear hR0 hf4 hro
              simp only [rnone]
              go_wp2
              go_ret3
              exact .inr (HEND.out _ HR0.out (HF4.out.alloc _))
            | some x =>
              obtain ⟨st, b⟩ := x
              rw [hro] at hans
              obtain ⟨v4, g4, rfl, hb4, hg4, hf4⟩ := hans
              obtain ⟨q1, q2, q3, q4, q5⟩ := recordOf_bd hro
              rw [List.length_drop, HLN.out] at q2
              have HRO := Lib.hid hro; have HB4 := Lib.hid hb4; have HG4 := Lib.hid hg4; have HF4 := Lib.hid hf4
              obtain ⟨A4, c4, off4, rfl, _, _⟩ := id hb4
              clear hro hb4 hg4 hf4
              have hcz : ((st.count : Int) == 0) = false := by rw [beq_eq_false_iff_ne]; omega
              simp only [rcells]
              by_cases hR : R = []
              · have hRn : ¬ (0 < R.length) := by rw [hR]; simp
                have hst : stops (lastOf R) st = false := by rw [hR]; rfl
                have HST := Lib.hid hst
                have o0 : True := trivial
                have o1 : True := trivial
                clear hR hst
                have hwq0 := HF.out.size
                go_upto_region 29 with fail
                have hfa : Fr [] wr (w4.alloc (.cells (rcells ⟨st, 0, b⟩ (.slice A4 b.length c4)).toArray 95)) := HF4.out.alloc _
                have hpB : Blk (w4.alloc (.cells (rcells ⟨st, 0, b⟩ (.slice A4 b.length c4)).toArray 95)) w4.heap.size 95 (rcells ⟨st, 0, b⟩ (.slice A4 b.length c4)) := Blk.new w4 _ _
                have hb5 : BytesAt (w4.alloc (.cells (rcells ⟨st, 0, b⟩ (.slice A4 b.length c4)).toArray 95)) (.slice A4 b.length c4) b g4 := HB4.out.fr ((Fr.refl [] w4).alloc _) (by simp)
                have hz5 : (w4.alloc (.cells (rcells ⟨st, 0, b⟩ (.slice A4 b.length c4)).toArray 95)).heap.size = w4.heap.size + 1 := by simp
                have hz4 := HF4.out.size
                unfold rcells at hfa hpB hb5 hz5
                generalize w4.alloc (.cells #[.int .u32 (st.session : Int), .int .u32 (st.number : Int), .int .i64 ((0 : Nat) : Int), .int .i64 (st.count : Int), (.slice A4 b.length c4)] 95) = w5 at *
                have p4 := hpB.at_ (i := 4) rfl
                have HFA := Lib.hid hfa; have HPB := Lib.hid hpB; have HB5 := Lib.hid hb5
                clear hfa hpB hb5 o0 o1
                obtain ⟨i0, hi0, hz0, hz1, hz2⟩ := info_parts info_bytes
                refine wp_region_lit ?_
                refine wpList_plain rfl fun K hK => ?_
                refine wp_run_same (v := ?al2_0) ?yl2_0 (hK _ _ ?_)
                case yl2_0 => go_simp <;> with_reducible rfl
                clear hK K
                simp only [Act.put, List.setIfInBounds_toArray, List.set_cons_zero, List.set_cons_succ]
                refine wpList_plain rfl fun K hK => ?_
                refine wp_run_same (v := ?al2_1) ?yl2_1 (hK _ _ ?_)
                case yl2_1 => go_simp <;> with_reducible rfl
                clear hK K
                simp only [Act.put, List.setIfInBounds_toArray, List.set_cons_zero, List.set_cons_succ]
                refine wpList_plain rfl fun K hK => ?_
                refine wp_run_same (v := ?al2_2) ?yl2_2 (hK _ _ ?_)
                case yl2_2 => go_simp <;> with_reducible rfl
                clear hK K
                simp only [Act.put, List.setIfInBounds_toArray, List.set_cons_zero, List.set_cons_succ]
                refine wpList_plain rfl fun K hK => ?_
                refine wp_build_cell (.tmp 137) rfl Try.underlying52 hi0 hz0 hz1 rfl (.slice A4 b.length c4) rfl rfl (w4.heap.size + 1) hz5 fun w6 hB6 hF6 hz6 => hK _ _ ?_
                simp only [Act.put, List.setIfInBounds_toArray, List.set_cons_zero, List.set_cons_succ]
                refine wpList_plain rfl fun K hK => ?_
                refine wp_append_fr (.tmp 135) (.tmp 138) rfl 22 1 24 Try.underlying52 hi0 hz0 hz1 hz2 rfl (by omega) (.slice oA R.length oc) R.length vs rfl ?own ⟨w4.heap.size + 1, 0, none⟩ 1 1 [(.slice A4 b.length c4)] rfl rfl ?news ?one (by omega) (by unfold maxLen; omega) (by omega) (w4.heap.size + 2) hz6 fun g7 cap w7 ho7 hf7 hat7 hlt7 => hK _ _ ?_
                case own => have := (HROWS2.out.fr (HFA.out.trans hF6 (by simp)) (by simp)).own; rw [List.length_map] at this; exact this
                case one => intro u hu; simp at hu; subst hu; rfl
                case news => intro j u hu; rw [Addr.add_mid, Nat.zero_add]; exact hB6.at_ hu
                simp only [Act.put, List.setIfInBounds_toArray, List.set_cons_zero, List.set_cons_succ]
                refine wpList_plain rfl fun K hK => ?_
                refine wp_run_same (v := ?al2_5) ?yl2_5 (hK _ _ ?_)
                case yl2_5 => go_simp <;> with_reducible rfl
                clear hK K
                simp only [Act.put, List.setIfInBounds_toArray, List.set_cons_zero, List.set_cons_succ]
                refine wpList_nil ?_
                have hF6' : Fr [] wr w6 := HFA.out.trans hF6 (by simp)
                have hox : ∀ x ∈ (Value.slice oA R.length oc).ownBlock.toList, wq.heap.size + 2 ≤ x ∧ x < wr.heap.size := fun x hx => by
                  have h : (Value.slice oA R.length oc).ownBlock = some x := by simpa using hx
                  exact ⟨HROWS2.out.ge x h, own_lt HROWS2.out.own x h⟩
                obtain ⟨g4', hb4', hg4', hl4'⟩ := (HB5.out.fr hF6 (by simp)).lt HG4.out (by omega)
                have hr7 : RowsIn w7 (.slice (some ⟨g7, 0, none⟩) (R.length + 1) cap) ((R ++ [(st, b)]).map (·.2)) (vs ++ [(.slice A4 b.length c4)]) (wq.heap.size + 1 + 1) := by
                  have hr6 := HROWS2.out.fr hF6' (by simp)
                  have hll := HLB.out.lt
                  have := hr6.push (g7 := g7) (cap := cap) (w7 := w7) hb4' (by omega) (by omega) (fun hx => by have := hox g4' (by simp [hx]); omega) rfl (by rw [List.length_map]; exact ho7) hf7 (by rw [hz6]; exact hat7) (by omega)
                  rw [List.length_map] at this
                  rw [List.map_append]
                  exact this
                have hl7 := (HLOG.out.fr hF6' (by simp)).fr hf7 (fun hm => by have := hox _ hm; omega)
                have hq7 := (HLB.out.fr hF6' (by simp)).fr hf7 (fun hm => by have := hox _ hm; omega)
                have hp7 := (HPB.out.fr hF6 (by simp)).fr hf7 (fun hm => by have := hox _ hm; omega)
                have hx7 := (HRX.out.fr hF6' (by simp)).fr hf7 (fun x hx hY => by have := hox _ hx; have hY' : x < wq.heap.size := hY; omega)
                have hfw7 := (HF2.out.trans hF6' (by simp)).trans hf7 (fun x hx => .inr (by have := hox _ hx; omega))
                have HR7 := Lib.hid hr7; have HL7 := Lib.hid hl7; have HQ7 := Lib.hid hq7; have HP7 := Lib.hid hp7; have HX7 := Lib.hid hx7; have HFW7 := Lib.hid hfw7
                clear hr7 hl7 hq7 hp7 hx7 hfw7 hox hat7 ho7 hf7 hlt7 hF6 hF6' hB6 hz6 hi0 hz0 hz1 hz2 hK hb4' hg4' hl4' p4
                go_upto_region 30 with fail
                refine wp_region_lit ?_
                refine wpList_plain rfl fun K hK => ?_
                refine wp_load_mid 95 (.tmp 21) rfl w4.heap.size 0 rfl (rcells ⟨st, 0, b⟩ (.slice A4 b.length c4)) _ (fun j v hj => by rw [Nat.zero_add]; exact HP7.out.at_ hj) Try.underlying95 rfl (by kernel_rfl) (hK _ _ ?_)
                simp only [Act.put, List.setIfInBounds_toArray, List.set_cons_zero, List.set_cons_succ]
                refine wpList_plain rfl fun K hK => ?_
                refine wp_store_blk 95 (.tmp 20) (.tmp 140) rfl (rcells ⟨st, 0, b⟩ (.slice A4 b.length c4)) rfl rfl HQ7.out (by kernel_rfl) (by show _ = 5; exact HLC.out) (by intro u hu; simp only [rcells, List.mem_cons, List.not_mem_nil, or_false] at hu; rcases hu with rfl | rfl | rfl | rfl | rfl; rfl; rfl; rfl; rfl; rfl) fun w8 hB8 hF8 _ => hK _ _ ?_
                simp only [Act.put]
                refine wpList_nil ?_
                have hr8 := HR7.out.fr hF8 (fun x hx => .inl (by simp at hx; omega))
                have hl8 := HL7.out.fr hF8 (by simp)
                have hx8 := HX7.out.fr hF8 (fun x hx hY => by simp at hx; have hY' : x < wq.heap.size := hY; omega)
                have hfw8 := HFW7.out.trans hF8 (fun x hx => .inr (by simp at hx; omega))
                have hp8 := HP7.out.fr hF8 (by simp; have := HLB.out.lt; omega)
                have HR8 := Lib.hid hr8; have HL8 := Lib.hid hl8; have HX8 := Lib.hid hx8; have HFW8 := Lib.hid hfw8; have HB8 := Lib.hid hB8; have HP8 := Lib.hid hp8
                clear hr8 hl8 hx8 hfw8 hB8 hp8 hF8 hK HR7 HL7 HQ7 HP7 HX7 HFW7
                have l3 := HL8.out.at_ (i := 3) rfl
                have lf := HL8.out.free
                have wadd : IntKind.i64.wrap ((at_ : Int) + (st.count : Int)) = (at_ : Int) + (st.count : Int) := by rw [IntKind.wrap_i64]; omega
                go_upto_region 31 with fail
                refine wp_region_lit ?_
                refine wpList_plain rfl fun K hK => ?_
                refine wp_run_same (v := ?al4_0) ?yl4_0 (hK _ _ ?_)
                case yl4_0 => go_simp <;> with_reducible rfl
                clear hK K
                simp only [Act.put, List.setIfInBounds_toArray, List.set_cons_zero, List.set_cons_succ]
                refine wpList_plain rfl fun K hK => ?_
                refine wp_run_same (v := ?al4_1) ?yl4_1 (hK _ _ ?_)
                case yl4_1 => go_simp <;> with_reducible rfl
                clear hK K
                simp only [Act.put, List.setIfInBounds_toArray, List.set_cons_zero, List.set_cons_succ]
                refine wpList_plain rfl fun K hK => ?_
                refine wp_run_same (v := ?al4_2) ?yl4_2 (hK _ _ ?_)
                case yl4_2 => go_simp <;> with_reducible rfl
                clear hK K
                simp only [Act.put, List.setIfInBounds_toArray, List.set_cons_zero, List.set_cons_succ]
                refine wpList_plain rfl fun K hK => ?_
                refine wp_run_same (v := ?al4_3) ?yl4_3 (hK _ _ ?_)
                case yl4_3 => go_simp <;> with_reducible rfl
                clear hK K
                simp only [Act.put, List.setIfInBounds_toArray, List.set_cons_zero, List.set_cons_succ]
                refine wpList_plain rfl fun K hK => ?_
                refine wp_run_same (v := ?al4_4) ?yl4_4 (hK _ _ ?_)
                case yl4_4 => go_simp <;> with_reducible rfl
                clear hK K
                simp only [Act.put, List.setIfInBounds_toArray, List.set_cons_zero, List.set_cons_succ]
                refine wpList_plain rfl fun K hK => ?_
                refine wp_run_same (v := ?al4_5) ?yl4_5 (hK _ _ ?_)
                case yl4_5 => go_simp <;> with_reducible rfl
                clear hK K
                simp only [Act.put, List.setIfInBounds_toArray, List.set_cons_zero, List.set_cons_succ]
                refine wpList_plain rfl fun K hK => ?_
                refine wp_run_same (v := ?al4_6) ?yl4_6 (hK _ _ ?_)
                case yl4_6 => go_simp <;> with_reducible rfl
                clear hK K
                simp only [Act.put, List.setIfInBounds_toArray, List.set_cons_zero, List.set_cons_succ]
                refine wpList_plain rfl fun K hK => ?_
                refine wp_run_same (v := ?al4_7) ?yl4_7 (hK _ _ ?_)
                case yl4_7 => go_simp <;> with_reducible rfl
                clear hK K
                simp only [Act.put, List.setIfInBounds_toArray, List.set_cons_zero, List.set_cons_succ]
                refine wpList_plain rfl fun K hK => ?_
                refine wp_run_same (v := ?al4_8) ?yl4_8 (hK _ _ ?_)
                case yl4_8 => go_simp <;> with_reducible rfl
                clear hK K
                simp only [Act.put, List.setIfInBounds_toArray, List.set_cons_zero, List.set_cons_succ]
                refine wpList_plain rfl fun K hK => ?_
                refine wp_run_skip (w' := w8.setCell ⟨wq.heap.size, 3, none⟩ (.int .i64 ((at_ : Int) + (st.count : Int)))) (by go_simp) (hK _ _ ?_)
                simp only [Act.put]
                refine wpList_nil ?_
                have hl9 : Blk (w8.setCell ⟨wq.heap.size, 3, none⟩ (.int .i64 ((at_ : Int) + (st.count : Int)))) wq.heap.size 99 (rlog m f k (at_ + st.count) (numAfter num0 (lastOf R)) ses0 false) := by
                  have h := HL8.out.set_ 3 (.int .i64 ((at_ : Int) + (st.count : Int)))
                  rw [show (at_ : Int) + (st.count : Int) = ((at_ + st.count : Nat) : Int) by omega] at h ⊢
                  exact h
                have hf9 : Fr [wq.heap.size] w8 (w8.setCell ⟨wq.heap.size, 3, none⟩ (.int .i64 ((at_ : Int) + (st.count : Int)))) := (Fr.refl _ w8).setCell (.inl (by simp)) _
                clear l3 lf hK wadd
                generalize w8.setCell ⟨wq.heap.size, 3, none⟩ (.int .i64 ((at_ : Int) + (st.count : Int))) = w9 at *
                have l4 := hl9.at_ (i := 4) rfl
                have lf := hl9.free
                have hllt := HL8.out.lt
                have p1 := (HP8.out.fr hf9 (by simp; have := HLOG.out.lt; omega)).at_ (i := 1) rfl
                have HL9 := Lib.hid hl9; have HF9 := Lib.hid hf9
                clear hl9 hf9
                have wadd : IntKind.u32.wrap ((st.number : Int) + 1) = (((st.number + 1) % 4294967296 : Nat) : Int) := by rw [IntKind.wrap_u32]; omega
                go_upto_region 32 with fail
                refine wp_region_lit ?_
                refine wpList_plain rfl fun K hK => ?_
                refine wp_run_same (v := ?al5_0) ?yl5_0 (hK _ _ ?_)
                case yl5_0 => go_simp <;> with_reducible rfl
                clear hK K
                simp only [Act.put, List.setIfInBounds_toArray, List.set_cons_zero, List.set_cons_succ]
                refine wpList_plain rfl fun K hK => ?_
                refine wp_run_same (v := ?al5_1) ?yl5_1 (hK _ _ ?_)
                case yl5_1 => go_simp <;> with_reducible rfl
                clear hK K
                simp only [Act.put, List.setIfInBounds_toArray, List.set_cons_zero, List.set_cons_succ]
                refine wpList_plain rfl fun K hK => ?_
                refine wp_run_same (v := ?al5_2) ?yl5_2 (hK _ _ ?_)
                case yl5_2 => go_simp <;> with_reducible rfl
                clear hK K
                simp only [Act.put, List.setIfInBounds_toArray, List.set_cons_zero, List.set_cons_succ]
                refine wpList_plain rfl fun K hK => ?_
                refine wp_run_same (v := ?al5_3) ?yl5_3 (hK _ _ ?_)
                case yl5_3 => go_simp <;> with_reducible rfl
                clear hK K
                simp only [Act.put, List.setIfInBounds_toArray, List.set_cons_zero, List.set_cons_succ]
                refine wpList_plain rfl fun K hK => ?_
                refine wp_run_same (v := ?al5_4) ?yl5_4 (hK _ _ ?_)
                case yl5_4 => go_simp <;> with_reducible rfl
                clear hK K
                simp only [Act.put, List.setIfInBounds_toArray, List.set_cons_zero, List.set_cons_succ]
                refine wpList_plain rfl fun K hK => ?_
                refine wp_run_same (v := ?al5_5) ?yl5_5 (hK _ _ ?_)
                case yl5_5 => go_simp <;> with_reducible rfl
                clear hK K
                simp only [Act.put, List.setIfInBounds_toArray, List.set_cons_zero, List.set_cons_succ]
                refine wpList_plain rfl fun K hK => ?_
                refine wp_run_skip (w' := w9.setCell ⟨wq.heap.size, 4, none⟩ (.int .u32 (((st.number + 1) % 4294967296 : Nat) : Int))) (by go_simp) (hK _ _ ?_)
                simp only [Act.put]
                refine wpList_nil ?_
                have hfs : RJRel w m f k num0 ses0 wq.heap.size (wq.heap.size + 1) (.slice lA k lc) wq.heap.size (D.part f k) (.slice (some ⟨g7, 0, none⟩) (R.length + 1) cap) (w9.setCell ⟨wq.heap.size, 4, none⟩ (.int .u32 (((st.number + 1) % 4294967296 : Nat) : Int))) := by
                  have hf10 : Fr [wq.heap.size] w8 (w9.setCell ⟨wq.heap.size, 4, none⟩ (.int .u32 (((st.number + 1) % 4294967296 : Nat) : Int))) := HF9.out.setCell (.inl (by simp)) _
                  refine ⟨R ++ [(st, b)], vs ++ [(.slice A4 b.length c4)], kk - 1, at_ + st.count, rcells ⟨st, 0, b⟩ (.slice A4 b.length c4), ls, by simp; omega, by omega, by omega, ?_, by simp [HSUM.out], ?_, HR8.out.fr hf10 (fun x hx => .inl (by simp at hx; omega)), ?_, HB8.out.fr hf10 (by simp), rfl, ?_, HX8.out.fr hf10 (fun x hx hY => by simp at hx; have hY' : x < wq.heap.size := hY; omega), HFW8.out.trans hf10 (fun x hx => .inr (by simp at hx; omega))⟩
                  · have hk1 : kk = (kk - 1) + 1 := by omega
                    rw [HRECS.out, hk1, recs_on HRO.out HST.out, lastOf_snoc, List.drop_drop, ← hk1]
                    simp
                  · intro x hx
                    rcases List.mem_append.1 hx with hx | hx
                    · exact HBD.out x hx
                    · simp at hx; subst hx; exact ⟨q3, q4⟩
                  · rw [lastOf_snoc]; exact HL9.out.set_ 4 _
                  · intro st' h; rw [lastOf_snoc] at h; injection h with h; subst h; exact ⟨rfl, rfl⟩
                have HFS := Lib.hid hfs
                clear hfs hK l4 lf p1 wadd
                generalize w9.setCell ⟨wq.heap.size, 4, none⟩ (.int .u32 (((st.number + 1) % 4294967296 : Nat) : Int)) = w10 at *
                go_wp2
                exact ⟨HFS.out, by simp only [sliceLen]; omega⟩
              · obtain ⟨l, hl⟩ : ∃ l, lastOf R = some l := by
                  unfold lastOf
                  cases hg : R.getLast? with
                  | none => rw [List.getLast?_eq_none_iff] at hg; exact absurd hg hR
                  | some x => exact ⟨x.1, rfl⟩
                have hRp : 0 < R.length := by rcases Nat.eq_zero_or_pos R.length with h | h; exact absurd (List.eq_nil_of_length_eq_zero h) hR; exact h
                have hlb : l.number < 4294967296 ∧ l.session < 4294967296 := by
                  unfold lastOf at hl
                  obtain ⟨x, hx, rfl⟩ := Option.map_eq_some_iff.1 hl
                  have := HBD.out x (List.mem_of_getLast? hx)
                  exact ⟨this.2, this.1⟩
                obtain ⟨lc0, lc1⟩ := HLAST.out l hl
                have hlb4 := HLB.out.fr HF4.out (by simp)
                have o0 := hlb4.at_ lc0
                have o1 := hlb4.at_ lc1
                have hlb4l := hlb4.lt
                have HL := Lib.hid hl
                clear hl hR hlb4 lc0 lc1
                have wadd0 : IntKind.u32.wrap ((l.number : Int) + 1) = (((l.number + 1) % 4294967296 : Nat) : Int) := by rw [IntKind.wrap_u32]; omega
                cases hst : stops (lastOf R) st with
                | true =>
                  have hR0 : recordsOf k none (D.part f k) = R := by rw [HRECS.out, recs_stop HRO.out hst, List.append_nil]
                  have HR0 := Lib.hid hR0; clear hR0
                  rw [HL.out] at hst
                  simp only [stops, decide_eq_true_eq] at hst
                  by_cases hnn : (st.number : Int) = (((l.number + 1) % 4294967296 : Nat) : Int)
                  · have hss : (st.session : Int) < (l.session : Int) := by omega
                    have wadd1 : IntKind.u32.wrap ((l.number : Int) + 1) = (st.number : Int) := by rw [wadd0, hnn]
                    clear hst wadd0 hnn
                    go_wp2
                    go_ret3
                    exact .inr (HEND.out _ HR0.out (HF4.out.alloc _))
                  · clear hst
                    have hnb : ((st.number : Int) != (((l.number + 1) % 4294967296 : Nat) : Int)) = true := by rw [bne_iff_ne]; exact hnn
                    generalize (l.number + 1) % 4294967296 = ln at *
                    go_wp2
                    go_ret3
                    exact .inr (HEND.out _ HR0.out (HF4.out.alloc _))
                | false =>
                  have HST := Lib.hid hst
                  rw [HL.out] at hst
                  simp only [stops, decide_eq_false_iff_not] at hst
                  have hnn : (st.number : Int) = (((l.number + 1) % 4294967296 : Nat) : Int) := by omega
                  have hss : ¬ ((st.session : Int) < (l.session : Int)) := by omega
                  have wadd1 : IntKind.u32.wrap ((l.number : Int) + 1) = (st.number : Int) := by rw [wadd0, hnn]
                  clear hst wadd0 hnn
                  have hwq0 := HF.out.size
                  go_upto_region 29 with fail
                  have hfa : Fr [] wr (w4.alloc (.cells (rcells ⟨st, 0, b⟩ (.slice A4 b.length c4)).toArray 95)) := HF4.out.alloc _
                  have hpB : Blk (w4.alloc (.cells (rcells ⟨st, 0, b⟩ (.slice A4 b.length c4)).toArray 95)) w4.heap.size 95 (rcells ⟨st, 0, b⟩ (.slice A4 b.length c4)) := Blk.new w4 _ _
                  have hb5 : BytesAt (w4.alloc (.cells (rcells ⟨st, 0, b⟩ (.slice A4 b.length c4)).toArray 95)) (.slice A4 b.length c4) b g4 := HB4.out.fr ((Fr.refl [] w4).alloc _) (by simp)
                  have hz5 : (w4.alloc (.cells (rcells ⟨st, 0, b⟩ (.slice A4 b.length c4)).toArray 95)).heap.size = w4.heap.size + 1 := by simp
                  have hz4 := HF4.out.size
                  unfold rcells at hfa hpB hb5 hz5
                  generalize w4.alloc (.cells #[.int .u32 (st.session : Int), .int .u32 (st.number : Int), .int .i64 ((0 : Nat) : Int), .int .i64 (st.count : Int), (.slice A4 b.length c4)] 95) = w5 at *
                  have p4 := hpB.at_ (i := 4) rfl
                  have HFA := Lib.hid hfa; have HPB := Lib.hid hpB; have HB5 := Lib.hid hb5
                  clear hfa hpB hb5 o0 o1
                  obtain ⟨i0, hi0, hz0, hz1, hz2⟩ := info_parts info_bytes
                  refine wp_region_lit ?_
                  refine wpList_plain rfl fun K hK => ?_
                  refine wp_run_same (v := ?al6_0) ?yl6_0 (hK _ _ ?_)
                  case yl6_0 => go_simp <;> with_reducible rfl
                  clear hK K
                  simp only [Act.put, List.setIfInBounds_toArray, List.set_cons_zero, List.set_cons_succ]
                  refine wpList_plain rfl fun K hK => ?_
                  refine wp_run_same (v := ?al6_1) ?yl6_1 (hK _ _ ?_)
                  case yl6_1 => go_simp <;> with_reducible rfl
                  clear hK K
                  simp only [Act.put, List.setIfInBounds_toArray, List.set_cons_zero, List.set_cons_succ]
                  refine wpList_plain rfl fun K hK => ?_
                  refine wp_run_same (v := ?al6_2) ?yl6_2 (hK _ _ ?_)
                  case yl6_2 => go_simp <;> with_reducible rfl
                  clear hK K
                  simp only [Act.put, List.setIfInBounds_toArray, List.set_cons_zero, List.set_cons_succ]
                  refine wpList_plain rfl fun K hK => ?_
                  refine wp_build_cell (.tmp 137) rfl Try.underlying52 hi0 hz0 hz1 rfl (.slice A4 b.length c4) rfl rfl (w4.heap.size + 1) hz5 fun w6 hB6 hF6 hz6 => hK _ _ ?_
                  simp only [Act.put, List.setIfInBounds_toArray, List.set_cons_zero, List.set_cons_succ]
                  refine wpList_plain rfl fun K hK => ?_
                  refine wp_append_fr (.tmp 135) (.tmp 138) rfl 22 1 24 Try.underlying52 hi0 hz0 hz1 hz2 rfl (by omega) (.slice oA R.length oc) R.length vs rfl ?own ⟨w4.heap.size + 1, 0, none⟩ 1 1 [(.slice A4 b.length c4)] rfl rfl ?news ?one (by omega) (by unfold maxLen; omega) (by omega) (w4.heap.size + 2) hz6 fun g7 cap w7 ho7 hf7 hat7 hlt7 => hK _ _ ?_
                  case own => have := (HROWS2.out.fr (HFA.out.trans hF6 (by simp)) (by simp)).own; rw [List.length_map] at this; exact this
                  case one => intro u hu; simp at hu; subst hu; rfl
                  case news => intro j u hu; rw [Addr.add_mid, Nat.zero_add]; exact hB6.at_ hu
                  simp only [Act.put, List.setIfInBounds_toArray, List.set_cons_zero, List.set_cons_succ]
                  refine wpList_plain rfl fun K hK => ?_
                  refine wp_run_same (v := ?al6_5) ?yl6_5 (hK _ _ ?_)
                  case yl6_5 => go_simp <;> with_reducible rfl
                  clear hK K
                  simp only [Act.put, List.setIfInBounds_toArray, List.set_cons_zero, List.set_cons_succ]
                  refine wpList_nil ?_
                  have hF6' : Fr [] wr w6 := HFA.out.trans hF6 (by simp)
                  have hox : ∀ x ∈ (Value.slice oA R.length oc).ownBlock.toList, wq.heap.size + 2 ≤ x ∧ x < wr.heap.size := fun x hx => by
                    have h : (Value.slice oA R.length oc).ownBlock = some x := by simpa using hx
                    exact ⟨HROWS2.out.ge x h, own_lt HROWS2.out.own x h⟩
                  obtain ⟨g4', hb4', hg4', hl4'⟩ := (HB5.out.fr hF6 (by simp)).lt HG4.out (by omega)
                  have hr7 : RowsIn w7 (.slice (some ⟨g7, 0, none⟩) (R.length + 1) cap) ((R ++ [(st, b)]).map (·.2)) (vs ++ [(.slice A4 b.length c4)]) (wq.heap.size + 1 + 1) := by
                    have hr6 := HROWS2.out.fr hF6' (by simp)
                    have hll := HLB.out.lt
                    have := hr6.push (g7 := g7) (cap := cap) (w7 := w7) hb4' (by omega) (by omega) (fun hx => by have := hox g4' (by simp [hx]); omega) rfl (by rw [List.length_map]; exact ho7) hf7 (by rw [hz6]; exact hat7) (by omega)
                    rw [List.length_map] at this
                    rw [List.map_append]
                    exact this
                  have hl7 := (HLOG.out.fr hF6' (by simp)).fr hf7 (fun hm => by have := hox _ hm; omega)
                  have hq7 := (HLB.out.fr hF6' (by simp)).fr hf7 (fun hm => by have := hox _ hm; omega)
                  have hp7 := (HPB.out.fr hF6 (by simp)).fr hf7 (fun hm => by have := hox _ hm; omega)
                  have hx7 := (HRX.out.fr hF6' (by simp)).fr hf7 (fun x hx hY => by have := hox _ hx; have hY' : x < wq.heap.size := hY; omega)
                  have hfw7 := (HF2.out.trans hF6' (by simp)).trans hf7 (fun x hx => .inr (by have := hox _ hx; omega))
                  have HR7 := Lib.hid hr7; have HL7 := Lib.hid hl7; have HQ7 := Lib.hid hq7; have HP7 := Lib.hid hp7; have HX7 := Lib.hid hx7; have HFW7 := Lib.hid hfw7
                  clear hr7 hl7 hq7 hp7 hx7 hfw7 hox hat7 ho7 hf7 hlt7 hF6 hF6' hB6 hz6 hi0 hz0 hz1 hz2 hK hb4' hg4' hl4' p4
                  go_upto_region 30 with fail
                  refine wp_region_lit ?_
                  refine wpList_plain rfl fun K hK => ?_
                  refine wp_load_mid 95 (.tmp 21) rfl w4.heap.size 0 rfl (rcells ⟨st, 0, b⟩ (.slice A4 b.length c4)) _ (fun j v hj => by rw [Nat.zero_add]; exact HP7.out.at_ hj) Try.underlying95 rfl (by kernel_rfl) (hK _ _ ?_)
                  simp only [Act.put, List.setIfInBounds_toArray, List.set_cons_zero, List.set_cons_succ]
                  refine wpList_plain rfl fun K hK => ?_
                  refine wp_store_blk 95 (.tmp 20) (.tmp 140) rfl (rcells ⟨st, 0, b⟩ (.slice A4 b.length c4)) rfl rfl HQ7.out (by kernel_rfl) (by show _ = 5; exact HLC.out) (by intro u hu; simp only [rcells, List.mem_cons, List.not_mem_nil, or_false] at hu; rcases hu with rfl | rfl | rfl | rfl | rfl; rfl; rfl; rfl; rfl; rfl) fun w8 hB8 hF8 _ => hK _ _ ?_
                  simp only [Act.put]
                  refine wpList_nil ?_
                  have hr8 := HR7.out.fr hF8 (fun x hx => .inl (by simp at hx; omega))
                  have hl8 := HL7.out.fr hF8 (by simp)
                  have hx8 := HX7.out.fr hF8 (fun x hx hY => by simp at hx; have hY' : x < wq.heap.size := hY; omega)
                  have hfw8 := HFW7.out.trans hF8 (fun x hx => .inr (by simp at hx; omega))
                  have hp8 := HP7.out.fr hF8 (by simp; have := HLB.out.lt; omega)
                  have HR8 := Lib.hid hr8; have HL8 := Lib.hid hl8; have HX8 := Lib.hid hx8; have HFW8 := Lib.hid hfw8; have HB8 := Lib.hid hB8; have HP8 := Lib.hid hp8
                  clear hr8 hl8 hx8 hfw8 hB8 hp8 hF8 hK HR7 HL7 HQ7 HP7 HX7 HFW7
                  have l3 := HL8.out.at_ (i := 3) rfl
                  have lf := HL8.out.free
                  have wadd : IntKind.i64.wrap ((at_ : Int) + (st.count : Int)) = (at_ : Int) + (st.count : Int) := by rw [IntKind.wrap_i64]; omega
                  go_upto_region 31 with fail
                  refine wp_region_lit ?_
                  refine wpList_plain rfl fun K hK => ?_
                  refine wp_run_same (v := ?al8_0) ?yl8_0 (hK _ _ ?_)
                  case yl8_0 => go_simp <;> with_reducible rfl
                  clear hK K
                  simp only [Act.put, List.setIfInBounds_toArray, List.set_cons_zero, List.set_cons_succ]
                  refine wpList_plain rfl fun K hK => ?_
                  refine wp_run_same (v := ?al8_1) ?yl8_1 (hK _ _ ?_)
                  case yl8_1 => go_simp <;> with_reducible rfl
                  clear hK K
                  simp only [Act.put, List.setIfInBounds_toArray, List.set_cons_zero, List.set_cons_succ]
                  refine wpList_plain rfl fun K hK => ?_
                  refine wp_run_same (v := ?al8_2) ?yl8_2 (hK _ _ ?_)
                  case yl8_2 => go_simp <;> with_reducible rfl
                  clear hK K
                  simp only [Act.put, List.setIfInBounds_toArray, List.set_cons_zero, List.set_cons_succ]
                  refine wpList_plain rfl fun K hK => ?_
                  refine wp_run_same (v := ?al8_3) ?yl8_3 (hK _ _ ?_)
                  case yl8_3 => go_simp <;> with_reducible rfl
                  clear hK K
                  simp only [Act.put, List.setIfInBounds_toArray, List.set_cons_zero, List.set_cons_succ]
                  refine wpList_plain rfl fun K hK => ?_
                  refine wp_run_same (v := ?al8_4) ?yl8_4 (hK _ _ ?_)
                  case yl8_4 => go_simp <;> with_reducible rfl
                  clear hK K
                  simp only [Act.put, List.setIfInBounds_toArray, List.set_cons_zero, List.set_cons_succ]
                  refine wpList_plain rfl fun K hK => ?_
                  refine wp_run_same (v := ?al8_5) ?yl8_5 (hK _ _ ?_)
                  case yl8_5 => go_simp <;> with_reducible rfl
                  clear hK K
                  simp only [Act.put, List.setIfInBounds_toArray, List.set_cons_zero, List.set_cons_succ]
                  refine wpList_plain rfl fun K hK => ?_
                  refine wp_run_same (v := ?al8_6) ?yl8_6 (hK _ _ ?_)
                  case yl8_6 => go_simp <;> with_reducible rfl
                  clear hK K
                  simp only [Act.put, List.setIfInBounds_toArray, List.set_cons_zero, List.set_cons_succ]
                  refine wpList_plain rfl fun K hK => ?_
                  refine wp_run_same (v := ?al8_7) ?yl8_7 (hK _ _ ?_)
                  case yl8_7 => go_simp <;> with_reducible rfl
                  clear hK K
                  simp only [Act.put, List.setIfInBounds_toArray, List.set_cons_zero, List.set_cons_succ]
                  refine wpList_plain rfl fun K hK => ?_
                  refine wp_run_same (v := ?al8_8) ?yl8_8 (hK _ _ ?_)
                  case yl8_8 => go_simp <;> with_reducible rfl
                  clear hK K
                  simp only [Act.put, List.setIfInBounds_toArray, List.set_cons_zero, List.set_cons_succ]
                  refine wpList_plain rfl fun K hK => ?_
                  refine wp_run_skip (w' := w8.setCell ⟨wq.heap.size, 3, none⟩ (.int .i64 ((at_ : Int) + (st.count : Int)))) (by go_simp) (hK _ _ ?_)
                  simp only [Act.put]
                  refine wpList_nil ?_
                  have hl9 : Blk (w8.setCell ⟨wq.heap.size, 3, none⟩ (.int .i64 ((at_ : Int) + (st.count : Int)))) wq.heap.size 99 (rlog m f k (at_ + st.count) (numAfter num0 (lastOf R)) ses0 false) := by
                    have h := HL8.out.set_ 3 (.int .i64 ((at_ : Int) + (st.count : Int)))
                    rw [show (at_ : Int) + (st.count : Int) = ((at_ + st.count : Nat) : Int) by omega] at h ⊢
                    exact h
                  have hf9 : Fr [wq.heap.size] w8 (w8.setCell ⟨wq.heap.size, 3, none⟩ (.int .i64 ((at_ : Int) + (st.count : Int)))) := (Fr.refl _ w8).setCell (.inl (by simp)) _
                  clear l3 lf hK wadd
                  generalize w8.setCell ⟨wq.heap.size, 3, none⟩ (.int .i64 ((at_ : Int) + (st.count : Int))) = w9 at *
                  have l4 := hl9.at_ (i := 4) rfl
                  have lf := hl9.free
                  have hllt := HL8.out.lt
                  have p1 := (HP8.out.fr hf9 (by simp; have := HLOG.out.lt; omega)).at_ (i := 1) rfl
                  have HL9 := Lib.hid hl9; have HF9 := Lib.hid hf9
                  clear hl9 hf9
                  have wadd : IntKind.u32.wrap ((st.number : Int) + 1) = (((st.number + 1) % 4294967296 : Nat) : Int) := by rw [IntKind.wrap_u32]; omega
                  go_upto_region 32 with fail
                  refine wp_region_lit ?_
                  refine wpList_plain rfl fun K hK => ?_
                  refine wp_run_same (v := ?al9_0) ?yl9_0 (hK _ _ ?_)
                  case yl9_0 => go_simp <;> with_reducible rfl
                  clear hK K
                  simp only [Act.put, List.setIfInBounds_toArray, List.set_cons_zero, List.set_cons_succ]
                  refine wpList_plain rfl fun K hK => ?_
                  refine wp_run_same (v := ?al9_1) ?yl9_1 (hK _ _ ?_)
                  case yl9_1 => go_simp <;> with_reducible rfl
                  clear hK K
                  simp only [Act.put, List.setIfInBounds_toArray, List.set_cons_zero, List.set_cons_succ]
                  refine wpList_plain rfl fun K hK => ?_
                  refine wp_run_same (v := ?al9_2) ?yl9_2 (hK _ _ ?_)
                  case yl9_2 => go_simp <;> with_reducible rfl
                  clear hK K
                  simp only [Act.put, List.setIfInBounds_toArray, List.set_cons_zero, List.set_cons_succ]
                  refine wpList_plain rfl fun K hK => ?_
                  refine wp_run_same (v := ?al9_3) ?yl9_3 (hK _ _ ?_)
                  case yl9_3 => go_simp <;> with_reducible rfl
                  clear hK K
                  simp only [Act.put, List.setIfInBounds_toArray, List.set_cons_zero, List.set_cons_succ]
                  refine wpList_plain rfl fun K hK => ?_
                  refine wp_run_same (v := ?al9_4) ?yl9_4 (hK _ _ ?_)
                  case yl9_4 => go_simp <;> with_reducible rfl
                  clear hK K
                  simp only [Act.put, List.setIfInBounds_toArray, List.set_cons_zero, List.set_cons_succ]
                  refine wpList_plain rfl fun K hK => ?_
                  refine wp_run_same (v := ?al9_5) ?yl9_5 (hK _ _ ?_)
                  case yl9_5 => go_simp <;> with_reducible rfl
                  clear hK K
                  simp only [Act.put, List.setIfInBounds_toArray, List.set_cons_zero, List.set_cons_succ]
                  refine wpList_plain rfl fun K hK => ?_
                  refine wp_run_skip (w' := w9.setCell ⟨wq.heap.size, 4, none⟩ (.int .u32 (((st.number + 1) % 4294967296 : Nat) : Int))) (by go_simp) (hK _ _ ?_)
                  simp only [Act.put]
                  refine wpList_nil ?_
                  have hfs : RJRel w m f k num0 ses0 wq.heap.size (wq.heap.size + 1) (.slice lA k lc) wq.heap.size (D.part f k) (.slice (some ⟨g7, 0, none⟩) (R.length + 1) cap) (w9.setCell ⟨wq.heap.size, 4, none⟩ (.int .u32 (((st.number + 1) % 4294967296 : Nat) : Int))) := by
                    have hf10 : Fr [wq.heap.size] w8 (w9.setCell ⟨wq.heap.size, 4, none⟩ (.int .u32 (((st.number + 1) % 4294967296 : Nat) : Int))) := HF9.out.setCell (.inl (by simp)) _
                    refine ⟨R ++ [(st, b)], vs ++ [(.slice A4 b.length c4)], kk - 1, at_ + st.count, rcells ⟨st, 0, b⟩ (.slice A4 b.length c4), ls, by simp; omega, by omega, by omega, ?_, by simp [HSUM.out], ?_, HR8.out.fr hf10 (fun x hx => .inl (by simp at hx; omega)), ?_, HB8.out.fr hf10 (by simp), rfl, ?_, HX8.out.fr hf10 (fun x hx hY => by simp at hx; have hY' : x < wq.heap.size := hY; omega), HFW8.out.trans hf10 (fun x hx => .inr (by simp at hx; omega))⟩
                    · have hk1 : kk = (kk - 1) + 1 := by omega
                      rw [HRECS.out, hk1, recs_on HRO.out HST.out, lastOf_snoc, List.drop_drop, ← hk1]
                      simp
                    · intro x hx
                      rcases List.mem_append.1 hx with hx | hx
                      · exact HBD.out x hx
                      · simp at hx; subst hx; exact ⟨q3, q4⟩
                    · rw [lastOf_snoc]; exact HL9.out.set_ 4 _
                    · intro st' h; rw [lastOf_snoc] at h; injection h with h; subst h; exact ⟨rfl, rfl⟩
                  have HFS := Lib.hid hfs
                  clear hfs hK l4 lf p1 wadd
                  generalize w9.setCell ⟨wq.heap.size, 4, none⟩ (.int .u32 (((st.number + 1) % 4294967296 : Nat) : Int)) = w10 at *
                  go_wp2
                  exact ⟨HFS.out, by simp only [sliceLen]; omega⟩
        · skip
          go_wp2_with fail
          go_loopw [19] (RJRel w m f k num0 ses0 wq.heap.size (wq.heap.size + 1) (.slice lA k lc) wq.heap.size (D.part f k)) (fun out _ => k + 1 - sliceLen out)
          case atStart =>
            have hfa : Fr [] wq (wq.alloc (.cells #[.pointer (some ⟨m, 0, none⟩), .int .i64 (f : Int), .int .i64 (k : Int), .int .i64 0, .int .u32 (num0 : Int), .int .u32 (ses0 : Int), .bool false] 99)) := (Fr.refl [] wq).alloc _
            have hrx : RowsX wq (.slice lA k lc) (D.part f k) vs (fun x => x < wq.heap.size) := by
              have h := HROWS.out
              have hl := HLN.out
              have ho := h.own
              have hol := own_lt h.own
              simp only [hl] at ho hol
              refine ⟨by rw [hl]; exact ho, h.len, fun x hx => hol x hx, fun j u bs h1 h2 => ?_, h.one⟩
              obtain ⟨g, h3, h4, h5, h6⟩ := h.row j u bs h1 h2
              rw [hl] at h6
              exact ⟨g, h3, h5, h6⟩
            refine ⟨[], [], k, 0, rnone, vs, Nat.zero_le _, Nat.zero_le _, by omega, rfl, rfl, by simp, RowsIn.nil _ _, (Blk.new wq _ (rlog m f k 0 num0 ses0 false)).alloc _, ?_, rfl, by intro st h; simp [lastOf] at h, (hrx.fr hfa (by simp)).fr ((Fr.refl [] _).alloc _) (by simp), (HF.out.trans hfa (by simp)).alloc _⟩
            have h := Blk.new (wq.alloc (.cells #[.pointer (some ⟨m, 0, none⟩), .int .i64 (f : Int), .int .i64 (k : Int), .int .i64 0, .int .u32 (num0 : Int), .int .u32 (ses0 : Int), .bool false] 99)) 95 rnone
            rw [show (wq.alloc (.cells #[.pointer (some ⟨m, 0, none⟩), .int .i64 (f : Int), .int .i64 (k : Int), .int .i64 0, .int .u32 (num0 : Int), .int .u32 (ses0 : Int), .bool false] 99)).heap.size = wq.heap.size + 1 by simp] at h
            exact h
          case round =>
            obtain ⟨R, vs, kk, at_, lcs, ls, hRa, han, hnk, hrecs, hsum, hbd2, hrows2, hlog, hlb, hlc5, hlast, hrx, hf2⟩ := hrel
            obtain ⟨oA, oc, rfl, hoc, _⟩ := own_shape hrows2.own
            rw [List.length_map] at *
            have m3 := hlog.at_ (i := 3) rfl
            have hB : ∀ x, x < wq.heap.size → x < wr.heap.size := fun x hx => by have := hlog.lt; omega
            have hrd := (hrx.in_ hB).rd
            have HRD := Lib.hid hrd; have HRECS := Lib.hid hrecs; have HSUM := Lib.hid hsum; have HBD := Lib.hid hbd2; have HROWS2 := Lib.hid hrows2; have HLOG := Lib.hid hlog; have HLB := Lib.hid hlb; have HLC := Lib.hid hlc5; have HLAST := Lib.hid hlast; have HRX := Lib.hid hrx; have HF2 := Lib.hid hf2
            clear hrd hB hrecs hsum hbd2 hrows2 hlog hlb hlc5 hlast hrx hf2
            have hnone : recordOf ((D.part f k).drop at_) = none → recordsOf k none (D.part f k) = R := fun h => by rw [HRECS.out, recs_none h, List.append_nil]
            have HNONE := Lib.hid hnone; clear hnone
            have hend : ∀ w5, recordsOf k none (D.part f k) = R → Fr [] wr w5 → (newestOf (D.part f k)).1 < 4294967295 ∧ ∃ lg out, Ending.returned (.tuple #[.pointer (some ⟨wq.heap.size, 0, none⟩), .slice oA R.length oc, .int .i64 0]) = .returned (.tuple #[.pointer (some ⟨lg, 0, none⟩), out, .int .i64 0]) ∧ w.heap.size ≤ lg ∧
                RowsAt w5 out ((openR D f k).map (·.2)) (lg + 1) ∧ Blk w5 lg 99 (rlog m f k (openL D f k).at_ (openL D f k).num (openL D f k).ses false) ∧ Fr [] w w5 := by
              intro w5 hR hf5
              refine ⟨by rw [HNW.out]; exact HLT.out, wq.heap.size, _, rfl, HF.out.size, ?_, ?_, HF2.out.trans hf5 (by simp)⟩
              · show RowsAt w5 _ ((recordsOf k none (D.part f k)).map (·.2)) _
                rw [hR]
                exact ⟨vs, (HROWS2.out.fr hf5 (by simp)).mono (by omega)⟩
              · have e1 : (openL D f k).at_ = at_ := by show ((recordsOf k none (D.part f k)).map (·.1.count)).sum = _; rw [hR]; exact HSUM.out.symm
                have e2 : (openL D f k).num = numAfter num0 (lastOf R) := by show numAfter (((newestOf (D.part f k)).2 + 1) % 4294967296) (lastOf (recordsOf k none (D.part f k))) = _; rw [hR, HNW.out, HN0.out]
                have e3 : (openL D f k).ses = ses0 := by show (newestOf (D.part f k)).1 + 1 = _; rw [HNW.out, HS0.out]
                rw [e1, e2, e3]
                exact HLOG.out.fr hf5 (by simp)
            have HEND := Lib.hid hend; clear hend
            go_wp2_with fail
            refine (whole_any (k0 := at_) HRD.out H64.out (by rw [HLN.out]; exact han) (by rw [HLN.out]; omega)).mono ?_
            intro e w4 hans
            unfold WholeAns at hans
            cases hro : recordOf ((D.part f k).drop at_) with
            | none =>
              rw [hro] at hans
              obtain ⟨rfl, hf4⟩ := hans
              have hR0 := HNONE.out hro
              have HR0 := Lib.hid hR0; have HF4 := Lib.hid hf4
              clear hR0 hf4 hro
              simp only [rnone]
              go_wp2
              go_ret3
              exact .inr (HEND.out _ HR0.out (HF4.out.alloc _))
            | some x =>
              obtain ⟨st, b⟩ := x
              rw [hro] at hans
              obtain ⟨v4, g4, rfl, hb4, hg4, hf4⟩ := hans
              obtain ⟨q1, q2, q3, q4, q5⟩ := recordOf_bd hro
              rw [List.length_drop, HLN.out] at q2
              have HRO := Lib.hid hro; have HB4 := Lib.hid hb4; have HG4 := Lib.hid hg4; have HF4 := Lib.hid hf4
              obtain ⟨A4, c4, off4, rfl, _, _⟩ := id hb4
              clear hro hb4 hg4 hf4
              have hcz : ((st.count : Int) == 0) = false := by rw [beq_eq_false_iff_ne]; omega
              simp only [rcells]
              by_cases hR : R = []
              · have hRn : ¬ (0 < R.length) := by rw [hR]; simp
                have hst : stops (lastOf R) st = false := by rw [hR]; rfl
                have HST := Lib.hid hst
                have o0 : True := trivial
                have o1 : True := trivial
                clear hR hst
                have hwq0 := HF.out.size
                go_upto_region 29 with fail
                have hfa : Fr [] wr (w4.alloc (.cells (rcells ⟨st, 0, b⟩ (.slice A4 b.length c4)).toArray 95)) := HF4.out.alloc _
                have hpB : Blk (w4.alloc (.cells (rcells ⟨st, 0, b⟩ (.slice A4 b.length c4)).toArray 95)) w4.heap.size 95 (rcells ⟨st, 0, b⟩ (.slice A4 b.length c4)) := Blk.new w4 _ _
                have hb5 : BytesAt (w4.alloc (.cells (rcells ⟨st, 0, b⟩ (.slice A4 b.length c4)).toArray 95)) (.slice A4 b.length c4) b g4 := HB4.out.fr ((Fr.refl [] w4).alloc _) (by simp)
                have hz5 : (w4.alloc (.cells (rcells ⟨st, 0, b⟩ (.slice A4 b.length c4)).toArray 95)).heap.size = w4.heap.size + 1 := by simp
                have hz4 := HF4.out.size
                unfold rcells at hfa hpB hb5 hz5
                generalize w4.alloc (.cells #[.int .u32 (st.session : Int), .int .u32 (st.number : Int), .int .i64 ((0 : Nat) : Int), .int .i64 (st.count : Int), (.slice A4 b.length c4)] 95) = w5 at *
                have p4 := hpB.at_ (i := 4) rfl
                have HFA := Lib.hid hfa; have HPB := Lib.hid hpB; have HB5 := Lib.hid hb5
                clear hfa hpB hb5 o0 o1
                obtain ⟨i0, hi0, hz0, hz1, hz2⟩ := info_parts info_bytes
                refine wp_region_lit ?_
                refine wpList_plain rfl fun K hK => ?_
                refine wp_run_same (v := ?al10_0) ?yl10_0 (hK _ _ ?_)
                case yl10_0 => go_simp <;> with_reducible rfl
                clear hK K
                simp only [Act.put, List.setIfInBounds_toArray, List.set_cons_zero, List.set_cons_succ]
                refine wpList_plain rfl fun K hK => ?_
                refine wp_run_same (v := ?al10_1) ?yl10_1 (hK _ _ ?_)
                case yl10_1 => go_simp <;> with_reducible rfl
                clear hK K
                simp only [Act.put, List.setIfInBounds_toArray, List.set_cons_zero, List.set_cons_succ]
                refine wpList_plain rfl fun K hK => ?_
                refine wp_run_same (v := ?al10_2) ?yl10_2 (hK _ _ ?_)
                case yl10_2 => go_simp <;> with_reducible rfl
                clear hK K
                simp only [Act.put, List.setIfInBounds_toArray, List.set_cons_zero, List.set_cons_succ]
                refine wpList_plain rfl fun K hK => ?_
                refine wp_build_cell (.tmp 137) rfl Try.underlying52 hi0 hz0 hz1 rfl (.slice A4 b.length c4) rfl rfl (w4.heap.size + 1) hz5 fun w6 hB6 hF6 hz6 => hK _ _ ?_
                simp only [Act.put, List.setIfInBounds_toArray, List.set_cons_zero, List.set_cons_succ]
                refine wpList_plain rfl fun K hK => ?_
                refine wp_append_fr (.tmp 135) (.tmp 138) rfl 22 1 24 Try.underlying52 hi0 hz0 hz1 hz2 rfl (by omega) (.slice oA R.length oc) R.length vs rfl ?own ⟨w4.heap.size + 1, 0, none⟩ 1 1 [(.slice A4 b.length c4)] rfl rfl ?news ?one (by omega) (by unfold maxLen; omega) (by omega) (w4.heap.size + 2) hz6 fun g7 cap w7 ho7 hf7 hat7 hlt7 => hK _ _ ?_
                case own => have := (HROWS2.out.fr (HFA.out.trans hF6 (by simp)) (by simp)).own; rw [List.length_map] at this; exact this
                case one => intro u hu; simp at hu; subst hu; rfl
                case news => intro j u hu; rw [Addr.add_mid, Nat.zero_add]; exact hB6.at_ hu
                simp only [Act.put, List.setIfInBounds_toArray, List.set_cons_zero, List.set_cons_succ]
                refine wpList_plain rfl fun K hK => ?_
                refine wp_run_same (v := ?al10_5) ?yl10_5 (hK _ _ ?_)
                case yl10_5 => go_simp <;> with_reducible rfl
                clear hK K
                simp only [Act.put, List.setIfInBounds_toArray, List.set_cons_zero, List.set_cons_succ]
                refine wpList_nil ?_
                have hF6' : Fr [] wr w6 := HFA.out.trans hF6 (by simp)
                have hox : ∀ x ∈ (Value.slice oA R.length oc).ownBlock.toList, wq.heap.size + 2 ≤ x ∧ x < wr.heap.size := fun x hx => by
                  have h : (Value.slice oA R.length oc).ownBlock = some x := by simpa using hx
                  exact ⟨HROWS2.out.ge x h, own_lt HROWS2.out.own x h⟩
                obtain ⟨g4', hb4', hg4', hl4'⟩ := (HB5.out.fr hF6 (by simp)).lt HG4.out (by omega)
                have hr7 : RowsIn w7 (.slice (some ⟨g7, 0, none⟩) (R.length + 1) cap) ((R ++ [(st, b)]).map (·.2)) (vs ++ [(.slice A4 b.length c4)]) (wq.heap.size + 1 + 1) := by
                  have hr6 := HROWS2.out.fr hF6' (by simp)
                  have hll := HLB.out.lt
                  have := hr6.push (g7 := g7) (cap := cap) (w7 := w7) hb4' (by omega) (by omega) (fun hx => by have := hox g4' (by simp [hx]); omega) rfl (by rw [List.length_map]; exact ho7) hf7 (by rw [hz6]; exact hat7) (by omega)
                  rw [List.length_map] at this
                  rw [List.map_append]
                  exact this
                have hl7 := (HLOG.out.fr hF6' (by simp)).fr hf7 (fun hm => by have := hox _ hm; omega)
                have hq7 := (HLB.out.fr hF6' (by simp)).fr hf7 (fun hm => by have := hox _ hm; omega)
                have hp7 := (HPB.out.fr hF6 (by simp)).fr hf7 (fun hm => by have := hox _ hm; omega)
                have hx7 := (HRX.out.fr hF6' (by simp)).fr hf7 (fun x hx hY => by have := hox _ hx; have hY' : x < wq.heap.size := hY; omega)
                have hfw7 := (HF2.out.trans hF6' (by simp)).trans hf7 (fun x hx => .inr (by have := hox _ hx; omega))
                have HR7 := Lib.hid hr7; have HL7 := Lib.hid hl7; have HQ7 := Lib.hid hq7; have HP7 := Lib.hid hp7; have HX7 := Lib.hid hx7; have HFW7 := Lib.hid hfw7
                clear hr7 hl7 hq7 hp7 hx7 hfw7 hox hat7 ho7 hf7 hlt7 hF6 hF6' hB6 hz6 hi0 hz0 hz1 hz2 hK hb4' hg4' hl4' p4
                go_upto_region 30 with fail
                refine wp_region_lit ?_
                refine wpList_plain rfl fun K hK => ?_
                refine wp_load_mid 95 (.tmp 21) rfl w4.heap.size 0 rfl (rcells ⟨st, 0, b⟩ (.slice A4 b.length c4)) _ (fun j v hj => by rw [Nat.zero_add]; exact HP7.out.at_ hj) Try.underlying95 rfl (by kernel_rfl) (hK _ _ ?_)
                simp only [Act.put, List.setIfInBounds_toArray, List.set_cons_zero, List.set_cons_succ]
                refine wpList_plain rfl fun K hK => ?_
                refine wp_store_blk 95 (.tmp 20) (.tmp 140) rfl (rcells ⟨st, 0, b⟩ (.slice A4 b.length c4)) rfl rfl HQ7.out (by kernel_rfl) (by show _ = 5; exact HLC.out) (by intro u hu; simp only [rcells, List.mem_cons, List.not_mem_nil, or_false] at hu; rcases hu with rfl | rfl | rfl | rfl | rfl; rfl; rfl; rfl; rfl; rfl) fun w8 hB8 hF8 _ => hK _ _ ?_
                simp only [Act.put]
                refine wpList_nil ?_
                have hr8 := HR7.out.fr hF8 (fun x hx => .inl (by simp at hx; omega))
                have hl8 := HL7.out.fr hF8 (by simp)
                have hx8 := HX7.out.fr hF8 (fun x hx hY => by simp at hx; have hY' : x < wq.heap.size := hY; omega)
                have hfw8 := HFW7.out.trans hF8 (fun x hx => .inr (by simp at hx; omega))
                have hp8 := HP7.out.fr hF8 (by simp; have := HLB.out.lt; omega)
                have HR8 := Lib.hid hr8; have HL8 := Lib.hid hl8; have HX8 := Lib.hid hx8; have HFW8 := Lib.hid hfw8; have HB8 := Lib.hid hB8; have HP8 := Lib.hid hp8
                clear hr8 hl8 hx8 hfw8 hB8 hp8 hF8 hK HR7 HL7 HQ7 HP7 HX7 HFW7
                have l3 := HL8.out.at_ (i := 3) rfl
                have lf := HL8.out.free
                have wadd : IntKind.i64.wrap ((at_ : Int) + (st.count : Int)) = (at_ : Int) + (st.count : Int) := by rw [IntKind.wrap_i64]; omega
                go_upto_region 31 with fail
                refine wp_region_lit ?_
                refine wpList_plain rfl fun K hK => ?_
                refine wp_run_same (v := ?al12_0) ?yl12_0 (hK _ _ ?_)
                case yl12_0 => go_simp <;> with_reducible rfl
                clear hK K
                simp only [Act.put, List.setIfInBounds_toArray, List.set_cons_zero, List.set_cons_succ]
                refine wpList_plain rfl fun K hK => ?_
                refine wp_run_same (v := ?al12_1) ?yl12_1 (hK _ _ ?_)
                case yl12_1 => go_simp <;> with_reducible rfl
                clear hK K
                simp only [Act.put, List.setIfInBounds_toArray, List.set_cons_zero, List.set_cons_succ]
                refine wpList_plain rfl fun K hK => ?_
                refine wp_run_same (v := ?al12_2) ?yl12_2 (hK _ _ ?_)
                case yl12_2 => go_simp <;> with_reducible rfl
                clear hK K
                simp only [Act.put, List.setIfInBounds_toArray, List.set_cons_zero, List.set_cons_succ]
                refine wpList_plain rfl fun K hK => ?_
                refine wp_run_same (v := ?al12_3) ?yl12_3 (hK _ _ ?_)
                case yl12_3 => go_simp <;> with_reducible rfl
                clear hK K
                simp only [Act.put, List.setIfInBounds_toArray, List.set_cons_zero, List.set_cons_succ]
                refine wpList_plain rfl fun K hK => ?_
                refine wp_run_same (v := ?al12_4) ?yl12_4 (hK _ _ ?_)
                case yl12_4 => go_simp <;> with_reducible rfl
                clear hK K
                simp only [Act.put, List.setIfInBounds_toArray, List.set_cons_zero, List.set_cons_succ]
                refine wpList_plain rfl fun K hK => ?_
                refine wp_run_same (v := ?al12_5) ?yl12_5 (hK _ _ ?_)
                case yl12_5 => go_simp <;> with_reducible rfl
                clear hK K
                simp only [Act.put, List.setIfInBounds_toArray, List.set_cons_zero, List.set_cons_succ]
                refine wpList_plain rfl fun K hK => ?_
                refine wp_run_same (v := ?al12_6) ?yl12_6 (hK _ _ ?_)
                case yl12_6 => go_simp <;> with_reducible rfl
                clear hK K
                simp only [Act.put, List.setIfInBounds_toArray, List.set_cons_zero, List.set_cons_succ]
                refine wpList_plain rfl fun K hK => ?_
                refine wp_run_same (v := ?al12_7) ?yl12_7 (hK _ _ ?_)
                case yl12_7 => go_simp <;> with_reducible rfl
                clear hK K
                simp only [Act.put, List.setIfInBounds_toArray, List.set_cons_zero, List.set_cons_succ]
                refine wpList_plain rfl fun K hK => ?_
                refine wp_run_same (v := ?al12_8) ?yl12_8 (hK _ _ ?_)
                case yl12_8 => go_simp <;> with_reducible rfl
                clear hK K
                simp only [Act.put, List.setIfInBounds_toArray, List.set_cons_zero, List.set_cons_succ]
                refine wpList_plain rfl fun K hK => ?_
                refine wp_run_skip (w' := w8.setCell ⟨wq.heap.size, 3, none⟩ (.int .i64 ((at_ : Int) + (st.count : Int)))) (by go_simp) (hK _ _ ?_)
                simp only [Act.put]
                refine wpList_nil ?_
                have hl9 : Blk (w8.setCell ⟨wq.heap.size, 3, none⟩ (.int .i64 ((at_ : Int) + (st.count : Int)))) wq.heap.size 99 (rlog m f k (at_ + st.count) (numAfter num0 (lastOf R)) ses0 false) := by
                  have h := HL8.out.set_ 3 (.int .i64 ((at_ : Int) + (st.count : Int)))
                  rw [show (at_ : Int) + (st.count : Int) = ((at_ + st.count : Nat) : Int) by omega] at h ⊢
                  exact h
                have hf9 : Fr [wq.heap.size] w8 (w8.setCell ⟨wq.heap.size, 3, none⟩ (.int .i64 ((at_ : Int) + (st.count : Int)))) := (Fr.refl _ w8).setCell (.inl (by simp)) _
                clear l3 lf hK wadd
                generalize w8.setCell ⟨wq.heap.size, 3, none⟩ (.int .i64 ((at_ : Int) + (st.count : Int))) = w9 at *
                have l4 := hl9.at_ (i := 4) rfl
                have lf := hl9.free
                have hllt := HL8.out.lt
                have p1 := (HP8.out.fr hf9 (by simp; have := HLOG.out.lt; omega)).at_ (i := 1) rfl
                have HL9 := Lib.hid hl9; have HF9 := Lib.hid hf9
                clear hl9 hf9
                have wadd : IntKind.u32.wrap ((st.number : Int) + 1) = (((st.number + 1) % 4294967296 : Nat) : Int) := by rw [IntKind.wrap_u32]; omega
                go_upto_region 32 with fail
                refine wp_region_lit ?_
                refine wpList_plain rfl fun K hK => ?_
                refine wp_run_same (v := ?al13_0) ?yl13_0 (hK _ _ ?_)
                case yl13_0 => go_simp <;> with_reducible rfl
                clear hK K
                simp only [Act.put, List.setIfInBounds_toArray, List.set_cons_zero, List.set_cons_succ]
                refine wpList_plain rfl fun K hK => ?_
                refine wp_run_same (v := ?al13_1) ?yl13_1 (hK _ _ ?_)
                case yl13_1 => go_simp <;> with_reducible rfl
                clear hK K
                simp only [Act.put, List.setIfInBounds_toArray, List.set_cons_zero, List.set_cons_succ]
                refine wpList_plain rfl fun K hK => ?_
                refine wp_run_same (v := ?al13_2) ?yl13_2 (hK _ _ ?_)
                case yl13_2 => go_simp <;> with_reducible rfl
                clear hK K
                simp only [Act.put, List.setIfInBounds_toArray, List.set_cons_zero, List.set_cons_succ]
                refine wpList_plain rfl fun K hK => ?_
                refine wp_run_same (v := ?al13_3) ?yl13_3 (hK _ _ ?_)
                case yl13_3 => go_simp <;> with_reducible rfl
                clear hK K
                simp only [Act.put, List.setIfInBounds_toArray, List.set_cons_zero, List.set_cons_succ]
                refine wpList_plain rfl fun K hK => ?_
                refine wp_run_same (v := ?al13_4) ?yl13_4 (hK _ _ ?_)
                case yl13_4 => go_simp <;> with_reducible rfl
                clear hK K
                simp only [Act.put, List.setIfInBounds_toArray, List.set_cons_zero, List.set_cons_succ]
                refine wpList_plain rfl fun K hK => ?_
                refine wp_run_same (v := ?al13_5) ?yl13_5 (hK _ _ ?_)
                case yl13_5 => go_simp <;> with_reducible rfl
                clear hK K
                simp only [Act.put, List.setIfInBounds_toArray, List.set_cons_zero, List.set_cons_succ]
                refine wpList_plain rfl fun K hK => ?_
                refine wp_run_skip (w' := w9.setCell ⟨wq.heap.size, 4, none⟩ (.int .u32 (((st.number + 1) % 4294967296 : Nat) : Int))) (by go_simp) (hK _ _ ?_)
                simp only [Act.put]
                refine wpList_nil ?_
                have hfs : RJRel w m f k num0 ses0 wq.heap.size (wq.heap.size + 1) (.slice lA k lc) wq.heap.size (D.part f k) (.slice (some ⟨g7, 0, none⟩) (R.length + 1) cap) (w9.setCell ⟨wq.heap.size, 4, none⟩ (.int .u32 (((st.number + 1) % 4294967296 : Nat) : Int))) := by
                  have hf10 : Fr [wq.heap.size] w8 (w9.setCell ⟨wq.heap.size, 4, none⟩ (.int .u32 (((st.number + 1) % 4294967296 : Nat) : Int))) := HF9.out.setCell (.inl (by simp)) _
                  refine ⟨R ++ [(st, b)], vs ++ [(.slice A4 b.length c4)], kk - 1, at_ + st.count, rcells ⟨st, 0, b⟩ (.slice A4 b.length c4), ls, by simp; omega, by omega, by omega, ?_, by simp [HSUM.out], ?_, HR8.out.fr hf10 (fun x hx => .inl (by simp at hx; omega)), ?_, HB8.out.fr hf10 (by simp), rfl, ?_, HX8.out.fr hf10 (fun x hx hY => by simp at hx; have hY' : x < wq.heap.size := hY; omega), HFW8.out.trans hf10 (fun x hx => .inr (by simp at hx; omega))⟩
                  · have hk1 : kk = (kk - 1) + 1 := by omega
                    rw [HRECS.out, hk1, recs_on HRO.out HST.out, lastOf_snoc, List.drop_drop, ← hk1]
                    simp
                  · intro x hx
                    rcases List.mem_append.1 hx with hx | hx
                    · exact HBD.out x hx
                    · simp at hx; subst hx; exact ⟨q3, q4⟩
                  · rw [lastOf_snoc]; exact HL9.out.set_ 4 _
                  · intro st' h; rw [lastOf_snoc] at h; injection h with h; subst h; exact ⟨rfl, rfl⟩
                have HFS := Lib.hid hfs
                clear hfs hK l4 lf p1 wadd
                generalize w9.setCell ⟨wq.heap.size, 4, none⟩ (.int .u32 (((st.number + 1) % 4294967296 : Nat) : Int)) = w10 at *
                go_wp2
                exact ⟨HFS.out, by simp only [sliceLen]; omega⟩
              · obtain ⟨l, hl⟩ : ∃ l, lastOf R = some l := by
                  unfold lastOf
                  cases hg : R.getLast? with
                  | none => rw [List.getLast?_eq_none_iff] at hg; exact absurd hg hR
                  | some x => exact ⟨x.1, rfl⟩
                have hRp : 0 < R.length := by rcases Nat.eq_zero_or_pos R.length with h | h; exact absurd (List.eq_nil_of_length_eq_zero h) hR; exact h
                have hlb : l.number < 4294967296 ∧ l.session < 4294967296 := by
                  unfold lastOf at hl
                  obtain ⟨x, hx, rfl⟩ := Option.map_eq_some_iff.1 hl
                  have := HBD.out x (List.mem_of_getLast? hx)
                  exact ⟨this.2, this.1⟩
                obtain ⟨lc0, lc1⟩ := HLAST.out l hl
                have hlb4 := HLB.out.fr HF4.out (by simp)
                have o0 := hlb4.at_ lc0
                have o1 := hlb4.at_ lc1
                have hlb4l := hlb4.lt
                have HL := Lib.hid hl
                clear hl hR hlb4 lc0 lc1
                have wadd0 : IntKind.u32.wrap ((l.number : Int) + 1) = (((l.number + 1) % 4294967296 : Nat) : Int) := by rw [IntKind.wrap_u32]; omega
                cases hst : stops (lastOf R) st with
                | true =>
                  have hR0 : recordsOf k none (D.part f k) = R := by rw [HRECS.out, recs_stop HRO.out hst, List.append_nil]
                  have HR0 := Lib.hid hR0; clear hR0
                  rw [HL.out] at hst
                  simp only [stops, decide_eq_true_eq] at hst
                  by_cases hnn : (st.number : Int) = (((l.number + 1) % 4294967296 : Nat) : Int)
                  · have hss : (st.session : Int) < (l.session : Int) := by omega
                    have wadd1 : IntKind.u32.wrap ((l.number : Int) + 1) = (st.number : Int) := by rw [wadd0, hnn]
                    clear hst wadd0 hnn
                    go_wp2
                    go_ret3
                    exact .inr (HEND.out _ HR0.out (HF4.out.alloc _))
                  · clear hst
                    have hnb : ((st.number : Int) != (((l.number + 1) % 4294967296 : Nat) : Int)) = true := by rw [bne_iff_ne]; exact hnn
                    generalize (l.number + 1) % 4294967296 = ln at *
                    go_wp2
                    go_ret3
                    exact .inr (HEND.out _ HR0.out (HF4.out.alloc _))
                | false =>
                  have HST := Lib.hid hst
                  rw [HL.out] at hst
                  simp only [stops, decide_eq_false_iff_not] at hst
                  have hnn : (st.number : Int) = (((l.number + 1) % 4294967296 : Nat) : Int) := by omega
                  have hss : ¬ ((st.session : Int) < (l.session : Int)) := by omega
                  have wadd1 : IntKind.u32.wrap ((l.number : Int) + 1) = (st.number : Int) := by rw [wadd0, hnn]
                  clear hst wadd0 hnn
                  have hwq0 := HF.out.size
                  go_upto_region 29 with fail
                  have hfa : Fr [] wr (w4.alloc (.cells (rcells ⟨st, 0, b⟩ (.slice A4 b.length c4)).toArray 95)) := HF4.out.alloc _
                  have hpB : Blk (w4.alloc (.cells (rcells ⟨st, 0, b⟩ (.slice A4 b.length c4)).toArray 95)) w4.heap.size 95 (rcells ⟨st, 0, b⟩ (.slice A4 b.length c4)) := Blk.new w4 _ _
                  have hb5 : BytesAt (w4.alloc (.cells (rcells ⟨st, 0, b⟩ (.slice A4 b.length c4)).toArray 95)) (.slice A4 b.length c4) b g4 := HB4.out.fr ((Fr.refl [] w4).alloc _) (by simp)
                  have hz5 : (w4.alloc (.cells (rcells ⟨st, 0, b⟩ (.slice A4 b.length c4)).toArray 95)).heap.size = w4.heap.size + 1 := by simp
                  have hz4 := HF4.out.size
                  unfold rcells at hfa hpB hb5 hz5
                  generalize w4.alloc (.cells #[.int .u32 (st.session : Int), .int .u32 (st.number : Int), .int .i64 ((0 : Nat) : Int), .int .i64 (st.count : Int), (.slice A4 b.length c4)] 95) = w5 at *
                  have p4 := hpB.at_ (i := 4) rfl
                  have HFA := Lib.hid hfa; have HPB := Lib.hid hpB; have HB5 := Lib.hid hb5
                  clear hfa hpB hb5 o0 o1
                  obtain ⟨i0, hi0, hz0, hz1, hz2⟩ := info_parts info_bytes
                  refine wp_region_lit ?_
                  refine wpList_plain rfl fun K hK => ?_
                  refine wp_run_same (v := ?al14_0) ?yl14_0 (hK _ _ ?_)
                  case yl14_0 => go_simp <;> with_reducible rfl
                  clear hK K
                  simp only [Act.put, List.setIfInBounds_toArray, List.set_cons_zero, List.set_cons_succ]
                  refine wpList_plain rfl fun K hK => ?_
                  refine wp_run_same (v := ?al14_1) ?yl14_1 (hK _ _ ?_)
                  case yl14_1 => go_simp <;> with_reducible rfl
                  clear hK K
                  simp only [Act.put, List.setIfInBounds_toArray, List.set_cons_zero, List.set_cons_succ]
                  refine wpList_plain rfl fun K hK => ?_
                  refine wp_run_same (v := ?al14_2) ?yl14_2 (hK _ _ ?_)
                  case yl14_2 => go_simp <;> with_reducible rfl
                  clear hK K
                  simp only [Act.put, List.setIfInBounds_toArray, List.set_cons_zero, List.set_cons_succ]
                  refine wpList_plain rfl fun K hK => ?_
                  refine wp_build_cell (.tmp 137) rfl Try.underlying52 hi0 hz0 hz1 rfl (.slice A4 b.length c4) rfl rfl (w4.heap.size + 1) hz5 fun w6 hB6 hF6 hz6 => hK _ _ ?_
                  simp only [Act.put, List.setIfInBounds_toArray, List.set_cons_zero, List.set_cons_succ]
                  refine wpList_plain rfl fun K hK => ?_
                  refine wp_append_fr (.tmp 135) (.tmp 138) rfl 22 1 24 Try.underlying52 hi0 hz0 hz1 hz2 rfl (by omega) (.slice oA R.length oc) R.length vs rfl ?own ⟨w4.heap.size + 1, 0, none⟩ 1 1 [(.slice A4 b.length c4)] rfl rfl ?news ?one (by omega) (by unfold maxLen; omega) (by omega) (w4.heap.size + 2) hz6 fun g7 cap w7 ho7 hf7 hat7 hlt7 => hK _ _ ?_
                  case own => have := (HROWS2.out.fr (HFA.out.trans hF6 (by simp)) (by simp)).own; rw [List.length_map] at this; exact this
                  case one => intro u hu; simp at hu; subst hu; rfl
                  case news => intro j u hu; rw [Addr.add_mid, Nat.zero_add]; exact hB6.at_ hu
                  simp only [Act.put, List.setIfInBounds_toArray, List.set_cons_zero, List.set_cons_succ]
                  refine wpList_plain rfl fun K hK => ?_
                  refine wp_run_same (v := ?al14_5) ?yl14_5 (hK _ _ ?_)
                  case yl14_5 => go_simp <;> with_reducible rfl
                  clear hK K
                  simp only [Act.put, List.setIfInBounds_toArray, List.set_cons_zero, List.set_cons_succ]
                  refine wpList_nil ?_
                  have hF6' : Fr [] wr w6 := HFA.out.trans hF6 (by simp)
                  have hox : ∀ x ∈ (Value.slice oA R.length oc).ownBlock.toList, wq.heap.size + 2 ≤ x ∧ x < wr.heap.size := fun x hx => by
                    have h : (Value.slice oA R.length oc).ownBlock = some x := by simpa using hx
                    exact ⟨HROWS2.out.ge x h, own_lt HROWS2.out.own x h⟩
                  obtain ⟨g4', hb4', hg4', hl4'⟩ := (HB5.out.fr hF6 (by simp)).lt HG4.out (by omega)
                  have hr7 : RowsIn w7 (.slice (some ⟨g7, 0, none⟩) (R.length + 1) cap) ((R ++ [(st, b)]).map (·.2)) (vs ++ [(.slice A4 b.length c4)]) (wq.heap.size + 1 + 1) := by
                    have hr6 := HROWS2.out.fr hF6' (by simp)
                    have hll := HLB.out.lt
                    have := hr6.push (g7 := g7) (cap := cap) (w7 := w7) hb4' (by omega) (by omega) (fun hx => by have := hox g4' (by simp [hx]); omega) rfl (by rw [List.length_map]; exact ho7) hf7 (by rw [hz6]; exact hat7) (by omega)
                    rw [List.length_map] at this
                    rw [List.map_append]
                    exact this
                  have hl7 := (HLOG.out.fr hF6' (by simp)).fr hf7 (fun hm => by have := hox _ hm; omega)
                  have hq7 := (HLB.out.fr hF6' (by simp)).fr hf7 (fun hm => by have := hox _ hm; omega)
                  have hp7 := (HPB.out.fr hF6 (by simp)).fr hf7 (fun hm => by have := hox _ hm; omega)
                  have hx7 := (HRX.out.fr hF6' (by simp)).fr hf7 (fun x hx hY => by have := hox _ hx; have hY' : x < wq.heap.size := hY; omega)
                  have hfw7 := (HF2.out.trans hF6' (by simp)).trans hf7 (fun x hx => .inr (by have := hox _ hx; omega))
                  have HR7 := Lib.hid hr7; have HL7 := Lib.hid hl7; have HQ7 := Lib.hid hq7; have HP7 := Lib.hid hp7; have HX7 := Lib.hid hx7; have HFW7 := Lib.hid hfw7
                  clear hr7 hl7 hq7 hp7 hx7 hfw7 hox hat7 ho7 hf7 hlt7 hF6 hF6' hB6 hz6 hi0 hz0 hz1 hz2 hK hb4' hg4' hl4' p4
                  go_upto_region 30 with fail
                  refine wp_region_lit ?_
                  refine wpList_plain rfl fun K hK => ?_
                  refine wp_load_mid 95 (.tmp 21) rfl w4.heap.size 0 rfl (rcells ⟨st, 0, b⟩ (.slice A4 b.length c4)) _ (fun j v hj => by rw [Nat.zero_add]; exact HP7.out.at_ hj) Try.underlying95 rfl (by kernel_rfl) (hK _ _ ?_)
                  simp only [Act.put, List.setIfInBounds_toArray, List.set_cons_zero, List.set_cons_succ]
                  refine wpList_plain rfl fun K hK => ?_
                  refine wp_store_blk 95 (.tmp 20) (.tmp 140) rfl (rcells ⟨st, 0, b⟩ (.slice A4 b.length c4)) rfl rfl HQ7.out (by kernel_rfl) (by show _ = 5; exact HLC.out) (by intro u hu; simp only [rcells, List.mem_cons, List.not_mem_nil, or_false] at hu; rcases hu with rfl | rfl | rfl | rfl | rfl; rfl; rfl; rfl; rfl; rfl) fun w8 hB8 hF8 _ => hK _ _ ?_
                  simp only [Act.put]
                  refine wpList_nil ?_
                  have hr8 := HR7.out.fr hF8 (fun x hx => .inl (by simp at hx; omega))
                  have hl8 := HL7.out.fr hF8 (by simp)
                  have hx8 := HX7.out.fr hF8 (fun x hx hY => by simp at hx; have hY' : x < wq.heap.size := hY; omega)
                  have hfw8 := HFW7.out.trans hF8 (fun x hx => .inr (by simp at hx; omega))
                  have hp8 := HP7.out.fr hF8 (by simp; have := HLB.out.lt; omega)
                  have HR8 := Lib.hid hr8; have HL8 := Lib.hid hl8; have HX8 := Lib.hid hx8; have HFW8 := Lib.hid hfw8; have HB8 := Lib.hid hB8; have HP8 := Lib.hid hp8
                  clear hr8 hl8 hx8 hfw8 hB8 hp8 hF8 hK HR7 HL7 HQ7 HP7 HX7 HFW7
                  have l3 := HL8.out.at_ (i := 3) rfl
                  have lf := HL8.out.free
                  have wadd : IntKind.i64.wrap ((at_ : Int) + (st.count : Int)) = (at_ : Int) + (st.count : Int) := by rw [IntKind.wrap_i64]; omega
                  go_upto_region 31 with fail
                  refine wp_region_lit ?_
                  refine wpList_plain rfl fun K hK => ?_
                  refine wp_run_same (v := ?al16_0) ?yl16_0 (hK _ _ ?_)
                  case yl16_0 => go_simp <;> with_reducible rfl
                  clear hK K
                  simp only [Act.put, List.setIfInBounds_toArray, List.set_cons_zero, List.set_cons_succ]
                  refine wpList_plain rfl fun K hK => ?_
                  refine wp_run_same (v := ?al16_1) ?yl16_1 (hK _ _ ?_)
                  case yl16_1 => go_simp <;> with_reducible rfl
                  clear hK K
                  simp only [Act.put, List.setIfInBounds_toArray, List.set_cons_zero, List.set_cons_succ]
                  refine wpList_plain rfl fun K hK => ?_
                  refine wp_run_same (v := ?al16_2) ?yl16_2 (hK _ _ ?_)
                  case yl16_2 => go_simp <;> with_reducible rfl
                  clear hK K
                  simp only [Act.put, List.setIfInBounds_toArray, List.set_cons_zero, List.set_cons_succ]
                  refine wpList_plain rfl fun K hK => ?_
                  refine wp_run_same (v := ?al16_3) ?yl16_3 (hK _ _ ?_)
                  case yl16_3 => go_simp <;> with_reducible rfl
                  clear hK K
                  simp only [Act.put, List.setIfInBounds_toArray, List.set_cons_zero, List.set_cons_succ]
                  refine wpList_plain rfl fun K hK => ?_
                  refine wp_run_same (v := ?al16_4) ?yl16_4 (hK _ _ ?_)
                  case yl16_4 => go_simp <;> with_reducible rfl
                  clear hK K
                  simp only [Act.put, List.setIfInBounds_toArray, List.set_cons_zero, List.set_cons_succ]
                  refine wpList_plain rfl fun K hK => ?_
                  refine wp_run_same (v := ?al16_5) ?yl16_5 (hK _ _ ?_)
                  case yl16_5 => go_simp <;> with_reducible rfl
                  clear hK K
                  simp only [Act.put, List.setIfInBounds_toArray, List.set_cons_zero, List.set_cons_succ]
                  refine wpList_plain rfl fun K hK => ?_
                  refine wp_run_same (v := ?al16_6) ?yl16_6 (hK _ _ ?_)
                  case yl16_6 => go_simp <;> with_reducible rfl
                  clear hK K
                  simp only [Act.put, List.setIfInBounds_toArray, List.set_cons_zero, List.set_cons_succ]
                  refine wpList_plain rfl fun K hK => ?_
                  refine wp_run_same (v := ?al16_7) ?yl16_7 (hK _ _ ?_)
                  case yl16_7 => go_simp <;> with_reducible rfl
                  clear hK K
                  simp only [Act.put, List.setIfInBounds_toArray, List.set_cons_zero, List.set_cons_succ]
                  refine wpList_plain rfl fun K hK => ?_
                  refine wp_run_same (v := ?al16_8) ?yl16_8 (hK _ _ ?_)
                  case yl16_8 => go_simp <;> with_reducible rfl
                  clear hK K
                  simp only [Act.put, List.setIfInBounds_toArray, List.set_cons_zero, List.set_cons_succ]
                  refine wpList_plain rfl fun K hK => ?_
                  refine wp_run_skip (w' := w8.setCell ⟨wq.heap.size, 3, none⟩ (.int .i64 ((at_ : Int) + (st.count : Int)))) (by go_simp) (hK _ _ ?_)
                  simp only [Act.put]
                  refine wpList_nil ?_
                  have hl9 : Blk (w8.setCell ⟨wq.heap.size, 3, none⟩ (.int .i64 ((at_ : Int) + (st.count : Int)))) wq.heap.size 99 (rlog m f k (at_ + st.count) (numAfter num0 (lastOf R)) ses0 false) := by
                    have h := HL8.out.set_ 3 (.int .i64 ((at_ : Int) + (st.count : Int)))
                    rw [show (at_ : Int) + (st.count : Int) = ((at_ + st.count : Nat) : Int) by omega] at h ⊢
                    exact h
                  have hf9 : Fr [wq.heap.size] w8 (w8.setCell ⟨wq.heap.size, 3, none⟩ (.int .i64 ((at_ : Int) + (st.count : Int)))) := (Fr.refl _ w8).setCell (.inl (by simp)) _
                  clear l3 lf hK wadd
                  generalize w8.setCell ⟨wq.heap.size, 3, none⟩ (.int .i64 ((at_ : Int) + (st.count : Int))) = w9 at *
                  have l4 := hl9.at_ (i := 4) rfl
                  have lf := hl9.free
                  have hllt := HL8.out.lt
                  have p1 := (HP8.out.fr hf9 (by simp; have := HLOG.out.lt; omega)).at_ (i := 1) rfl
                  have HL9 := Lib.hid hl9; have HF9 := Lib.hid hf9
                  clear hl9 hf9
                  have wadd : IntKind.u32.wrap ((st.number : Int) + 1) = (((st.number + 1) % 4294967296 : Nat) : Int) := by rw [IntKind.wrap_u32]; omega
                  go_upto_region 32 with fail
                  refine wp_region_lit ?_
                  refine wpList_plain rfl fun K hK => ?_
                  refine wp_run_same (v := ?al17_0) ?yl17_0 (hK _ _ ?_)
                  case yl17_0 => go_simp <;> with_reducible rfl
                  clear hK K
                  simp only [Act.put, List.setIfInBounds_toArray, List.set_cons_zero, List.set_cons_succ]
                  refine wpList_plain rfl fun K hK => ?_
                  refine wp_run_same (v := ?al17_1) ?yl17_1 (hK _ _ ?_)
                  case yl17_1 => go_simp <;> with_reducible rfl
                  clear hK K
                  simp only [Act.put, List.setIfInBounds_toArray, List.set_cons_zero, List.set_cons_succ]
                  refine wpList_plain rfl fun K hK => ?_
                  refine wp_run_same (v := ?al17_2) ?yl17_2 (hK _ _ ?_)
                  case yl17_2 => go_simp <;> with_reducible rfl
                  clear hK K
                  simp only [Act.put, List.setIfInBounds_toArray, List.set_cons_zero, List.set_cons_succ]
                  refine wpList_plain rfl fun K hK => ?_
                  refine wp_run_same (v := ?al17_3) ?yl17_3 (hK _ _ ?_)
                  case yl17_3 => go_simp <;> with_reducible rfl
                  clear hK K
                  simp only [Act.put, List.setIfInBounds_toArray, List.set_cons_zero, List.set_cons_succ]
                  refine wpList_plain rfl fun K hK => ?_
                  refine wp_run_same (v := ?al17_4) ?yl17_4 (hK _ _ ?_)
                  case yl17_4 => go_simp <;> with_reducible rfl
                  clear hK K
                  simp only [Act.put, List.setIfInBounds_toArray, List.set_cons_zero, List.set_cons_succ]
                  refine wpList_plain rfl fun K hK => ?_
                  refine wp_run_same (v := ?al17_5) ?yl17_5 (hK _ _ ?_)
                  case yl17_5 => go_simp <;> with_reducible rfl
                  clear hK K
                  simp only [Act.put, List.setIfInBounds_toArray, List.set_cons_zero, List.set_cons_succ]
                  refine wpList_plain rfl fun K hK => ?_
                  refine wp_run_skip (w' := w9.setCell ⟨wq.heap.size, 4, none⟩ (.int .u32 (((st.number + 1) % 4294967296 : Nat) : Int))) (by go_simp) (hK _ _ ?_)
                  simp only [Act.put]
                  refine wpList_nil ?_
                  have hfs : RJRel w m f k num0 ses0 wq.heap.size (wq.heap.size + 1) (.slice lA k lc) wq.heap.size (D.part f k) (.slice (some ⟨g7, 0, none⟩) (R.length + 1) cap) (w9.setCell ⟨wq.heap.size, 4, none⟩ (.int .u32 (((st.number + 1) % 4294967296 : Nat) : Int))) := by
                    have hf10 : Fr [wq.heap.size] w8 (w9.setCell ⟨wq.heap.size, 4, none⟩ (.int .u32 (((st.number + 1) % 4294967296 : Nat) : Int))) := HF9.out.setCell (.inl (by simp)) _
                    refine ⟨R ++ [(st, b)], vs ++ [(.slice A4 b.length c4)], kk - 1, at_ + st.count, rcells ⟨st, 0, b⟩ (.slice A4 b.length c4), ls, by simp; omega, by omega, by omega, ?_, by simp [HSUM.out], ?_, HR8.out.fr hf10 (fun x hx => .inl (by simp at hx; omega)), ?_, HB8.out.fr hf10 (by simp), rfl, ?_, HX8.out.fr hf10 (fun x hx hY => by simp at hx; have hY' : x < wq.heap.size := hY; omega), HFW8.out.trans hf10 (fun x hx => .inr (by simp at hx; omega))⟩
                    · have hk1 : kk = (kk - 1) + 1 := by omega
                      rw [HRECS.out, hk1, recs_on HRO.out HST.out, lastOf_snoc, List.drop_drop, ← hk1]
                      simp
                    · intro x hx
                      rcases List.mem_append.1 hx with hx | hx
                      · exact HBD.out x hx
                      · simp at hx; subst hx; exact ⟨q3, q4⟩
                    · rw [lastOf_snoc]; exact HL9.out.set_ 4 _
                    · intro st' h; rw [lastOf_snoc] at h; injection h with h; subst h; exact ⟨rfl, rfl⟩
                  have HFS := Lib.hid hfs
                  clear hfs hK l4 lf p1 wadd
                  generalize w9.setCell ⟨wq.heap.size, 4, none⟩ (.int .u32 (((st.number + 1) % 4294967296 : Nat) : Int)) = w10 at *
                  go_wp2
                  exact ⟨HFS.out, by simp only [sliceLen]; omega⟩

end Go.Proofs.Ytbgcbikgjedkkaa
