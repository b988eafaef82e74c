/-
  The contract of orangeryref07.whole: the record that is whole at a place.
-/
import Derived.Test.YtbgcbikgjedkkaaKa
import Derived.Test.YtbgcbikgjedkkaaJt
namespace Go.Proofs.Ytbgcbikgjedkkaa
open Go.RowKit

theorem RowsRd.fr {w w' : World} {v : Value} {bss : List (List UInt8)} (h : RowsRd w v bss) (hf : Fr [] w w') : RowsRd w' v bss := by
  obtain ⟨A, c, g, off, h1, h2, h3, h4⟩ := h
  refine ⟨A, c, g, off, h1, h2, h3, fun j bs hj => ?_⟩
  obtain ⟨B, x, gx, h5, h6⟩ := h4 j bs hj
  exact ⟨B, x, gx, by rw [hf.cell (World.block_lt_of_cell? w _ h5) (by simp)]; exact h5, h6.fr hf (by simp)⟩
theorem sec_of {w : World} {B : Option Addr} {x gx : Nat} {s : List UInt8} (h : BytesAt w (.slice B s.length x) s gx) (hs : s.length = 64) : ∃ g o, (.slice B s.length x : Value) = sec2 g o x ∧ CellsOf w g o s ∧ 64 ≤ x := by
  obtain ⟨A, c, off, hv, hc, hb⟩ := h
  injection hv with h1 h2 h3
  subst h1 h3
  obtain ⟨h4, h5⟩ := hb (by omega)
  refine ⟨gx, off, by rw [h4, hs]; rfl, fun j u hu => h5 j (B8 u) (by rw [bcells_at, hu]; rfl), by omega⟩
/-- What whole answers. -/
def WholeAns (w : World) (L : List (List UInt8)) (e : Ending) (w' : World) : Prop :=
  match recordOf L with
  | none => e = .returned (.tuple #[.agg rnone.toArray, .int .i64 0]) ∧ Fr [] w w'
  | some (st, b) => ∃ v g, e = .returned (.tuple #[.agg (rcells ⟨st, 0, b⟩ v).toArray, .int .i64 (st.count : Int)]) ∧ BytesAt w' v b g ∧ w.heap.size ≤ g ∧ Fr [] w w'
theorem wh_no {w w' : World} {L : List (List UInt8)} {p : Pc} {k : Nat} {acc : List UInt8} (h1 : recordOf L = (collect p.st 0 (L.take p.st.count)).map fun b => (p.st, b)) (h2 : collect p.st 0 (L.take p.st.count) = (collect p.st k ((L.take p.st.count).drop k)).map (acc ++ ·)) (h3 : collect p.st k ((L.take p.st.count).drop k) = none) (hf : Fr [] w w') :
    WholeAns w L (.returned (.tuple #[.agg rnone.toArray, .int .i64 0])) w' := by
  unfold WholeAns
  rw [h1, h2, h3]
  exact ⟨rfl, hf⟩
theorem wh_yes {w w' : World} {L : List (List UInt8)} {p : Pc} {k : Nat} {acc : List UInt8} {v : Value} (h1 : recordOf L = (collect p.st 0 (L.take p.st.count)).map fun b => (p.st, b)) (h2 : collect p.st 0 (L.take p.st.count) = (collect p.st k ((L.take p.st.count).drop k)).map (acc ++ ·)) (hk : k = p.st.count) (hl : p.st.count ≤ L.length) (hp : p.place = 0)
    (hge : ∀ x, v.ownBlock = some x → w.heap.size ≤ x) (ho : w'.ownsRow 0 5 1 v acc.length (bcells acc)) (hf : Fr [] w w') : WholeAns w L (.returned (.tuple #[.agg (rcells p v).toArray, .int .i64 (p.st.count : Int)])) w' := by
  have e : (L.take p.st.count).drop k = [] := List.drop_eq_nil_of_le (by rw [List.length_take]; omega)
  have hr : recordOf L = some (p.st, acc) := by rw [h1, h2, e]; simp [collect]
  obtain ⟨g, hb, hg⟩ := bytes_of_own ho hge
  unfold WholeAns
  rw [hr]
  refine ⟨v, g, ?_, hb, hg, hf⟩
  unfold rcells
  rw [hp]
def WhRel (w : World) (p : Pc) (sv : Value) (gp go : Nat) (L : List (List UInt8)) (i : Value) (wr : World) : Prop :=
  ∃ (k : Nat) (acc : List UInt8) (vo : Value), k ≤ p.st.count ∧ i = .int .i64 k ∧ acc.length ≤ 48 * k ∧ wr.ownsRow 0 5 1 vo acc.length (bcells acc) ∧ (∀ x, vo.ownBlock = some x → w.heap.size ≤ x) ∧
    collect p.st 0 (L.take p.st.count) = (collect p.st k ((L.take p.st.count).drop k)).map (acc ++ ·) ∧ (0 < k → p.place = 0) ∧ Blk wr w.heap.size 95 rnone ∧ Blk wr gp 95 (rcells p sv) ∧ Blk wr go 95 (rcells p vo) ∧ Fr [] w wr
/-- The accumulated bytes grow by a piece. -/
theorem wh_step {w wr w3 w4 : World} {p q : Pc} {sv vo vn : Value} {gp go k : Nat} {L : List (List UInt8)} {acc : List UInt8} (hacc : acc.length ≤ 48 * k) (hql : q.b.length ≤ 48) (hk : k + 1 ≤ p.st.count) (hpl : k = 0 → p.place = 0) (hpk : 0 < k → p.place = 0)
    (hC : collect p.st 0 (L.take p.st.count) = (collect p.st k ((L.take p.st.count).drop k)).map (acc ++ ·)) (hY : collect p.st k ((L.take p.st.count).drop k) = (collect p.st (k + 1) ((L.take p.st.count).drop (k + 1))).map (q.b ++ ·))
    (hown : wr.ownsRow 0 5 1 vo acc.length (bcells acc)) (hge : ∀ x, vo.ownBlock = some x → w.heap.size ≤ x) (hR : Blk wr w.heap.size 95 rnone) (hP : Blk wr gp 95 (rcells p sv)) (hO : Blk wr go 95 (rcells p vo)) (hf : Fr [] w wr)
    (hgw : w.heap.size ≤ go) (hg0 : go ≠ w.heap.size) (hgp : go ≠ gp)
    (hf3 : Fr vo.ownBlock.toList wr w3) (hn : w3.ownsRow 0 5 1 vn (acc.length + q.b.length) (bcells acc ++ bcells q.b)) (hgn : ∀ x, vn.ownBlock = some x → w.heap.size ≤ x) (hngo : vn.ownBlock ≠ some go)
    (hw4 : w4 = w3.setCell ⟨go, 4, none⟩ vn) : WhRel w p sv gp go L (.int .i64 ((k : Int) + 1)) w4 := by
  subst hw4
  have n1 := own_ne hown hR (by decide)
  have n2 := own_ne hown hP (by decide)
  have n3 := own_ne hown hO (by decide)
  refine ⟨k + 1, acc ++ q.b, vn, hk, rfl, by rw [List.length_append]; omega, ?_, hgn, ?_, fun _ => by rcases Nat.eq_zero_or_pos k with h | h; exact hpl h; exact hpk h, ((hR.fr hf3 (by simpa using n1)).far (by simpa using (Ne.symm hg0)) _), (hP.fr hf3 (by simpa using n2)).far (by simpa using (Ne.symm hgp)) _, ?_, ?_⟩
  · rw [List.length_append, bcells_append]
    exact own_fr hn ((Fr.refl [go] w3).setCell (.inl (by simp)) _) (fun g hg hm => by simp at hm; subst hm; exact hngo hg)
  · rw [hC, hY]
    simp [Option.map_map, Function.comp_def]
  · exact (hO.fr hf3 (by simpa using n3)).set_ 4 vn
  · exact ((hf.trans hf3 (fun x hx => .inr (hge x (by simpa using hx))))).setCell (.inr hgw) _

theorem rpiece_news {w : World} {g o : Nat} {s : List UInt8} {q : Pc} (h : pieceOf s = some q) (hs : CellsOf w g o s) : ∀ (j : Nat) (u : Value), (bcells q.b)[j]? = some u → w.cell? (Addr.add ⟨g, o + 16, none⟩ j) = some u := by
  unfold pieceOf at h
  split at h
  · simp only [Option.some.injEq] at h
    subst h
    intro j u hj
    rw [bcells_at] at hj
    obtain ⟨c, hc, rfl⟩ := Option.map_eq_some_iff.1 hj
    rw [Addr.add_mid]
    exact hs.part 16 _ j c hc
  · cases h

set_option maxRecDepth 100000 in
set_option maxHeartbeats 8000000 in
theorem whole_any {w : World} {v : Value} {L : List (List UInt8)} {k0 : Nat} (hl : RowsRd w v L) (h64 : ∀ s ∈ L, s.length = 64) (hk0 : k0 ≤ L.length) (hm : L.length ≤ 65536) :
    Calls Try.prog 55 #[v, .int .i64 (k0 : Int)] w (WholeAns w (L.drop k0)) := by
  have HRD := Lib.hid hl; have H64 := Lib.hid h64
  obtain ⟨A, c, gl, off, rfl, hc, hA, hr⟩ := hl
  clear h64
  by_cases hkl : k0 = L.length
  · have hd : L.drop k0 = [] := List.drop_of_length_le (by omega)
    rw [hd]
    clear hr hA
    have hge : (L.length : Int) ≤ (k0 : Int) := by omega
    go_enter Try.func55, Try.ntmps55
    go_wp2
    exact bodyPost_ret (v := .tuple #[.agg rnone.toArray, .int .i64 0]) (by simp [results, Try.results55, go_sem, rnone]) rfl ⟨rfl, (Fr.refl [] w).alloc _⟩
  · have hlt : k0 < L.length := by omega
    obtain ⟨s, hs⟩ : ∃ s, L[k0]? = some s := ⟨_, List.getElem?_eq_getElem hlt⟩
    have hs64 := H64.out s (List.mem_of_getElem? hs)
    obtain ⟨B, x, gx, hcell, hbs⟩ := hr k0 s hs
    obtain ⟨g, o, hB, hcs, hx⟩ := sec_of hbs hs64
    rw [hB] at hcell
    have eA := hA (by omega)
    subst eA
    have h0 : (L.drop k0)[0]? = some s := by rw [List.getElem?_drop]; exact hs
    have HCS := Lib.hid hcs; have H0 := Lib.hid h0
    clear hr hA hbs hcs h0 hs hB
    unfold sec2 at hcell
    have hglt : gl < w.heap.size := World.block_lt_of_cell? w _ hcell
    go_enter Try.func55, Try.ntmps55
    go_wp2_with fail
    have hfa : Fr [] w (w.alloc (.cells #[.int .u32 0, .int .u32 0, .int .i64 0, .int .i64 0, .slice none 0 0] 95)) := (Fr.refl [] w).alloc _
    have hbk : Blk (w.alloc (.cells #[.int .u32 0, .int .u32 0, .int .i64 0, .int .i64 0, .slice none 0 0] 95)) w.heap.size 95 rnone := Blk.new w _ rnone
    refine (rpiece_any (HCS.out.fr hfa (by simp)) hs64 hx).mono ?_
    rintro e w1 ⟨rfl, hf1⟩
    have hb1 := hbk.fr hf1 (by simp)
    have HB1 := Lib.hid hb1; have HF1 := Lib.hid (hfa.trans hf1 (by simp))
    have hz1 := hb1.lt
    clear hfa hbk hf1 hb1
    unfold rpieceV
    cases hp : pieceOf s with
    | none =>
      have hno : recordOf (L.drop k0) = none := recordOf_none H0.out (fun p h => by rw [hp] at h; cases h)
      have hfin : Hid (∀ w', Fr [] w w' → WholeAns w (L.drop k0) (.returned (.tuple #[.agg rnone.toArray, .int .i64 0])) w') := Lib.hid fun w' h => by unfold WholeAns; rw [hno]; exact ⟨rfl, h⟩
      clear hno
      simp only [rnone]
      go_upto_region 5 with fail
      have HZB := Lib.hid (HB1.out.alloc (.cells #[.int .u32 0, .int .u32 0, .int .i64 0, .int .i64 0, .slice none 0 0] 95))
      have HFZ := Lib.hid (HF1.out.alloc (.cells #[.int .u32 0, .int .u32 0, .int .i64 0, .int .i64 0, .slice none 0 0] 95))
      refine wp_region_lit ?_
      refine wpList_plain rfl fun K hK => ?_
      refine wp_run_same (v := ?al1_0) ?yl1_0 (hK _ _ ?_)
      case yl1_0 => go_simp <;> with_reducible rfl
      clear hK K
      simp only [Act.put, List.setIfInBounds_toArray, List.set_cons_zero, List.set_cons_succ]
      refine wpList_plain rfl fun K hK => ?_
      refine wp_store_blk 95 (.tmp 4) (.tmp 41) rfl rnone rfl rfl HZB.out (by kernel_rfl) rfl (by intro u hu; simp only [rnone, List.mem_cons, List.not_mem_nil, or_false] at hu; rcases hu with rfl | rfl | rfl | rfl | rfl <;> rfl) fun w9 hB9 hF9 _ => hK _ _ ?_
      simp only [Act.put]
      refine wpList_plain rfl fun K hK => ?_
      refine wp_run_same (v := ?al1_2) ?yl1_2 (hK _ _ ?_)
      case yl1_2 => go_simp <;> with_reducible rfl
      clear hK K
      simp only [Act.put, List.setIfInBounds_toArray, List.set_cons_zero, List.set_cons_succ]
      refine wpList_nil ?_
      have d0 := hB9.at_ (i := 0) rfl
      have d1 := hB9.at_ (i := 1) rfl
      have d2 := hB9.at_ (i := 2) rfl
      have d3 := hB9.at_ (i := 3) rfl
      have d4 := hB9.at_ (i := 4) rfl
      have HF9 := Lib.hid (HFZ.out.trans hF9 (fun x hx => .inr (by simp at hx; omega)))
      clear hB9 hF9 hK
      go_wp2
      refine bodyPost_ret (v := .tuple #[.agg rnone.toArray, .int .i64 0]) (by simp [results, Try.results55, go_sem, rnone, d0, d1, d2, d3, d4]) rfl ?_
      exact hfin.out _ HF9.out
    | some p =>
      have hbd := pieceOf_bd hp
      by_cases hcnt : p.st.count < 1 ∨ L.length - k0 < p.st.count
      · have hno : recordOf (L.drop k0) = none := recordOf_none H0.out (fun p' h => by rw [hp] at h; injection h with h; subst h; rw [List.length_drop]; exact hcnt)
        have hfin : Hid (∀ w', Fr [] w w' → WholeAns w (L.drop k0) (.returned (.tuple #[.agg rnone.toArray, .int .i64 0])) w') := Lib.hid fun w' h => by unfold WholeAns; rw [hno]; exact ⟨rfl, h⟩
        clear hno
        simp only [rcells]
        have HZB := Lib.hid (HB1.out.alloc (.cells (rcells p (.slice (some ⟨g, o + 16, none⟩) p.b.length (x - 16))).toArray 95))
        have HFZ := Lib.hid (HF1.out.alloc (.cells (rcells p (.slice (some ⟨g, o + 16, none⟩) p.b.length (x - 16))).toArray 95))
        by_cases hc1 : (p.st.count : Int) < 1
        · clear hcnt
          go_upto_region 5 with fail
          refine wp_region_lit ?_
          refine wpList_plain rfl fun K hK => ?_
          refine wp_run_same (v := ?al2_0) ?yl2_0 (hK _ _ ?_)
          case yl2_0 => go_simp <;> with_reducible rfl
          clear hK K
          simp only [Act.put, List.setIfInBounds_toArray, List.set_cons_zero, List.set_cons_succ]
          refine wpList_plain rfl fun K hK => ?_
          refine wp_store_blk 95 (.tmp 4) (.tmp 41) rfl rnone rfl rfl HZB.out (by kernel_rfl) rfl (by intro u hu; simp only [rnone, List.mem_cons, List.not_mem_nil, or_false] at hu; rcases hu with rfl | rfl | rfl | rfl | rfl <;> rfl) fun w9 hB9 hF9 _ => hK _ _ ?_
          simp only [Act.put]
          refine wpList_plain rfl fun K hK => ?_
          refine wp_run_same (v := ?al2_2) ?yl2_2 (hK _ _ ?_)
          case yl2_2 => go_simp <;> with_reducible rfl
          clear hK K
          simp only [Act.put, List.setIfInBounds_toArray, List.set_cons_zero, List.set_cons_succ]
          refine wpList_nil ?_
          have d0 := hB9.at_ (i := 0) rfl
          have d1 := hB9.at_ (i := 1) rfl
          have d2 := hB9.at_ (i := 2) rfl
          have d3 := hB9.at_ (i := 3) rfl
          have d4 := hB9.at_ (i := 4) rfl
          have HF9 := Lib.hid (HFZ.out.trans hF9 (fun x hx => .inr (by simp at hx; omega)))
          clear hB9 hF9 hK
          go_wp2
          refine bodyPost_ret (v := .tuple #[.agg rnone.toArray, .int .i64 0]) (by simp [results, Try.results55, go_sem, rnone, d0, d1, d2, d3, d4]) rfl ?_
          exact hfin.out _ HF9.out
        · have hc2 : (L.length : Int) < (k0 : Int) + (p.st.count : Int) := by omega
          clear hcnt
          go_upto_region 5 with fail
          refine wp_region_lit ?_
          refine wpList_plain rfl fun K hK => ?_
          refine wp_run_same (v := ?al3_0) ?yl3_0 (hK _ _ ?_)
          case yl3_0 => go_simp <;> with_reducible rfl
          clear hK K
          simp only [Act.put, List.setIfInBounds_toArray, List.set_cons_zero, List.set_cons_succ]
          refine wpList_plain rfl fun K hK => ?_
          refine wp_store_blk 95 (.tmp 4) (.tmp 41) rfl rnone rfl rfl HZB.out (by kernel_rfl) rfl (by intro u hu; simp only [rnone, List.mem_cons, List.not_mem_nil, or_false] at hu; rcases hu with rfl | rfl | rfl | rfl | rfl <;> rfl) fun w9 hB9 hF9 _ => hK _ _ ?_
          simp only [Act.put]
          refine wpList_plain rfl fun K hK => ?_
          refine wp_run_same (v := ?al3_2) ?yl3_2 (hK _ _ ?_)
          case yl3_2 => go_simp <;> with_reducible rfl
          clear hK K
          simp only [Act.put, List.setIfInBounds_toArray, List.set_cons_zero, List.set_cons_succ]
          refine wpList_nil ?_
          have d0 := hB9.at_ (i := 0) rfl
          have d1 := hB9.at_ (i := 1) rfl
          have d2 := hB9.at_ (i := 2) rfl
          have d3 := hB9.at_ (i := 3) rfl
          have d4 := hB9.at_ (i := 4) rfl
          have HF9 := Lib.hid (HFZ.out.trans hF9 (fun x hx => .inr (by simp at hx; omega)))
          clear hB9 hF9 hK
          go_wp2
          refine bodyPost_ret (v := .tuple #[.agg rnone.toArray, .int .i64 0]) (by simp [results, Try.results55, go_sem, rnone, d0, d1, d2, d3, d4]) rfl ?_
          exact hfin.out _ HF9.out
      · have hc1 : ¬ (p.st.count : Int) < 1 := by omega
        have hc2 : ¬ (L.length : Int) < (k0 : Int) + (p.st.count : Int) := by omega
        have hcl : p.st.count ≤ (L.drop k0).length := by rw [List.length_drop]; omega
        have hrc := recordOf_coll H0.out hp (by omega) hcl
        have HRC := Lib.hid hrc; have HCL := Lib.hid hcl
        have HP := Lib.hid hp
        clear hrc hcnt hp hcl
        simp only [rcells]
        have hz := HF1.out.size
        go_wp2_with fail
        have hb1' := HB1.out
        go_loopw [9] (WhRel w p (.slice (some ⟨g, o + 16, none⟩) p.b.length (x - 16)) w1.heap.size (w1.heap.size + 1) (L.drop k0)) (fun i _ => p.st.count - (intOf i).toNat)
        case atStart =>
          refine ⟨0, [], .slice none 0 0, Nat.zero_le _, rfl, by simp, own_nil _ _ _ _, by simp [Value.ownBlock], by simp, fun h => absurd h (by omega), ?_, ?_, ?_, ?_⟩
          · first | exact ((HB1.out.alloc _).alloc _).far (by simp; omega) _ | exact (HB1.out.alloc _).alloc _
          · first | exact ((Blk.new w1 95 (rcells p (.slice (some ⟨g, o + 16, none⟩) p.b.length (x - 16)))).alloc _).far (by simp) _ | exact (Blk.new w1 95 (rcells p (.slice (some ⟨g, o + 16, none⟩) p.b.length (x - 16)))).alloc _
          · have h := Blk.new (w1.alloc (.cells (rcells p (.slice (some ⟨g, o + 16, none⟩) p.b.length (x - 16))).toArray 95)) 95 (rcells p (.slice none 0 0))
            rw [show (w1.alloc (.cells (rcells p (.slice (some ⟨g, o + 16, none⟩) p.b.length (x - 16))).toArray 95)).heap.size = w1.heap.size + 1 by simp] at h
            exact h
          · first | exact ((HF1.out.alloc _).alloc _).setCell (.inr (by show _ ≤ _ + 1; omega)) _ | exact (HF1.out.alloc _).alloc _
        case round =>
          obtain ⟨j, acc, vo, hj, rfl, hacc, hown, hge, hcol, hpl, hR, hP, hO, hf⟩ := hrel
          have p0 := hP.at_ (i := 0) rfl
          have p1 := hP.at_ (i := 1) rfl
          have p3 := hP.at_ (i := 3) rfl
          have HACC := Lib.hid hacc; have HOWN := Lib.hid hown; have HGE := Lib.hid hge; have HCOL := Lib.hid hcol; have HPL := Lib.hid hpl; have HR := Lib.hid hR; have HPB := Lib.hid hP; have HO := Lib.hid hO; have HF := Lib.hid hf
          clear hacc hown hge hcol hpl hR hP hO hf hb1'
          by_cases hjc : j < p.st.count
          · have hkj : k0 + j < L.length := by omega
            obtain ⟨sk, hsk⟩ : ∃ sk, L[k0 + j]? = some sk := ⟨_, List.getElem?_eq_getElem hkj⟩
            have hsk64 := H64.out sk (List.mem_of_getElem? hsk)
            obtain ⟨A', c', gl', off', hv', _, hA', hr'⟩ := HRD.out.fr HF.out
            injection hv' with hv1 hv2 hv3
            have hv1' := hA' (by omega)
            rw [← hv1] at hv1'
            simp only [Option.some.injEq, Addr.mk.injEq] at hv1'
            obtain ⟨rfl, rfl, _⟩ := hv1'
            obtain ⟨B', x', gx', hcell', hbs'⟩ := hr' (k0 + j) sk hsk
            obtain ⟨g', o', hB', hcs', hx'⟩ := sec_of hbs' hsk64
            rw [hB'] at hcell'
            unfold sec2 at hcell'
            have hTk : ((L.drop k0).take p.st.count)[j]? = some sk := by rw [List.getElem?_take, if_pos hjc, List.getElem?_drop]; exact hsk
            have HTK := Lib.hid hTk; have HCS' := Lib.hid hcs'
            clear hv1 hv2 hv3 hr' hA' hbs' hB' hcs' hsk hTk
            go_wp2_with fail
            refine (rpiece_any HCS'.out hsk64 hx').mono ?_
            rintro e w2 ⟨rfl, hf2⟩
            have hz2 := hf2.size
            have hzr := HF.out.size
            have hlr := HR.out.lt; have hlp := HPB.out.lt; have hlo := HO.out.lt
            have HF2 := Lib.hid hf2
            clear hf2 p0 p1 p3 hcell'
            unfold rpieceV
            cases hq : pieceOf sk with
            | none =>
              have hno := coll_no (st := p.st) HTK.out (fun q h => by rw [hq] at h; cases h)
              have HNO := Lib.hid hno
              clear hno
              simp only [rnone]
              go_upto_region 13 with fail
              have HZB := Lib.hid ((HR.out.fr HF2.out (by simp)).alloc (.cells #[.int .u32 0, .int .u32 0, .int .i64 0, .int .i64 0, .slice none 0 0] 95))
              have HFZ := Lib.hid ((HF.out.trans HF2.out (by simp)).alloc (.cells #[.int .u32 0, .int .u32 0, .int .i64 0, .int .i64 0, .slice none 0 0] 95))
              refine wp_region_lit ?_
              refine wpList_plain rfl fun K hK => ?_
              refine wp_run_same (v := ?al4_0) ?yl4_0 (hK _ _ ?_)
              case yl4_0 => go_simp <;> with_reducible rfl
              clear hK K
              simp only [Act.put, List.setIfInBounds_toArray, List.set_cons_zero, List.set_cons_succ]
              refine wpList_plain rfl fun K hK => ?_
              refine wp_store_blk 95 (.tmp 4) (.tmp 102) rfl rnone rfl rfl HZB.out (by kernel_rfl) rfl (by intro u hu; simp only [rnone, List.mem_cons, List.not_mem_nil, or_false] at hu; rcases hu with rfl | rfl | rfl | rfl | rfl <;> rfl) fun w9 hB9 hF9 _ => hK _ _ ?_
              simp only [Act.put]
              refine wpList_plain rfl fun K hK => ?_
              refine wp_run_same (v := ?al4_2) ?yl4_2 (hK _ _ ?_)
              case yl4_2 => go_simp <;> with_reducible rfl
              clear hK K
              simp only [Act.put, List.setIfInBounds_toArray, List.set_cons_zero, List.set_cons_succ]
              refine wpList_nil ?_
              have d0 := hB9.at_ (i := 0) rfl
              have d1 := hB9.at_ (i := 1) rfl
              have d2 := hB9.at_ (i := 2) rfl
              have d3 := hB9.at_ (i := 3) rfl
              have d4 := hB9.at_ (i := 4) rfl
              have HF9 := Lib.hid (HFZ.out.trans hF9 (fun x hx => .inr (by simp at hx; omega)))
              clear hB9 hF9 hK
              go_wp2
              refine bodyPost_ret (v := .tuple #[.agg rnone.toArray, .int .i64 0]) (by simp [results, Try.results55, go_sem, rnone, d0, d1, d2, d3, d4]) rfl ?_
              exact wh_no HRC.out HCOL.out HNO.out HF9.out
            | some q =>
              have hqb := pieceOf_bd hq
              simp only [rcells]
              go_upto_region 12 with fail
              have hfa : Fr [] wr (w2.alloc (.cells (rcells q (.slice (some ⟨g', o' + 16, none⟩) q.b.length (x' - 16))).toArray 95)) := HF2.out.alloc _
              have hqB : Blk (w2.alloc (.cells (rcells q (.slice (some ⟨g', o' + 16, none⟩) q.b.length (x' - 16))).toArray 95)) w2.heap.size 95 (rcells q (.slice (some ⟨g', o' + 16, none⟩) q.b.length (x' - 16))) := Blk.new w2 _ _
              have hsz3 : (w2.alloc (.cells (rcells q (.slice (some ⟨g', o' + 16, none⟩) q.b.length (x' - 16))).toArray 95)).heap.size = w2.heap.size + 1 := by simp
              unfold rcells at hfa hqB hsz3
              generalize w2.alloc (.cells #[.int .u32 (q.st.session : Int), .int .u32 (q.st.number : Int), .int .i64 (q.place : Int), .int .i64 (q.st.count : Int), .slice (some ⟨g', o' + 16, none⟩) q.b.length (x' - 16)] 95) = w3 at *
              have q0 := hqB.at_ (i := 0) rfl
              have q1 := hqB.at_ (i := 1) rfl
              have q2 := hqB.at_ (i := 2) rfl
              have q3 := hqB.at_ (i := 3) rfl
              have q4 := hqB.at_ (i := 4) rfl
              have hP3 := HPB.out.fr hfa (by simp)
              have p0 := hP3.at_ (i := 0) rfl
              have p1 := hP3.at_ (i := 1) rfl
              have p3 := hP3.at_ (i := 3) rfl
              have HFA := Lib.hid hfa; have HQB := Lib.hid hqB; have HQ := Lib.hid hq
              clear hfa hqB hP3 hq
              by_cases hok : q.st = p.st ∧ q.place = j ∧ (j + 1 < p.st.count → q.b.length = 48)
              · have hY := coll_yes HTK.out HQ.out hok
                obtain ⟨o1, o2, o3⟩ := hok
                have e1 : ((q.st.session : Int) != (p.st.session : Int)) = false := by rw [o1]; simp
                have e2 : ((q.st.number : Int) != (p.st.number : Int)) = false := by rw [o1]; simp
                have e3 : ((q.st.count : Int) != (p.st.count : Int)) = false := by rw [o1]; simp
                have e4 : ((q.place : Int) != (j : Int)) = false := by rw [o2]; simp
                have e5 : (decide ((j : Int) + 1 < (p.st.count : Int)) && ((q.b.length : Int) != 48)) = false := by
                  by_cases h : j + 1 < p.st.count
                  · rw [o3 h]; simp
                  · rw [decide_eq_false (by omega)]; rfl
                have HY := Lib.hid hY; have HO1 := Lib.hid o1; have HO2 := Lib.hid o2; have HO3 := Lib.hid o3
                clear hY o1 o2 o3
                have HPL0 : Hid (j = 0 → p.place = 0) := Lib.hid fun h => by
                  have h1 := HTK.out
                  subst h
                  rw [List.getElem?_take, if_pos hjc, List.getElem?_drop] at h1
                  have h2 := H0.out
                  rw [List.getElem?_drop] at h2
                  rw [h1] at h2
                  injection h2 with h2
                  subst h2
                  have h3 := HQ.out
                  rw [HP.out] at h3
                  injection h3 with h3
                  rw [h3]
                  exact HO2.out
                obtain ⟨oA, oc, rfl, hoc, _⟩ := own_shape HOWN.out
                have hO3 := HO.out.fr HFA.out (by simp)
                have o4 := hO3.at_ (i := 4) rfl
                have of4 := hO3.free
                clear hO3
                by_cases hjl : (j : Int) + 1 < (p.st.count : Int)
                · have e6 : ((q.b.length : Int) != 48) = false := by rw [HO3.out (by omega)]; simp
                  go_upto_region 14 with fail
                  refine wp_region_lit ?_
                  refine wpList_plain rfl fun K hK => ?_
                  refine wp_run_same (v := ?al5_0) ?yl5_0 (hK _ _ ?_)
                  case yl5_0 => go_simp <;> with_reducible rfl
                  clear hK K
                  simp only [Act.put, List.setIfInBounds_toArray, List.set_cons_zero, List.set_cons_succ]
                  refine wpList_plain rfl fun K hK => ?_
                  refine wp_run_same (v := ?al5_1) ?yl5_1 (hK _ _ ?_)
                  case yl5_1 => go_simp <;> with_reducible rfl
                  clear hK K
                  simp only [Act.put, List.setIfInBounds_toArray, List.set_cons_zero, List.set_cons_succ]
                  refine wpList_plain rfl fun K hK => ?_
                  refine wp_run_same (v := ?al5_2) ?yl5_2 (hK _ _ ?_)
                  case yl5_2 => go_simp <;> with_reducible rfl
                  clear hK K
                  simp only [Act.put, List.setIfInBounds_toArray, List.set_cons_zero, List.set_cons_succ]
                  refine wpList_plain rfl fun K hK => ?_
                  refine wp_run_same (v := ?al5_3) ?yl5_3 (hK _ _ ?_)
                  case yl5_3 => go_simp <;> with_reducible rfl
                  clear hK K
                  simp only [Act.put, List.setIfInBounds_toArray, List.set_cons_zero, List.set_cons_succ]
                  by_cases hq0 : q.b.length = 0
                  · have hb0 : q.b = [] := List.eq_nil_of_length_eq_zero hq0
                    rw [hq0]
                    refine wpList_append_none rfl (.tmp 104) (.tmp 106) 22 22 rfl 5 5 Try.underlying22 Try.underlying22 (by kernel_rfl) oA (some ⟨g', o' + 16, none⟩) acc.length oc (x' - 16) rfl rfl hoc ?_
                    simp only [Act.put, List.setIfInBounds_toArray, List.set_cons_zero, List.set_cons_succ]
                    refine wpList_plain rfl fun K hK => ?_
                    refine wp_run_same (v := ?al5_5) ?yl5_5 (hK _ _ ?_)
                    case yl5_5 => go_simp <;> with_reducible rfl
                    clear hK K
                    simp only [Act.put, List.setIfInBounds_toArray, List.set_cons_zero, List.set_cons_succ]
                    refine wpList_plain rfl fun K hK => ?_
                    refine wp_run_skip (w' := w3.setCell ⟨w1.heap.size + 1, 4, none⟩ (.slice oA acc.length oc)) (by go_simp) (hK _ _ ?_)
                    simp only [Act.put]
                    refine wpList_nil ?_
                    have hrel := wh_step (w4 := w3.setCell ⟨w1.heap.size + 1, 4, none⟩ (.slice oA acc.length oc)) HACC.out hqb.2.2.2.2 (by omega) HPL0.out HPL.out HCOL.out HY.out HOWN.out HGE.out HR.out HPB.out HO.out HF.out (by omega) (by omega) (by omega) (HFA.out.mono (by simp)) (by rw [hb0]; simpa [bcells] using own_fr HOWN.out HFA.out (by simp)) HGE.out (own_ne HOWN.out HO.out (by decide)) rfl
                    have HREL := Lib.hid hrel
                    clear hrel hK q0 q1 q2 q3 q4 p0 p1 p3 o4 of4
                    generalize w3.setCell ⟨w1.heap.size + 1, 4, none⟩ (.slice oA acc.length oc) = w8 at *
                    go_wp2
                    exact ⟨HREL.out, by simp [intOf]; omega⟩
                  · obtain ⟨iu, hi, hz', hsz', hby⟩ := info_parts info_u8
                    have hql := hqb.2.2.2.2
                    have hacc := HACC.out
                    refine wpList_plain rfl fun K hK => ?_
                    refine wp_append_fr (.tmp 104) (.tmp 106) rfl 5 1 1 Try.underlying22 hi hz' hsz' hby rfl (by omega) (.slice oA acc.length oc) acc.length (bcells acc) rfl (own_fr HOWN.out HFA.out (by simp)) ⟨g', o' + 16, none⟩ q.b.length (x' - 16) (bcells q.b) rfl (by rw [bcells_len]; omega) (rpiece_news HQ.out (HCS'.out.fr HFA.out (by simp))) (bcells_one _) (by omega) (by unfold maxLen; omega) (by omega) (w2.heap.size + 1) hsz3 fun g7 cap w7 ho7 hf7 hat7 hlt7 => hK _ _ ?_
                    simp only [Act.put, List.setIfInBounds_toArray, List.set_cons_zero, List.set_cons_succ]
                    have n3 := own_ne HOWN.out HO.out (by decide)
                    have hO7 := (HO.out.fr HFA.out (by simp)).fr hf7 (by simpa using n3)
                    have of7 := hO7.free
                    have ol7 := hO7.at_ (i := 4) rfl
                    have hrel := wh_step (w4 := w7.setCell ⟨w1.heap.size + 1, 4, none⟩ (.slice (some ⟨g7, 0, none⟩) (acc.length + q.b.length) cap)) HACC.out hqb.2.2.2.2 (by omega) HPL0.out HPL.out HCOL.out HY.out HOWN.out HGE.out HR.out HPB.out HO.out HF.out (by omega) (by omega) (by omega) (((HFA.out.mono (by simp)).trans hf7 (fun x hx => .inl hx))) ho7
                      (fun y hy => by have h1 : g7 = y := by simpa [Value.ownBlock] using hy
                                      rcases hat7 with h2 | h2
                                      · exact HGE.out y (h1 ▸ h2)
                                      · omega)
                      (fun hy => by have h1 : g7 = w1.heap.size + 1 := by simpa [Value.ownBlock] using hy
                                    rcases hat7 with h2 | h2
                                    · exact n3 (h1 ▸ h2)
                                    · omega) rfl
                    have HREL := Lib.hid hrel
                    clear hrel hf7 ho7 hat7 hlt7 n3 hO7
                    refine wpList_plain rfl fun K hK => ?_
                    refine wp_run_same (v := ?al5_5) ?yl5_5 (hK _ _ ?_)
                    case yl5_5 => go_simp <;> with_reducible rfl
                    clear hK K
                    simp only [Act.put, List.setIfInBounds_toArray, List.set_cons_zero, List.set_cons_succ]
                    refine wpList_plain rfl fun K hK => ?_
                    refine wp_run_skip (w' := w7.setCell ⟨w1.heap.size + 1, 4, none⟩ (.slice (some ⟨g7, 0, none⟩) (acc.length + q.b.length) cap)) (by go_simp) (hK _ _ ?_)
                    simp only [Act.put]
                    refine wpList_nil ?_
                    clear hK q0 q1 q2 q3 q4 p0 p1 p3 o4 of4 of7 ol7 hi hz' hsz' hby
                    generalize w7.setCell ⟨w1.heap.size + 1, 4, none⟩ (.slice (some ⟨g7, 0, none⟩) (acc.length + q.b.length) cap) = w8 at *
                    go_wp2
                    exact ⟨HREL.out, by simp [intOf]; omega⟩
                · skip
                  go_upto_region 14 with fail
                  refine wp_region_lit ?_
                  refine wpList_plain rfl fun K hK => ?_
                  refine wp_run_same (v := ?al6_0) ?yl6_0 (hK _ _ ?_)
                  case yl6_0 => go_simp <;> with_reducible rfl
                  clear hK K
                  simp only [Act.put, List.setIfInBounds_toArray, List.set_cons_zero, List.set_cons_succ]
                  refine wpList_plain rfl fun K hK => ?_
                  refine wp_run_same (v := ?al6_1) ?yl6_1 (hK _ _ ?_)
                  case yl6_1 => go_simp <;> with_reducible rfl
                  clear hK K
                  simp only [Act.put, List.setIfInBounds_toArray, List.set_cons_zero, List.set_cons_succ]
                  refine wpList_plain rfl fun K hK => ?_
                  refine wp_run_same (v := ?al6_2) ?yl6_2 (hK _ _ ?_)
                  case yl6_2 => go_simp <;> with_reducible rfl
                  clear hK K
                  simp only [Act.put, List.setIfInBounds_toArray, List.set_cons_zero, List.set_cons_succ]
                  refine wpList_plain rfl fun K hK => ?_
                  refine wp_run_same (v := ?al6_3) ?yl6_3 (hK _ _ ?_)
                  case yl6_3 => go_simp <;> with_reducible rfl
                  clear hK K
                  simp only [Act.put, List.setIfInBounds_toArray, List.set_cons_zero, List.set_cons_succ]
                  by_cases hq0 : q.b.length = 0
                  · have hb0 : q.b = [] := List.eq_nil_of_length_eq_zero hq0
                    rw [hq0]
                    refine wpList_append_none rfl (.tmp 104) (.tmp 106) 22 22 rfl 5 5 Try.underlying22 Try.underlying22 (by kernel_rfl) oA (some ⟨g', o' + 16, none⟩) acc.length oc (x' - 16) rfl rfl hoc ?_
                    simp only [Act.put, List.setIfInBounds_toArray, List.set_cons_zero, List.set_cons_succ]
                    refine wpList_plain rfl fun K hK => ?_
                    refine wp_run_same (v := ?al6_5) ?yl6_5 (hK _ _ ?_)
                    case yl6_5 => go_simp <;> with_reducible rfl
                    clear hK K
                    simp only [Act.put, List.setIfInBounds_toArray, List.set_cons_zero, List.set_cons_succ]
                    refine wpList_plain rfl fun K hK => ?_
                    refine wp_run_skip (w' := w3.setCell ⟨w1.heap.size + 1, 4, none⟩ (.slice oA acc.length oc)) (by go_simp) (hK _ _ ?_)
                    simp only [Act.put]
                    refine wpList_nil ?_
                    have hrel := wh_step (w4 := w3.setCell ⟨w1.heap.size + 1, 4, none⟩ (.slice oA acc.length oc)) HACC.out hqb.2.2.2.2 (by omega) HPL0.out HPL.out HCOL.out HY.out HOWN.out HGE.out HR.out HPB.out HO.out HF.out (by omega) (by omega) (by omega) (HFA.out.mono (by simp)) (by rw [hb0]; simpa [bcells] using own_fr HOWN.out HFA.out (by simp)) HGE.out (own_ne HOWN.out HO.out (by decide)) rfl
                    have HREL := Lib.hid hrel
                    clear hrel hK q0 q1 q2 q3 q4 p0 p1 p3 o4 of4
                    generalize w3.setCell ⟨w1.heap.size + 1, 4, none⟩ (.slice oA acc.length oc) = w8 at *
                    go_wp2
                    exact ⟨HREL.out, by simp [intOf]; omega⟩
                  · obtain ⟨iu, hi, hz', hsz', hby⟩ := info_parts info_u8
                    have hql := hqb.2.2.2.2
                    have hacc := HACC.out
                    refine wpList_plain rfl fun K hK => ?_
                    refine wp_append_fr (.tmp 104) (.tmp 106) rfl 5 1 1 Try.underlying22 hi hz' hsz' hby rfl (by omega) (.slice oA acc.length oc) acc.length (bcells acc) rfl (own_fr HOWN.out HFA.out (by simp)) ⟨g', o' + 16, none⟩ q.b.length (x' - 16) (bcells q.b) rfl (by rw [bcells_len]; omega) (rpiece_news HQ.out (HCS'.out.fr HFA.out (by simp))) (bcells_one _) (by omega) (by unfold maxLen; omega) (by omega) (w2.heap.size + 1) hsz3 fun g7 cap w7 ho7 hf7 hat7 hlt7 => hK _ _ ?_
                    simp only [Act.put, List.setIfInBounds_toArray, List.set_cons_zero, List.set_cons_succ]
                    have n3 := own_ne HOWN.out HO.out (by decide)
                    have hO7 := (HO.out.fr HFA.out (by simp)).fr hf7 (by simpa using n3)
                    have of7 := hO7.free
                    have ol7 := hO7.at_ (i := 4) rfl
                    have hrel := wh_step (w4 := w7.setCell ⟨w1.heap.size + 1, 4, none⟩ (.slice (some ⟨g7, 0, none⟩) (acc.length + q.b.length) cap)) HACC.out hqb.2.2.2.2 (by omega) HPL0.out HPL.out HCOL.out HY.out HOWN.out HGE.out HR.out HPB.out HO.out HF.out (by omega) (by omega) (by omega) (((HFA.out.mono (by simp)).trans hf7 (fun x hx => .inl hx))) ho7
                      (fun y hy => by have h1 : g7 = y := by simpa [Value.ownBlock] using hy
                                      rcases hat7 with h2 | h2
                                      · exact HGE.out y (h1 ▸ h2)
                                      · omega)
                      (fun hy => by have h1 : g7 = w1.heap.size + 1 := by simpa [Value.ownBlock] using hy
                                    rcases hat7 with h2 | h2
                                    · exact n3 (h1 ▸ h2)
                                    · omega) rfl
                    have HREL := Lib.hid hrel
                    clear hrel hf7 ho7 hat7 hlt7 n3 hO7
                    refine wpList_plain rfl fun K hK => ?_
                    refine wp_run_same (v := ?al6_5) ?yl6_5 (hK _ _ ?_)
                    case yl6_5 => go_simp <;> with_reducible rfl
                    clear hK K
                    simp only [Act.put, List.setIfInBounds_toArray, List.set_cons_zero, List.set_cons_succ]
                    refine wpList_plain rfl fun K hK => ?_
                    refine wp_run_skip (w' := w7.setCell ⟨w1.heap.size + 1, 4, none⟩ (.slice (some ⟨g7, 0, none⟩) (acc.length + q.b.length) cap)) (by go_simp) (hK _ _ ?_)
                    simp only [Act.put]
                    refine wpList_nil ?_
                    clear hK q0 q1 q2 q3 q4 p0 p1 p3 o4 of4 of7 ol7 hi hz' hsz' hby
                    generalize w7.setCell ⟨w1.heap.size + 1, 4, none⟩ (.slice (some ⟨g7, 0, none⟩) (acc.length + q.b.length) cap) = w8 at *
                    go_wp2
                    exact ⟨HREL.out, by simp [intOf]; omega⟩
              · have hno := coll_no (st := p.st) HTK.out (fun q' h => by rw [HQ.out] at h; injection h with h; subst h; exact hok)
                have HNO := Lib.hid hno
                clear hno
                by_cases b1 : q.st.session = p.st.session
                · have e1 : ((q.st.session : Int) != (p.st.session : Int)) = false := by rw [b1]; simp
                  by_cases b2 : q.st.number = p.st.number
                  · have e2 : ((q.st.number : Int) != (p.st.number : Int)) = false := by rw [b2]; simp
                    by_cases b3 : q.st.count = p.st.count
                    · have e3 : ((q.st.count : Int) != (p.st.count : Int)) = false := by rw [b3]; simp
                      have hst : q.st = p.st := by
                        cases hq1 : q.st; cases hp1 : p.st
                        rw [hq1, hp1] at b1 b2 b3
                        simp only at b1 b2 b3
                        subst b1 b2 b3
                        rfl
                      by_cases b4 : q.place = j
                      · have e4 : ((q.place : Int) != (j : Int)) = false := by rw [b4]; simp
                        have b5 : j + 1 < p.st.count ∧ q.b.length ≠ 48 := by
                          by_cases h1 : j + 1 < p.st.count
                          · exact ⟨h1, fun h2 => hok ⟨hst, b4, fun _ => h2⟩⟩
                          · exact absurd ⟨hst, b4, fun h => absurd h h1⟩ hok
                        have e5 : (j : Int) + 1 < (p.st.count : Int) := by omega
                        have e6 : ((q.b.length : Int) != 48) = true := by rw [bne_iff_ne]; omega
                        clear hok b1 b2 b3 b4 b5 hst
                        go_upto_region 13 with fail
                        have HZB := Lib.hid (HR.out.fr HFA.out (by simp))
                        have HFZ := Lib.hid (HF.out.trans HFA.out (by simp))
                        refine wp_region_lit ?_
                        refine wpList_plain rfl fun K hK => ?_
                        refine wp_run_same (v := ?al7_0) ?yl7_0 (hK _ _ ?_)
                        case yl7_0 => go_simp <;> with_reducible rfl
                        clear hK K
                        simp only [Act.put, List.setIfInBounds_toArray, List.set_cons_zero, List.set_cons_succ]
                        refine wpList_plain rfl fun K hK => ?_
                        refine wp_store_blk 95 (.tmp 4) (.tmp 102) rfl rnone rfl rfl HZB.out (by kernel_rfl) rfl (by intro u hu; simp only [rnone, List.mem_cons, List.not_mem_nil, or_false] at hu; rcases hu with rfl | rfl | rfl | rfl | rfl <;> rfl) fun w9 hB9 hF9 _ => hK _ _ ?_
                        simp only [Act.put]
                        refine wpList_plain rfl fun K hK => ?_
                        refine wp_run_same (v := ?al7_2) ?yl7_2 (hK _ _ ?_)
                        case yl7_2 => go_simp <;> with_reducible rfl
                        clear hK K
                        simp only [Act.put, List.setIfInBounds_toArray, List.set_cons_zero, List.set_cons_succ]
                        refine wpList_nil ?_
                        have d0 := hB9.at_ (i := 0) rfl
                        have d1 := hB9.at_ (i := 1) rfl
                        have d2 := hB9.at_ (i := 2) rfl
                        have d3 := hB9.at_ (i := 3) rfl
                        have d4 := hB9.at_ (i := 4) rfl
                        have HF9 := Lib.hid (HFZ.out.trans hF9 (fun x hx => .inr (by simp at hx; omega)))
                        clear hB9 hF9 hK
                        go_wp2
                        refine bodyPost_ret (v := .tuple #[.agg rnone.toArray, .int .i64 0]) (by simp [results, Try.results55, go_sem, rnone, d0, d1, d2, d3, d4]) rfl ?_
                        exact wh_no HRC.out HCOL.out HNO.out HF9.out
                      · have e4 : ((q.place : Int) != (j : Int)) = true := by rw [bne_iff_ne]; omega
                        clear hok b1 b2 b3 b4 hst
                        go_upto_region 13 with fail
                        have HZB := Lib.hid (HR.out.fr HFA.out (by simp))
                        have HFZ := Lib.hid (HF.out.trans HFA.out (by simp))
                        refine wp_region_lit ?_
                        refine wpList_plain rfl fun K hK => ?_
                        refine wp_run_same (v := ?al8_0) ?yl8_0 (hK _ _ ?_)
                        case yl8_0 => go_simp <;> with_reducible rfl
                        clear hK K
                        simp only [Act.put, List.setIfInBounds_toArray, List.set_cons_zero, List.set_cons_succ]
                        refine wpList_plain rfl fun K hK => ?_
                        refine wp_store_blk 95 (.tmp 4) (.tmp 102) rfl rnone rfl rfl HZB.out (by kernel_rfl) rfl (by intro u hu; simp only [rnone, List.mem_cons, List.not_mem_nil, or_false] at hu; rcases hu with rfl | rfl | rfl | rfl | rfl <;> rfl) fun w9 hB9 hF9 _ => hK _ _ ?_
                        simp only [Act.put]
                        refine wpList_plain rfl fun K hK => ?_
                        refine wp_run_same (v := ?al8_2) ?yl8_2 (hK _ _ ?_)
                        case yl8_2 => go_simp <;> with_reducible rfl
                        clear hK K
                        simp only [Act.put, List.setIfInBounds_toArray, List.set_cons_zero, List.set_cons_succ]
                        refine wpList_nil ?_
                        have d0 := hB9.at_ (i := 0) rfl
                        have d1 := hB9.at_ (i := 1) rfl
                        have d2 := hB9.at_ (i := 2) rfl
                        have d3 := hB9.at_ (i := 3) rfl
                        have d4 := hB9.at_ (i := 4) rfl
                        have HF9 := Lib.hid (HFZ.out.trans hF9 (fun x hx => .inr (by simp at hx; omega)))
                        clear hB9 hF9 hK
                        go_wp2
                        refine bodyPost_ret (v := .tuple #[.agg rnone.toArray, .int .i64 0]) (by simp [results, Try.results55, go_sem, rnone, d0, d1, d2, d3, d4]) rfl ?_
                        exact wh_no HRC.out HCOL.out HNO.out HF9.out
                    · have e3 : ((q.st.count : Int) != (p.st.count : Int)) = true := by rw [bne_iff_ne]; omega
                      clear hok b1 b2 b3
                      go_upto_region 13 with fail
                      have HZB := Lib.hid (HR.out.fr HFA.out (by simp))
                      have HFZ := Lib.hid (HF.out.trans HFA.out (by simp))
                      refine wp_region_lit ?_
                      refine wpList_plain rfl fun K hK => ?_
                      refine wp_run_same (v := ?al9_0) ?yl9_0 (hK _ _ ?_)
                      case yl9_0 => go_simp <;> with_reducible rfl
                      clear hK K
                      simp only [Act.put, List.setIfInBounds_toArray, List.set_cons_zero, List.set_cons_succ]
                      refine wpList_plain rfl fun K hK => ?_
                      refine wp_store_blk 95 (.tmp 4) (.tmp 102) rfl rnone rfl rfl HZB.out (by kernel_rfl) rfl (by intro u hu; simp only [rnone, List.mem_cons, List.not_mem_nil, or_false] at hu; rcases hu with rfl | rfl | rfl | rfl | rfl <;> rfl) fun w9 hB9 hF9 _ => hK _ _ ?_
                      simp only [Act.put]
                      refine wpList_plain rfl fun K hK => ?_
                      refine wp_run_same (v := ?al9_2) ?yl9_2 (hK _ _ ?_)
                      case yl9_2 => go_simp <;> with_reducible rfl
                      clear hK K
                      simp only [Act.put, List.setIfInBounds_toArray, List.set_cons_zero, List.set_cons_succ]
                      refine wpList_nil ?_
                      have d0 := hB9.at_ (i := 0) rfl
                      have d1 := hB9.at_ (i := 1) rfl
                      have d2 := hB9.at_ (i := 2) rfl
                      have d3 := hB9.at_ (i := 3) rfl
                      have d4 := hB9.at_ (i := 4) rfl
                      have HF9 := Lib.hid (HFZ.out.trans hF9 (fun x hx => .inr (by simp at hx; omega)))
                      clear hB9 hF9 hK
                      go_wp2
                      refine bodyPost_ret (v := .tuple #[.agg rnone.toArray, .int .i64 0]) (by simp [results, Try.results55, go_sem, rnone, d0, d1, d2, d3, d4]) rfl ?_
                      exact wh_no HRC.out HCOL.out HNO.out HF9.out
                  · have e2 : ((q.st.number : Int) != (p.st.number : Int)) = true := by rw [bne_iff_ne]; omega
                    clear hok b1 b2
                    go_upto_region 13 with fail
                    have HZB := Lib.hid (HR.out.fr HFA.out (by simp))
                    have HFZ := Lib.hid (HF.out.trans HFA.out (by simp))
                    refine wp_region_lit ?_
                    refine wpList_plain rfl fun K hK => ?_
                    refine wp_run_same (v := ?al10_0) ?yl10_0 (hK _ _ ?_)
                    case yl10_0 => go_simp <;> with_reducible rfl
                    clear hK K
                    simp only [Act.put, List.setIfInBounds_toArray, List.set_cons_zero, List.set_cons_succ]
                    refine wpList_plain rfl fun K hK => ?_
                    refine wp_store_blk 95 (.tmp 4) (.tmp 102) rfl rnone rfl rfl HZB.out (by kernel_rfl) rfl (by intro u hu; simp only [rnone, List.mem_cons, List.not_mem_nil, or_false] at hu; rcases hu with rfl | rfl | rfl | rfl | rfl <;> rfl) fun w9 hB9 hF9 _ => hK _ _ ?_
                    simp only [Act.put]
                    refine wpList_plain rfl fun K hK => ?_
                    refine wp_run_same (v := ?al10_2) ?yl10_2 (hK _ _ ?_)
                    case yl10_2 => go_simp <;> with_reducible rfl
                    clear hK K
                    simp only [Act.put, List.setIfInBounds_toArray, List.set_cons_zero, List.set_cons_succ]
                    refine wpList_nil ?_
                    have d0 := hB9.at_ (i := 0) rfl
                    have d1 := hB9.at_ (i := 1) rfl
                    have d2 := hB9.at_ (i := 2) rfl
                    have d3 := hB9.at_ (i := 3) rfl
                    have d4 := hB9.at_ (i := 4) rfl
                    have HF9 := Lib.hid (HFZ.out.trans hF9 (fun x hx => .inr (by simp at hx; omega)))
                    clear hB9 hF9 hK
                    go_wp2
                    refine bodyPost_ret (v := .tuple #[.agg rnone.toArray, .int .i64 0]) (by simp [results, Try.results55, go_sem, rnone, d0, d1, d2, d3, d4]) rfl ?_
                    exact wh_no HRC.out HCOL.out HNO.out HF9.out
                · have e1 : ((q.st.session : Int) != (p.st.session : Int)) = true := by rw [bne_iff_ne]; omega
                  clear hok b1
                  go_upto_region 13 with fail
                  have HZB := Lib.hid (HR.out.fr HFA.out (by simp))
                  have HFZ := Lib.hid (HF.out.trans HFA.out (by simp))
                  refine wp_region_lit ?_
                  refine wpList_plain rfl fun K hK => ?_
                  refine wp_run_same (v := ?al11_0) ?yl11_0 (hK _ _ ?_)
                  case yl11_0 => go_simp <;> with_reducible rfl
                  clear hK K
                  simp only [Act.put, List.setIfInBounds_toArray, List.set_cons_zero, List.set_cons_succ]
                  refine wpList_plain rfl fun K hK => ?_
                  refine wp_store_blk 95 (.tmp 4) (.tmp 102) rfl rnone rfl rfl HZB.out (by kernel_rfl) rfl (by intro u hu; simp only [rnone, List.mem_cons, List.not_mem_nil, or_false] at hu; rcases hu with rfl | rfl | rfl | rfl | rfl <;> rfl) fun w9 hB9 hF9 _ => hK _ _ ?_
                  simp only [Act.put]
                  refine wpList_plain rfl fun K hK => ?_
                  refine wp_run_same (v := ?al11_2) ?yl11_2 (hK _ _ ?_)
                  case yl11_2 => go_simp <;> with_reducible rfl
                  clear hK K
                  simp only [Act.put, List.setIfInBounds_toArray, List.set_cons_zero, List.set_cons_succ]
                  refine wpList_nil ?_
                  have d0 := hB9.at_ (i := 0) rfl
                  have d1 := hB9.at_ (i := 1) rfl
                  have d2 := hB9.at_ (i := 2) rfl
                  have d3 := hB9.at_ (i := 3) rfl
                  have d4 := hB9.at_ (i := 4) rfl
                  have HF9 := Lib.hid (HFZ.out.trans hF9 (fun x hx => .inr (by simp at hx; omega)))
                  clear hB9 hF9 hK
                  go_wp2
                  refine bodyPost_ret (v := .tuple #[.agg rnone.toArray, .int .i64 0]) (by simp [results, Try.results55, go_sem, rnone, d0, d1, d2, d3, d4]) rfl ?_
                  exact wh_no HRC.out HCOL.out HNO.out HF9.out
          · have hjj : j = p.st.count := by omega
            have HJJ := Lib.hid hjj
            clear hjj
            have hpl := HPL.out (by omega)
            have HPL' := Lib.hid hpl
            clear hpl
            have n1 := HR.out.lt
            go_wp2_with fail
            refine wp_region_K (fun W => Blk W (w1.heap.size + 1) 95 (rcells p vo) ∧ W.cell? ⟨w1.heap.size, 3, none⟩ = some (.int .i64 (p.st.count : Int))) [0, 1, 2] (by kernel_rfl) ?_
            refine wpAnyK_take (i := 0) (some 109) (.agg (rcells p vo).toArray) rfl rfl (by kernel_rfl) (fun _ _ _ h => h) ⟨HO.out, p3⟩ (yieldsIf_load_mid rfl 95 (.tmp 8) rfl (w1.heap.size + 1) 0 rfl (rcells p vo) _ (fun W hW j v hj => by rw [Nat.zero_add]; exact hW.1.at_ hj) Try.underlying95 rfl (by kernel_rfl)) ?_
            simp only [Act.put, List.setIfInBounds_toArray, List.set_cons_zero, List.set_cons_succ]
            refine wpAnyK_take (i := 1) (some 110) ?vq12_1 rfl rfl (by kernel_rfl) (fun _ _ _ h => h) ⟨HO.out, p3⟩ (.inl ⟨rfl, fun W hW => ?yq12_1⟩) ?_
            case yq12_1 => (obtain ⟨_, c3⟩ := hW; go_simp) <;> with_reducible rfl
            simp only [Act.put, List.setIfInBounds_toArray, List.set_cons_zero, List.set_cons_succ]
            refine wpAnyK_take (i := 2) (some 111) ?vq12_2 rfl rfl (by kernel_rfl) (fun _ _ _ h => h) ⟨HO.out, p3⟩ (.inl ⟨rfl, fun W hW => ?yq12_2⟩) ?_
            case yq12_2 => (obtain ⟨_, c3⟩ := hW; go_simp) <;> with_reducible rfl
            simp only [Act.put, List.setIfInBounds_toArray, List.set_cons_zero, List.set_cons_succ]
            refine wpAnyK_step (j := 3) none rfl rfl (by kernel_rfl) rfl fun K hK => ?_
            refine wp_store_blk 95 (.tmp 4) (.tmp 109) rfl (rcells p vo) rfl rfl (HR.out.drew) (by kernel_rfl) rfl (by intro u hu; obtain ⟨oA, oc, rfl, _, _⟩ := own_shape HOWN.out; simp only [rcells, List.mem_cons, List.not_mem_nil, or_false] at hu; rcases hu with rfl | rfl | rfl | rfl | rfl <;> rfl) fun w9 hB9 hF9 _ => hK _ _ (fun _ => ⟨(HO.out.drew).fr hF9 (by simp; omega), by have h := (HPB.out.drew.fr hF9 (by simp; omega)).at_ (i := 3) rfl; exact h⟩) ?_
            simp only [Act.put]
            refine wpAnyK_step (j := 4) (some 5) rfl rfl (by kernel_rfl) rfl fun K hK => ?_
            refine wp_run_same (v := ?aq12_4) ?yq12_4 (hK _ _ (fun h => absurd h (by decide +kernel)) ?_)
            case yq12_4 => go_simp <;> with_reducible rfl
            simp only [Act.put, List.setIfInBounds_toArray, List.set_cons_zero, List.set_cons_succ]
            refine wpAnyK_done (by kernel_rfl) ?_ _
            have d0 := hB9.at_ (i := 0) rfl
            have d1 := hB9.at_ (i := 1) rfl
            have d2 := hB9.at_ (i := 2) rfl
            have d3 := hB9.at_ (i := 3) rfl
            have d4 := hB9.at_ (i := 4) rfl
            have hF9' : Fr [] wr.drew w9 → True := fun _ => trivial
            have HF9 := Lib.hid (HF.out.drew.trans hF9 (fun x hx => .inr (by simp at hx; omega)))
            have HO9 := Lib.hid (own_fr (HOWN.out) ((Fr.refl [w.heap.size] wr).drew.trans hF9 (fun x hx => .inl hx)) (fun g hg hm => by simp at hm; subst hm; exact own_ne HOWN.out HR.out (by decide) hg))
            clear hB9 hF9 hK hF9' p0 p1 p3
            go_wp2
            refine bodyPost_ret (v := .tuple #[.agg (rcells p vo).toArray, .int .i64 (p.st.count : Int)]) (by simp [results, Try.results55, go_sem, rcells, d0, d1, d2, d3, d4]) rfl ?_
            exact wh_yes HRC.out HCOL.out HJJ.out HCL.out HPL'.out HGE.out HO9.out HF9.out

end Go.Proofs.Ytbgcbikgjedkkaa
