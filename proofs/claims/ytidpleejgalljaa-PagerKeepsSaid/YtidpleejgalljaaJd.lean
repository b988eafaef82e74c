/-
  The contract of journal.record: what is whole at the beginning of sectors.
-/
import Derived.Test.YtidpleejgalljaaJc
namespace Go.Proofs.Ytidpleejgalljaa
open Go.RowKit

/-- Sectors that lie in a row: each in a block of its own. -/
structure SecsAt (w : World) (gl off : Nat) (gs : List Nat) (L : List (List UInt8)) : Prop where
  len : gs.length = L.length
  row : ∀ (j : Nat) (g : Nat), gs[j]? = some g → w.cell? ⟨gl, off + j, none⟩ = some (secV g)
  sec : ∀ (j : Nat) (g : Nat) (s : List UInt8), gs[j]? = some g → L[j]? = some s → SecAt w g s
theorem SecsAt.fr {S : List Nat} {w w' : World} {gl off : Nat} {gs : List Nat} {L : List (List UInt8)} (h : SecsAt w gl off gs L) (hf : Fr S w w') (h1 : gl ∉ S) (h2 : ∀ g ∈ gs, g ∉ S) : SecsAt w' gl off gs L :=
  ⟨h.len, fun j g hg => by have := h.row j g hg; rw [hf.cell (World.block_lt_of_cell? w _ this) h1]; exact this, fun j g s hg hs => (h.sec j g s hg hs).fr hf (h2 g (List.mem_of_getElem? hg))⟩
theorem SecsAt.drop {w : World} {gl off : Nat} {gs : List Nat} {L : List (List UInt8)} (h : SecsAt w gl off gs L) (k : Nat) : SecsAt w gl (off + k) (gs.drop k) (L.drop k) :=
  ⟨by simp [h.len], fun j g hg => by rw [List.getElem?_drop] at hg; rw [Nat.add_assoc]; exact h.row _ g hg, fun j g s hg hs => by rw [List.getElem?_drop] at hg hs; exact h.sec _ g s hg hs⟩
theorem SecsAt.at_ {w : World} {gl off : Nat} {gs : List Nat} {L : List (List UInt8)} (h : SecsAt w gl off gs L) {j : Nat} (hj : j < L.length) : ∃ g s, L[j]? = some s ∧ w.cell? ⟨gl, off + j, none⟩ = some (secV g) ∧ SecAt w g s := by
  have h1 : j < gs.length := by rw [h.len]; exact hj
  exact ⟨gs[j], L[j], List.getElem?_eq_getElem hj, h.row j _ (List.getElem?_eq_getElem h1), h.sec j _ _ (List.getElem?_eq_getElem h1) (List.getElem?_eq_getElem hj)⟩

/-! ### The plain law of the loop -/
theorem coll_no {st : Stamp} {T : List (List UInt8)} {k : Nat} {s : List UInt8} (hs : T[k]? = some s) (h : ∀ q, pieceOf s = some q → ¬ (q.st = st ∧ q.place = k ∧ (k + 1 < st.count → q.b.length = 48))) : collect st k (T.drop k) = none := by
  have hk : k < T.length := (List.getElem?_eq_some_iff.1 hs).1
  rw [List.drop_eq_getElem_cons hk]
  rw [List.getElem?_eq_getElem hk] at hs
  simp only [Option.some.injEq] at hs
  rw [hs]
  unfold collect
  cases hp : pieceOf s with
  | none => rfl
  | some q => simp only [if_neg (h q hp)]
theorem coll_yes {st : Stamp} {T : List (List UInt8)} {k : Nat} {s : List UInt8} {q : Pc} (hs : T[k]? = some s) (hp : pieceOf s = some q) (h : q.st = st ∧ q.place = k ∧ (k + 1 < st.count → q.b.length = 48)) :
    collect st k (T.drop k) = (collect st (k + 1) (T.drop (k + 1))).map (q.b ++ ·) := by
  have hk : k < T.length := (List.getElem?_eq_some_iff.1 hs).1
  rw [List.drop_eq_getElem_cons hk]
  rw [List.getElem?_eq_getElem hk] at hs
  simp only [Option.some.injEq] at hs
  rw [hs]
  conv => lhs; unfold collect
  rw [hp]
  simp only [if_pos h]

def noStamp : Array Value := #[.int .u32 0, .int .u32 0, .int .i64 0]
def stampV (st : Stamp) : Value := .agg #[.int .u32 (st.session : Int), .int .u32 (st.number : Int), .int .i64 (st.count : Int)]
/-- What record answers. -/
def RecAns (w : World) (L : List (List UInt8)) (e : Ending) (w' : World) : Prop :=
  match recordOf L with
  | none => e = .returned (.tuple #[.agg noStamp, .slice none 0 0, .bool false]) ∧ Fr [] w w'
  | some (st, b) => ∃ v g, e = .returned (.tuple #[stampV st, v, .bool true]) ∧ BytesAt w' v b g ∧ w.heap.size ≤ g ∧ Fr [] w w'

theorem recordOf_none {L : List (List UInt8)} {s : List UInt8} (h0 : L[0]? = some s) (h : ∀ p, pieceOf s = some p → p.st.count < 1 ∨ L.length < p.st.count) : recordOf L = none := by
  cases L with
  | nil => cases h0
  | cons x L =>
    simp only [List.getElem?_cons_zero, Option.some.injEq] at h0
    subst h0
    cases hp : pieceOf x with
    | none => simp only [recordOf, hp]
    | some p => simp only [recordOf, hp, if_pos (h p hp)]
theorem recordOf_coll {L : List (List UInt8)} {s : List UInt8} {p : Pc} (h0 : L[0]? = some s) (hp : pieceOf s = some p) (h1 : 1 ≤ p.st.count) (h2 : p.st.count ≤ L.length) : recordOf L = (collect p.st 0 (L.take p.st.count)).map fun b => (p.st, b) := by
  cases L with
  | nil => cases h0
  | cons x L =>
    simp only [List.getElem?_cons_zero, Option.some.injEq] at h0
    subst h0
    simp only [recordOf, hp, if_neg (show ¬ (p.st.count < 1 ∨ (x :: L).length < p.st.count) by omega)]

def pzCells (g : Nat) (p : Pc) : List Value := [.int .u32 (p.st.session : Int), .int .u32 (p.st.number : Int), .int .i64 (p.st.count : Int), .int .i64 (p.place : Int), .slice (some ⟨g, 16, none⟩) p.b.length 48]
def RecRel (w w1 : World) (g0 : Nat) (p : Pc) (L : List (List UInt8)) (out i : Value) (wr : World) : Prop :=
  ∃ (k : Nat) (acc : List UInt8), k ≤ p.st.count ∧ i = .int .i64 k ∧ acc.length ≤ 48 * k ∧ wr.ownsRow 0 5 1 out acc.length (bcells acc) ∧ (∀ x, out.ownBlock = some x → w.heap.size ≤ x) ∧
    collect p.st 0 (L.take p.st.count) = (collect p.st k ((L.take p.st.count).drop k)).map (acc ++ ·) ∧ Blk wr w.heap.size 83 [.int .u32 0, .int .u32 0, .int .i64 0] ∧ Blk wr w1.heap.size 96 (pzCells g0 p) ∧ Fr [] w wr
theorem piece_len {s : List UInt8} {q : Pc} (h : pieceOf s = some q) : q.b.length ≤ 48 := by
  unfold pieceOf at h
  split at h
  · rename_i hh
    cases h
    show ((s.drop 16).take _).length ≤ 48
    rw [List.length_take]
    omega
  · cases h
theorem piece_news {w : World} {g : Nat} {s : List UInt8} {q : Pc} (h : pieceOf s = some q) (hs : SecAt w g s) : ∀ (j : Nat) (u : Value), (bcells q.b)[j]? = some u → w.cell? (Addr.add ⟨g, 16, none⟩ j) = some u := by
  intro j u hu
  unfold pieceOf at h
  split at h
  · cases h
    rw [bcells_at] at hu
    obtain ⟨c, hc, rfl⟩ := Option.map_eq_some_iff.1 hu
    rw [Addr.add_mid]
    exact sub_cells hs 16 _ j c hc
  · cases h
theorem rec_no {w w' : World} {L : List (List UInt8)} {p : Pc} {k : Nat} {acc : List UInt8} (h1 : recordOf L = (collect p.st 0 (L.take p.st.count)).map fun b => (p.st, b)) (h2 : collect p.st 0 (L.take p.st.count) = (collect p.st k ((L.take p.st.count).drop k)).map (acc ++ ·)) (h3 : collect p.st k ((L.take p.st.count).drop k) = none) (hf : Fr [] w w') :
    RecAns w L (.returned (.tuple #[.agg noStamp, .slice none 0 0, .bool false])) w' := by
  unfold RecAns
  rw [h1, h2, h3]
  exact ⟨rfl, hf⟩
theorem bytes_of_own {w : World} {v : Value} {bs : List UInt8} {b : Nat} (h : w.ownsRow 0 5 1 v bs.length (bcells bs)) (hge : ∀ x, v.ownBlock = some x → b ≤ x) : ∃ g, BytesAt w v bs g ∧ b ≤ g := by
  obtain ⟨A, c, rfl, hc, _⟩ := own_shape h
  rcases h.2 with ⟨h1, h0⟩ | ⟨g, cap, cur, hv, _, hh, hnc, hc2, hs, ht⟩
  · injection h1 with a1 a2 a3
    subst a1 a3
    have : bs = [] := List.eq_nil_of_length_eq_zero h0
    subst this
    exact ⟨b, BytesAt.nil _ _, Nat.le_refl _⟩
  · injection hv with a1 a2 a3
    subst a1 a3
    exact ⟨g, BytesAt.of_own h, hge g rfl⟩
theorem rec_yes {w w' : World} {L : List (List UInt8)} {p : Pc} {k : Nat} {acc : List UInt8} {v : Value} (h1 : recordOf L = (collect p.st 0 (L.take p.st.count)).map fun b => (p.st, b)) (h2 : collect p.st 0 (L.take p.st.count) = (collect p.st k ((L.take p.st.count).drop k)).map (acc ++ ·)) (hk : k = p.st.count) (hl : p.st.count ≤ L.length)
    (hge : ∀ x, v.ownBlock = some x → w.heap.size ≤ x) (ho : w'.ownsRow 0 5 1 v acc.length (bcells acc)) (hf : Fr [] w w') : RecAns w L (.returned (.tuple #[stampV p.st, v, .bool true])) w' := by
  have e : (L.take p.st.count).drop k = [] := List.drop_eq_nil_of_le (by rw [List.length_take]; omega)
  have hr : recordOf L = some (p.st, acc) := by rw [h1, h2, e]; simp [collect]
  obtain ⟨g, hb, hg⟩ := bytes_of_own ho hge
  unfold RecAns
  rw [hr]
  exact ⟨v, g, rfl, hb, hg, hf⟩
theorem rec_step0 {w w1 wr w2 : World} {g0 : Nat} {p q : Pc} {L : List (List UInt8)} {A : Option Addr} {co k : Nat} {acc : List UInt8} (hacc : acc.length ≤ 48 * k) (hge : ∀ x, (Value.slice A acc.length co).ownBlock = some x → w.heap.size ≤ x) (hf : Fr [] w wr) (hf2 : Fr [] wr w2)
    (hR : Blk wr w.heap.size 83 [.int .u32 0, .int .u32 0, .int .i64 0]) (hP : Blk wr w1.heap.size 96 (pzCells g0 p)) (hown : wr.ownsRow 0 5 1 (.slice A acc.length co) acc.length (bcells acc))
    (hC : collect p.st 0 (L.take p.st.count) = (collect p.st k ((L.take p.st.count).drop k)).map (acc ++ ·)) (hY : collect p.st k ((L.take p.st.count).drop k) = (collect p.st (k + 1) ((L.take p.st.count).drop (k + 1))).map (q.b ++ ·)) (eb : q.b = []) (hk : k + 1 ≤ p.st.count) (X : Obj) :
    RecRel w w1 g0 p L (.slice A acc.length co) (.int .i64 ((k : Int) + 1)) (w2.alloc X) := by
  refine ⟨k + 1, acc, hk, rfl, by omega, own_fr hown (hf2.alloc _) (by simp), hge, ?_, (hR.fr hf2 (by simp)).alloc _, (hP.fr hf2 (by simp)).alloc _, (hf.trans hf2 (by simp)).alloc _⟩
  rw [hC, hY, eb]
  simp
theorem rec_step {w w1 wr w2 w3 : World} {g0 : Nat} {p q : Pc} {L : List (List UInt8)} {A : Option Addr} {co k g cap : Nat} {acc : List UInt8} (hacc : acc.length ≤ 48 * k) (hge : ∀ x, (Value.slice A acc.length co).ownBlock = some x → w.heap.size ≤ x) (hf : Fr [] w wr) (hf2 : Fr [] wr w2)
    (hR : Blk wr w.heap.size 83 [.int .u32 0, .int .u32 0, .int .i64 0]) (hP : Blk wr w1.heap.size 96 (pzCells g0 p)) (hown : wr.ownsRow 0 5 1 (.slice A acc.length co) acc.length (bcells acc))
    (hC : collect p.st 0 (L.take p.st.count) = (collect p.st k ((L.take p.st.count).drop k)).map (acc ++ ·)) (hY : collect p.st k ((L.take p.st.count).drop k) = (collect p.st (k + 1) ((L.take p.st.count).drop (k + 1))).map (q.b ++ ·)) (hql : q.b.length ≤ 48) (hk : k + 1 ≤ p.st.count) (X : Obj)
    (hO3 : w3.ownsRow 0 5 1 (.slice (some ⟨g, 0, none⟩) (acc.length + q.b.length) cap) (acc.length + q.b.length) (bcells acc ++ bcells q.b)) (hG3 : (w2.alloc X).grownBy w3 (Value.slice A acc.length co).ownBlock) (hat : (Value.slice A acc.length co).ownBlock = some g ∨ g = w2.heap.size + 1) :
    RecRel w w1 g0 p L (.slice (some ⟨g, 0, none⟩) (acc.length + q.b.length) cap) (.int .i64 ((k : Int) + 1)) w3 := by
  have hs1 := hf.size; have hs2 := hf2.size
  have hsz : (w2.alloc X).heap.size = w2.heap.size + 1 := by simp
  have hge3 : w.heap.size ≤ g := by
    rcases hat with h | h
    · exact hge g h
    · omega
  refine ⟨k + 1, acc ++ q.b, hk, rfl, by rw [List.length_append]; omega, by rw [List.length_append, bcells_append]; exact hO3, by simpa [Value.ownBlock] using hge3, ?_, ((hR.fr hf2 (by simp)).alloc _).grown hG3 (fun e => own_ne hown hR (by decide) e.symm), ((hP.fr hf2 (by simp)).alloc _).grown hG3 (fun e => own_ne hown hP (by decide) e.symm), ((hf.trans hf2 (by simp)).alloc _).grown hG3 (fun g' hg' => .inr (hge g' hg'))⟩
  rw [hC, hY]
  simp [Option.map_map, Function.comp_def]

set_option maxRecDepth 100000 in
set_option maxHeartbeats 6000000 in
theorem record_any {w : World} {gl off c : Nat} {gs : List Nat} {L : List (List UInt8)} {A : Option Addr} (h : SecsAt w gl off gs L) (hA : 0 < L.length → A = some ⟨gl, off, none⟩) (hc : L.length ≤ c) (hm : L.length ≤ 65536) :
    Calls Try.prog 38 #[.slice A L.length c] w (RecAns w L) := by
  by_cases h0 : L.length = 0
  · have e : L = [] := List.eq_nil_of_length_eq_zero h0
    subst e
    clear hA h hc hm
    go_enter Try.func38, Try.ntmps38
    go_wp2
    refine bodyPost_ret (v := .tuple #[.agg noStamp, .slice none 0 0, .bool false]) (by simp [results, Try.results38, go_sem, noStamp]) rfl ?_
    exact ⟨rfl, (Fr.refl [] w).alloc _⟩
  · obtain rfl := hA (by omega)
    obtain ⟨g0, s0, hs0, hc0, hsec0⟩ := h.at_ (j := 0) (by omega)
    rw [Nat.add_zero] at hc0
    have HS := Lib.hid h; have HSEC := Lib.hid hsec0; have HS0 := Lib.hid hs0
    clear h hsec0 hs0
    have hlt := World.block_lt_of_cell? w _ hc0
    unfold secV at hc0
    go_enter Try.func38, Try.ntmps38
    go_wp2_with fail
    refine (piece_any (HSEC.out.fr ((Fr.refl [] w).alloc _) (by simp))).mono ?_
    rintro e w1 ⟨rfl, hf1⟩
    have hb1 : Blk w1 w.heap.size 83 [.int .u32 0, .int .u32 0, .int .i64 0] := (Blk.new w _ _).fr hf1 (by simp)
    have r0 := hb1.at_ (i := 0) rfl
    have r1 := hb1.at_ (i := 1) rfl
    have r2 := hb1.at_ (i := 2) rfl
    have rf := hb1.free
    have rl := hb1.lt
    have hfw : Fr [] w w1 := ((Fr.refl [] w).alloc _).trans hf1 (by simp)
    have HFW := Lib.hid hfw; have HB1 := Lib.hid hb1
    clear hfw hb1 hf1
    unfold pieceV
    cases hp : pieceOf s0 with
    | none =>
      simp only [noAgg]
      go_wp2
      have hbF := (((HB1.out.set_ 0 (.int .u32 0)).set_ 1 (.int .u32 0)).set_ 2 (.int .i64 0)).alloc (.cells #[.int .u32 0, .int .u32 0, .int .i64 0, .int .i64 0, .slice none 0 0] 96)
      have hfF := Lib.hid ((((HFW.out.setCell (p := ⟨w.heap.size, 0, none⟩) (.inr (Nat.le_refl _)) (.int .u32 0)).setCell (p := ⟨w.heap.size, 1, none⟩) (.inr (Nat.le_refl _)) (.int .u32 0)).setCell (p := ⟨w.heap.size, 2, none⟩) (.inr (Nat.le_refl _)) (.int .i64 0)).alloc (.cells #[.int .u32 0, .int .u32 0, .int .i64 0, .int .i64 0, .slice none 0 0] 96))
      have d0 := hbF.at_ (i := 0) rfl
      have d1 := hbF.at_ (i := 1) rfl
      have d2 := hbF.at_ (i := 2) rfl
      clear hbF
      revert hfF d0 d1 d2
      generalize (World.alloc (World.setCell (World.setCell (World.setCell w1 _ _) _ _) _ _) _) = wf
      intro hfF d0 d1 d2
      refine bodyPost_ret (v := .tuple #[.agg noStamp, .slice none 0 0, .bool false]) (by simp [results, Try.results38, go_sem, noStamp, d0, d1, d2]) rfl ?_
      unfold RecAns
      rw [recordOf_none HS0.out (fun p h => by rw [hp] at h; cases h)]
      exact ⟨rfl, hfF.out⟩
    | some p =>
      simp only [pcAgg]
      by_cases hcnt : p.st.count < 1 ∨ L.length < p.st.count
      · have hrec : ∀ q, pieceOf s0 = some q → q.st.count < 1 ∨ L.length < q.st.count := fun q h => by rw [hp] at h; cases h; exact hcnt
        have HREC := Lib.hid hrec; clear hrec
        by_cases h1 : p.st.count < 1
        · clear hcnt
          go_wp2
          have hbF := (((HB1.out.set_ 0 (.int .u32 0)).set_ 1 (.int .u32 0)).set_ 2 (.int .i64 0)).alloc (.cells #[.int .u32 (p.st.session : Int), .int .u32 (p.st.number : Int), .int .i64 (p.st.count : Int), .int .i64 (p.place : Int), .slice (some ⟨g0, 16, none⟩) p.b.length 48] 96)
          have hfF := Lib.hid ((((HFW.out.setCell (p := ⟨w.heap.size, 0, none⟩) (.inr (Nat.le_refl _)) (.int .u32 0)).setCell (p := ⟨w.heap.size, 1, none⟩) (.inr (Nat.le_refl _)) (.int .u32 0)).setCell (p := ⟨w.heap.size, 2, none⟩) (.inr (Nat.le_refl _)) (.int .i64 0)).alloc (.cells #[.int .u32 (p.st.session : Int), .int .u32 (p.st.number : Int), .int .i64 (p.st.count : Int), .int .i64 (p.place : Int), .slice (some ⟨g0, 16, none⟩) p.b.length 48] 96))
          have d0 := hbF.at_ (i := 0) rfl
          have d1 := hbF.at_ (i := 1) rfl
          have d2 := hbF.at_ (i := 2) rfl
          clear hbF
          revert hfF d0 d1 d2
          generalize (World.alloc (World.setCell (World.setCell (World.setCell w1 _ _) _ _) _ _) _) = wf
          intro hfF d0 d1 d2
          refine bodyPost_ret (v := .tuple #[.agg noStamp, .slice none 0 0, .bool false]) (by simp [results, Try.results38, go_sem, noStamp, d0, d1, d2]) rfl ?_
          unfold RecAns
          rw [recordOf_none HS0.out (HREC.out)]
          exact ⟨rfl, hfF.out⟩
        · have h2 : L.length < p.st.count := by omega
          clear hcnt
          go_wp2
          have hbF := (((HB1.out.set_ 0 (.int .u32 0)).set_ 1 (.int .u32 0)).set_ 2 (.int .i64 0)).alloc (.cells #[.int .u32 (p.st.session : Int), .int .u32 (p.st.number : Int), .int .i64 (p.st.count : Int), .int .i64 (p.place : Int), .slice (some ⟨g0, 16, none⟩) p.b.length 48] 96)
          have hfF := Lib.hid ((((HFW.out.setCell (p := ⟨w.heap.size, 0, none⟩) (.inr (Nat.le_refl _)) (.int .u32 0)).setCell (p := ⟨w.heap.size, 1, none⟩) (.inr (Nat.le_refl _)) (.int .u32 0)).setCell (p := ⟨w.heap.size, 2, none⟩) (.inr (Nat.le_refl _)) (.int .i64 0)).alloc (.cells #[.int .u32 (p.st.session : Int), .int .u32 (p.st.number : Int), .int .i64 (p.st.count : Int), .int .i64 (p.place : Int), .slice (some ⟨g0, 16, none⟩) p.b.length 48] 96))
          have d0 := hbF.at_ (i := 0) rfl
          have d1 := hbF.at_ (i := 1) rfl
          have d2 := hbF.at_ (i := 2) rfl
          clear hbF
          revert hfF d0 d1 d2
          generalize (World.alloc (World.setCell (World.setCell (World.setCell w1 _ _) _ _) _ _) _) = wf
          intro hfF d0 d1 d2
          refine bodyPost_ret (v := .tuple #[.agg noStamp, .slice none 0 0, .bool false]) (by simp [results, Try.results38, go_sem, noStamp, d0, d1, d2]) rfl ?_
          unfold RecAns
          rw [recordOf_none HS0.out (HREC.out)]
          exact ⟨rfl, hfF.out⟩
      · have h1 : 1 ≤ p.st.count := by omega
        have h2 : p.st.count ≤ L.length := by omega
        have h2' : (p.st.count : Int) ≤ (L.length : Int) := by omega
        clear hcnt
        have HCOL := Lib.hid (recordOf_coll HS0.out hp h1 h2)
        have hd1 : decide ((p.st.count : Int) < 1) = false := by simp; omega
        have hd2 : decide (L.length < p.st.count) = false := by simp; omega
        have HD1 := Lib.hid hd1; have HD2 := Lib.hid hd2
        clear hd1 hd2
        go_wp2
        go_loopw [8, 48] (RecRel w w1 g0 p L) (fun _ i _ => p.st.count - (intOf i).toNat)
        case atStart =>
          refine ⟨0, [], Nat.zero_le _, rfl, by simp, own_nil _ _ _ _, by simp [Value.ownBlock], by simp, HB1.out.alloc _, Blk.new _ _ _, HFW.out.alloc _⟩
        case round =>
          have HH2 := Lib.hid h2
          clear h2 h2'
          obtain ⟨k, acc, hk, rfl, hacc, hown, hge, hcol, hb1, hb2, hf⟩ := hrel
          have p0 := hb2.at_ (i := 0) rfl
          have p1 := hb2.at_ (i := 1) rfl
          have p2 := hb2.at_ (i := 2) rfl
          have HACC := Lib.hid hacc; have HOWN := Lib.hid hown; have HGE := Lib.hid hge; have HC := Lib.hid hcol; have HR := Lib.hid hb1; have HP := Lib.hid hb2; have HF := Lib.hid hf
          clear hacc hown hge hcol hb1 hb2 hf
          obtain ⟨A, co, rfl, hno, _⟩ := own_shape HOWN.out
          obtain ⟨iu, hi, hz, hsz, hby⟩ := info_parts info_u8
          have HI := Lib.hid hi; have HZ := Lib.hid hz; have HSZ := Lib.hid hsz; have HBY := Lib.hid hby
          clear hi hz hsz hby
          by_cases hkc : k < p.st.count
          · obtain ⟨gk, sk, hsk, hck, hseck⟩ := (HS.out.fr HF.out (by simp) (by simp)).at_ (j := k) (by have := HH2.out; omega)
            have HSK := Lib.hid hsk; have HSECK := Lib.hid hseck
            clear hsk hseck
            unfold secV at hck
            go_wp2_with fail
            refine (piece_any HSECK.out).mono ?_
            rintro e w2 ⟨rfl, hf2⟩
            have q0 := (HP.out.fr hf2 (by simp)).at_ (i := 0) rfl
            have q1 := (HP.out.fr hf2 (by simp)).at_ (i := 1) rfl
            have q2 := (HP.out.fr hf2 (by simp)).at_ (i := 2) rfl
            have l2 := (HP.out.fr hf2 (by simp)).lt
            have r0 := (HR.out.fr hf2 (by simp)).at_ (i := 0) rfl
            have r1 := (HR.out.fr hf2 (by simp)).at_ (i := 1) rfl
            have r2 := (HR.out.fr hf2 (by simp)).at_ (i := 2) rfl
            have rf := (HR.out.fr hf2 (by simp)).free
            have rl := (HR.out.fr hf2 (by simp)).lt
            have HF2 := Lib.hid hf2; clear hf2
            have HTK := Lib.hid (show (L.take p.st.count)[k]? = some sk by rw [List.getElem?_take, if_pos hkc]; exact HSK.out)
            unfold pieceV
            cases hq : pieceOf sk with
            | none =>
              have HNO := Lib.hid (coll_no (st := p.st) HTK.out (fun x hx => by rw [hq] at hx; cases hx))
              simp only [noAgg]
              go_wp2
              have hbF := ((((HR.out.fr HF2.out (by simp)).set_ 0 (.int .u32 0)).set_ 1 (.int .u32 0)).set_ 2 (.int .i64 0)).alloc (.cells #[.int .u32 0, .int .u32 0, .int .i64 0, .int .i64 0, .slice none 0 0] 96)
              have hfF := Lib.hid (((((HF.out.trans HF2.out (by simp)).setCell (p := ⟨w.heap.size, 0, none⟩) (.inr (Nat.le_refl _)) (.int .u32 0)).setCell (p := ⟨w.heap.size, 1, none⟩) (.inr (Nat.le_refl _)) (.int .u32 0)).setCell (p := ⟨w.heap.size, 2, none⟩) (.inr (Nat.le_refl _)) (.int .i64 0)).alloc (.cells #[.int .u32 0, .int .u32 0, .int .i64 0, .int .i64 0, .slice none 0 0] 96))
              have d0 := hbF.at_ (i := 0) rfl
              have d1 := hbF.at_ (i := 1) rfl
              have d2 := hbF.at_ (i := 2) rfl
              clear hbF
              revert hfF d0 d1 d2
              generalize (World.alloc (World.setCell (World.setCell (World.setCell w2 _ _) _ _) _ _) _) = wf
              intro hfF d0 d1 d2
              refine bodyPost_ret (v := .tuple #[.agg noStamp, .slice none 0 0, .bool false]) (by simp [results, Try.results38, go_sem, noStamp, d0, d1, d2]) rfl ?_
              exact rec_no HCOL.out HC.out (HNO.out) hfF.out
            | some q =>
              simp only [pcAgg]
              have hql := piece_len hq
              have HNW := Lib.hid (fun X => piece_news hq ((HSECK.out.fr HF2.out (by simp)).fr ((Fr.refl [] w2).alloc X) (by simp)))
              by_cases e1 : q.st.session = p.st.session
              · by_cases e2 : q.st.number = p.st.number
                · by_cases e3 : q.st.count = p.st.count
                  · have est : q.st = p.st := by
                      cases hqs : q.st; cases hps : p.st
                      rw [hqs, hps] at e1 e2 e3
                      simp only at e1 e2 e3
                      rw [e1, e2, e3]
                    by_cases e4 : q.place = k
                    · by_cases e5 : k + 1 < p.st.count
                      · have e5' : (k : Int) + 1 < (p.st.count : Int) := by omega
                        by_cases e6 : q.b.length = 48
                        · have e6' : ((q.b.length : Int) != 48) = false := by rw [bne_eq_false_iff_eq]; omega
                          have HY := Lib.hid (coll_yes (st := p.st) HTK.out hq ⟨est, e4, fun _ => e6⟩)
                          have hz : 0 < q.b.length := by omega
                          clear e6 est
                          go_wp2_with (refine wpList_append_lies _ rfl (.tmp 89) (.tmp 91) 35 rfl 0 5 iu (.int .u8 0) 1 1 Try.underlying35 HI.out HZ.out HSZ.out HBY.out rfl (by omega) (.slice A acc.length co) acc.length (bcells acc) rfl (own_fr HOWN.out (HF2.out.alloc _) (by simp)) ⟨gk, 16, none⟩ q.b.length 48 (bcells q.b) rfl (by rw [bcells_len, Nat.mul_one]) (HNW.out _) (bcells_one _) hz (by have := HACC.out; unfold maxLen; omega) (by have := HACC.out; omega) (Nat.zero_le _) _ rfl ?_)
                          intro g cap w3 hown3 hg3 hat3 hlt3
                          have HO3 := Lib.hid hown3; have HG3 := Lib.hid hg3; have HAT3 := Lib.hid hat3
                          clear hown3 hg3 hat3
                          go_wp2
                          go_roundw
                          case rel =>
                            have hst := rec_step (w1 := w1) (g0 := g0) HACC.out HGE.out HF.out HF2.out HR.out HP.out HOWN.out HC.out HY.out hql (by omega) _ HO3.out HG3.out HAT3.out
                            repeat apply Exists.intro
                            refine ⟨hst, ?_⟩
                            simp only [HD2.out, Bool.or_false]
                            repeat' (first | rfl | apply And.intro)
                          case measure => simp [intOf]; omega
                        · have e6' : ((q.b.length : Int) != 48) = true := by rw [bne_iff_ne]; omega
                          have HNO := Lib.hid (coll_no (st := p.st) HTK.out (fun x hx => by rw [hq] at hx; cases hx; rintro ⟨a1, a2, a3⟩; exact e6 (a3 e5)))
                          clear est
                          go_wp2
                          have hbF := ((((HR.out.fr HF2.out (by simp)).set_ 0 (.int .u32 0)).set_ 1 (.int .u32 0)).set_ 2 (.int .i64 0)).alloc (.cells #[.int .u32 (p.st.session : Int), .int .u32 (p.st.number : Int), .int .i64 (p.st.count : Int), .int .i64 (k : Int), .slice (some ⟨gk, 16, none⟩) q.b.length 48] 96)
                          have hfF := Lib.hid (((((HF.out.trans HF2.out (by simp)).setCell (p := ⟨w.heap.size, 0, none⟩) (.inr (Nat.le_refl _)) (.int .u32 0)).setCell (p := ⟨w.heap.size, 1, none⟩) (.inr (Nat.le_refl _)) (.int .u32 0)).setCell (p := ⟨w.heap.size, 2, none⟩) (.inr (Nat.le_refl _)) (.int .i64 0)).alloc (.cells #[.int .u32 (p.st.session : Int), .int .u32 (p.st.number : Int), .int .i64 (p.st.count : Int), .int .i64 (k : Int), .slice (some ⟨gk, 16, none⟩) q.b.length 48] 96))
                          have d0 := hbF.at_ (i := 0) rfl
                          have d1 := hbF.at_ (i := 1) rfl
                          have d2 := hbF.at_ (i := 2) rfl
                          clear hbF
                          revert hfF d0 d1 d2
                          generalize (World.alloc (World.setCell (World.setCell (World.setCell w2 _ _) _ _) _ _) _) = wf
                          intro hfF d0 d1 d2
                          refine bodyPost_ret (v := .tuple #[.agg noStamp, .slice none 0 0, .bool false]) (by simp [results, Try.results38, go_sem, noStamp, d0, d1, d2]) rfl ?_
                          exact rec_no HCOL.out HC.out (HNO.out) hfF.out
                      · have e5' : ¬ (k : Int) + 1 < (p.st.count : Int) := by omega
                        have HY := Lib.hid (coll_yes (st := p.st) HTK.out hq ⟨est, e4, fun h => absurd h e5⟩)
                        clear est
                        rcases Nat.eq_zero_or_pos q.b.length with hz | hz
                        · go_wp2_with (refine wpList_append_none rfl (.tmp 89) (.tmp 91) 35 35 rfl 5 5 Try.underlying35 Try.underlying35 (by kernel_rfl) A (some ⟨gk, 16, none⟩) acc.length co 48 rfl rfl hno ?_)
                          go_wp2
                          go_roundw
                          case rel =>
                            have eb : q.b = [] := List.eq_nil_of_length_eq_zero hz
                            have hst := rec_step0 (w1 := w1) (g0 := g0) HACC.out HGE.out HF.out HF2.out HR.out HP.out HOWN.out HC.out HY.out eb (by omega)
                            repeat apply Exists.intro
                            refine ⟨hst _, ?_⟩
                            repeat' (first | rfl | apply And.intro)
                          case measure => simp [intOf]; omega
                        · go_wp2_with (refine wpList_append_lies _ rfl (.tmp 89) (.tmp 91) 35 rfl 0 5 iu (.int .u8 0) 1 1 Try.underlying35 HI.out HZ.out HSZ.out HBY.out rfl (by omega) (.slice A acc.length co) acc.length (bcells acc) rfl (own_fr HOWN.out (HF2.out.alloc _) (by simp)) ⟨gk, 16, none⟩ q.b.length 48 (bcells q.b) rfl (by rw [bcells_len, Nat.mul_one]) (HNW.out _) (bcells_one _) hz (by have := HACC.out; unfold maxLen; omega) (by have := HACC.out; omega) (Nat.zero_le _) _ rfl ?_)
                          intro g cap w3 hown3 hg3 hat3 hlt3
                          have HO3 := Lib.hid hown3; have HG3 := Lib.hid hg3; have HAT3 := Lib.hid hat3
                          clear hown3 hg3 hat3
                          go_wp2
                          go_roundw
                          case rel =>
                            have hst := rec_step (w1 := w1) (g0 := g0) HACC.out HGE.out HF.out HF2.out HR.out HP.out HOWN.out HC.out HY.out hql (by omega) _ HO3.out HG3.out HAT3.out
                            repeat apply Exists.intro
                            refine ⟨hst, ?_⟩
                            simp only [HD2.out, Bool.or_false]
                            repeat' (first | rfl | apply And.intro)
                          case measure => simp [intOf]; omega
                    · have HNO := Lib.hid (coll_no (st := p.st) HTK.out (fun x hx => by rw [hq] at hx; cases hx; rintro ⟨a1, a2, a3⟩; exact e4 a2))
                      go_wp2
                      have hbF := ((((HR.out.fr HF2.out (by simp)).set_ 0 (.int .u32 0)).set_ 1 (.int .u32 0)).set_ 2 (.int .i64 0)).alloc (.cells #[.int .u32 (p.st.session : Int), .int .u32 (p.st.number : Int), .int .i64 (p.st.count : Int), .int .i64 (q.place : Int), .slice (some ⟨gk, 16, none⟩) q.b.length 48] 96)
                      have hfF := Lib.hid (((((HF.out.trans HF2.out (by simp)).setCell (p := ⟨w.heap.size, 0, none⟩) (.inr (Nat.le_refl _)) (.int .u32 0)).setCell (p := ⟨w.heap.size, 1, none⟩) (.inr (Nat.le_refl _)) (.int .u32 0)).setCell (p := ⟨w.heap.size, 2, none⟩) (.inr (Nat.le_refl _)) (.int .i64 0)).alloc (.cells #[.int .u32 (p.st.session : Int), .int .u32 (p.st.number : Int), .int .i64 (p.st.count : Int), .int .i64 (q.place : Int), .slice (some ⟨gk, 16, none⟩) q.b.length 48] 96))
                      have d0 := hbF.at_ (i := 0) rfl
                      have d1 := hbF.at_ (i := 1) rfl
                      have d2 := hbF.at_ (i := 2) rfl
                      clear hbF
                      revert hfF d0 d1 d2
                      generalize (World.alloc (World.setCell (World.setCell (World.setCell w2 _ _) _ _) _ _) _) = wf
                      intro hfF d0 d1 d2
                      refine bodyPost_ret (v := .tuple #[.agg noStamp, .slice none 0 0, .bool false]) (by simp [results, Try.results38, go_sem, noStamp, d0, d1, d2]) rfl ?_
                      exact rec_no HCOL.out HC.out (HNO.out) hfF.out
                  · have HNO := Lib.hid (coll_no (st := p.st) HTK.out (fun x hx => by rw [hq] at hx; cases hx; rintro ⟨a1, a2, a3⟩; exact e3 (by rw [a1])))
                    go_wp2
                    have hbF := ((((HR.out.fr HF2.out (by simp)).set_ 0 (.int .u32 0)).set_ 1 (.int .u32 0)).set_ 2 (.int .i64 0)).alloc (.cells #[.int .u32 (p.st.session : Int), .int .u32 (p.st.number : Int), .int .i64 (q.st.count : Int), .int .i64 (q.place : Int), .slice (some ⟨gk, 16, none⟩) q.b.length 48] 96)
                    have hfF := Lib.hid (((((HF.out.trans HF2.out (by simp)).setCell (p := ⟨w.heap.size, 0, none⟩) (.inr (Nat.le_refl _)) (.int .u32 0)).setCell (p := ⟨w.heap.size, 1, none⟩) (.inr (Nat.le_refl _)) (.int .u32 0)).setCell (p := ⟨w.heap.size, 2, none⟩) (.inr (Nat.le_refl _)) (.int .i64 0)).alloc (.cells #[.int .u32 (p.st.session : Int), .int .u32 (p.st.number : Int), .int .i64 (q.st.count : Int), .int .i64 (q.place : Int), .slice (some ⟨gk, 16, none⟩) q.b.length 48] 96))
                    have d0 := hbF.at_ (i := 0) rfl
                    have d1 := hbF.at_ (i := 1) rfl
                    have d2 := hbF.at_ (i := 2) rfl
                    clear hbF
                    revert hfF d0 d1 d2
                    generalize (World.alloc (World.setCell (World.setCell (World.setCell w2 _ _) _ _) _ _) _) = wf
                    intro hfF d0 d1 d2
                    refine bodyPost_ret (v := .tuple #[.agg noStamp, .slice none 0 0, .bool false]) (by simp [results, Try.results38, go_sem, noStamp, d0, d1, d2]) rfl ?_
                    exact rec_no HCOL.out HC.out (HNO.out) hfF.out
                · have HNO := Lib.hid (coll_no (st := p.st) HTK.out (fun x hx => by rw [hq] at hx; cases hx; rintro ⟨a1, a2, a3⟩; exact e2 (by rw [a1])))
                  go_wp2
                  have hbF := ((((HR.out.fr HF2.out (by simp)).set_ 0 (.int .u32 0)).set_ 1 (.int .u32 0)).set_ 2 (.int .i64 0)).alloc (.cells #[.int .u32 (p.st.session : Int), .int .u32 (q.st.number : Int), .int .i64 (q.st.count : Int), .int .i64 (q.place : Int), .slice (some ⟨gk, 16, none⟩) q.b.length 48] 96)
                  have hfF := Lib.hid (((((HF.out.trans HF2.out (by simp)).setCell (p := ⟨w.heap.size, 0, none⟩) (.inr (Nat.le_refl _)) (.int .u32 0)).setCell (p := ⟨w.heap.size, 1, none⟩) (.inr (Nat.le_refl _)) (.int .u32 0)).setCell (p := ⟨w.heap.size, 2, none⟩) (.inr (Nat.le_refl _)) (.int .i64 0)).alloc (.cells #[.int .u32 (p.st.session : Int), .int .u32 (q.st.number : Int), .int .i64 (q.st.count : Int), .int .i64 (q.place : Int), .slice (some ⟨gk, 16, none⟩) q.b.length 48] 96))
                  have d0 := hbF.at_ (i := 0) rfl
                  have d1 := hbF.at_ (i := 1) rfl
                  have d2 := hbF.at_ (i := 2) rfl
                  clear hbF
                  revert hfF d0 d1 d2
                  generalize (World.alloc (World.setCell (World.setCell (World.setCell w2 _ _) _ _) _ _) _) = wf
                  intro hfF d0 d1 d2
                  refine bodyPost_ret (v := .tuple #[.agg noStamp, .slice none 0 0, .bool false]) (by simp [results, Try.results38, go_sem, noStamp, d0, d1, d2]) rfl ?_
                  exact rec_no HCOL.out HC.out (HNO.out) hfF.out
              · have HNO := Lib.hid (coll_no (st := p.st) HTK.out (fun x hx => by rw [hq] at hx; cases hx; rintro ⟨a1, a2, a3⟩; exact e1 (by rw [a1])))
                go_wp2
                have hbF := ((((HR.out.fr HF2.out (by simp)).set_ 0 (.int .u32 0)).set_ 1 (.int .u32 0)).set_ 2 (.int .i64 0)).alloc (.cells #[.int .u32 (q.st.session : Int), .int .u32 (q.st.number : Int), .int .i64 (q.st.count : Int), .int .i64 (q.place : Int), .slice (some ⟨gk, 16, none⟩) q.b.length 48] 96)
                have hfF := Lib.hid (((((HF.out.trans HF2.out (by simp)).setCell (p := ⟨w.heap.size, 0, none⟩) (.inr (Nat.le_refl _)) (.int .u32 0)).setCell (p := ⟨w.heap.size, 1, none⟩) (.inr (Nat.le_refl _)) (.int .u32 0)).setCell (p := ⟨w.heap.size, 2, none⟩) (.inr (Nat.le_refl _)) (.int .i64 0)).alloc (.cells #[.int .u32 (q.st.session : Int), .int .u32 (q.st.number : Int), .int .i64 (q.st.count : Int), .int .i64 (q.place : Int), .slice (some ⟨gk, 16, none⟩) q.b.length 48] 96))
                have d0 := hbF.at_ (i := 0) rfl
                have d1 := hbF.at_ (i := 1) rfl
                have d2 := hbF.at_ (i := 2) rfl
                clear hbF
                revert hfF d0 d1 d2
                generalize (World.alloc (World.setCell (World.setCell (World.setCell w2 _ _) _ _) _ _) _) = wf
                intro hfF d0 d1 d2
                refine bodyPost_ret (v := .tuple #[.agg noStamp, .slice none 0 0, .bool false]) (by simp [results, Try.results38, go_sem, noStamp, d0, d1, d2]) rfl ?_
                exact rec_no HCOL.out HC.out (HNO.out) hfF.out
          · have hkk : k = p.st.count := by omega
            have r0 := HR.out.at_ (i := 0) rfl
            have r1 := HR.out.at_ (i := 1) rfl
            have r2 := HR.out.at_ (i := 2) rfl
            have rf := HR.out.free
            clear hkc
            have HKK := Lib.hid hkk
            have hkc : ¬ (k : Int) < (p.st.count : Int) := by omega
            clear hkk
            go_wp2
            have hbF := ((HR.out.set_ 0 (.int .u32 (p.st.session : Int))).set_ 1 (.int .u32 (p.st.number : Int))).set_ 2 (.int .i64 (p.st.count : Int))
            have hfF := Lib.hid (((HF.out.setCell (p := ⟨w.heap.size, 0, none⟩) (.inr (Nat.le_refl _)) (.int .u32 (p.st.session : Int))).setCell (p := ⟨w.heap.size, 1, none⟩) (.inr (Nat.le_refl _)) (.int .u32 (p.st.number : Int))).setCell (p := ⟨w.heap.size, 2, none⟩) (.inr (Nat.le_refl _)) (.int .i64 (p.st.count : Int)))
            have hoF := Lib.hid (own_fr HOWN.out ((((Fr.refl [w.heap.size] wr).setCell (p := ⟨w.heap.size, 0, none⟩) (.inl (by simp)) (.int .u32 (p.st.session : Int))).setCell (p := ⟨w.heap.size, 1, none⟩) (.inl (by simp)) (.int .u32 (p.st.number : Int))).setCell (p := ⟨w.heap.size, 2, none⟩) (.inl (by simp)) (.int .i64 (p.st.count : Int))) (fun g hg hm => own_ne HOWN.out HR.out (by decide) (by simp only [List.mem_singleton] at hm; rw [← hm]; exact hg)))
            have d0 := hbF.at_ (i := 0) rfl
            have d1 := hbF.at_ (i := 1) rfl
            have d2 := hbF.at_ (i := 2) rfl
            clear hbF
            revert hfF hoF d0 d1 d2
            generalize (World.setCell (World.setCell (World.setCell wr _ _) _ _) _ _) = wf
            intro hfF hoF d0 d1 d2
            refine bodyPost_ret (v := .tuple #[stampV p.st, .slice A acc.length co, .bool true]) (by simp [results, Try.results38, go_sem, stampV, d0, d1, d2]) rfl ?_
            exact rec_yes HCOL.out HC.out HKK.out HH2.out HGE.out hoF.out hfF.out

end Go.Proofs.Ytidpleejgalljaa
