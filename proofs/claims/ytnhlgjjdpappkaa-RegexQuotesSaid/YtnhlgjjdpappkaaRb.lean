/-
  Parts in memory; the contracts of the pattern's reader: escape, end, char, item.
-/
import Derived.Test.YtnhlgjjdpappkaaRs
namespace Go.Proofs.Ytnhlgjjdpappkaa
open Go.RowKit

def Pt.kind : Pt → Int
  | .char _ _ => 0
  | .row _ => 1
  | .pick _ => 2
  | .star _ => 3
  | .plus _ => 4
  | .maybe _ => 5
  | .times _ _ _ => 6
def Pt.neg : Pt → Bool
  | .char b _ => b
  | _ => false
def Pt.set : Pt → List Sp
  | .char _ l => l
  | _ => []
def Pt.subs : Pt → List Pt
  | .char _ _ => []
  | .row l => l
  | .pick l => l
  | .star p => [p]
  | .plus p => [p]
  | .maybe p => [p]
  | .times p _ _ => [p]
def Pt.lo : Pt → Int
  | .times _ n _ => n
  | _ => 0
def Pt.hi : Pt → Int
  | .times _ _ (some m) => m
  | .times _ _ none => -1
  | _ => 0

def spCells (l : List Sp) : List Value := l.flatMap fun x => [R32 x.lo, R32 x.hi]
theorem spCells_cons (x : Sp) (l : List Sp) : spCells (x :: l) = R32 x.lo :: R32 x.hi :: spCells l := rfl
theorem spCells_append (a b : List Sp) : spCells (a ++ b) = spCells a ++ spCells b := by simp [spCells]
theorem spCells_len (l : List Sp) : (spCells l).length = l.length * 2 := by induction l with | nil => rfl | cons x l ih => rw [spCells_cons]; simp [ih]; omega
theorem spCells_one (l : List Sp) : ∀ u ∈ spCells l, u.oneCell' = true := by
  induction l with
  | nil => intro u hu; simp [spCells] at hu
  | cons x l ih =>
    intro u hu
    rw [spCells_cons, List.mem_cons, List.mem_cons] at hu
    rcases hu with rfl | rfl | hu
    · rfl
    · rfl
    · exact ih u hu
def SpansAt (w : World) (N : Nat → Prop) (v : Value) (l : List Sp) : Prop := ∃ g, SlAt w v l.length (spCells l) g ∧ (0 < l.length → N g)
theorem SpansAt.fr {S : List Nat} {w w' : World} {N : Nat → Prop} {v : Value} {l : List Sp} (h : SpansAt w N v l) (hf : Fr S w w') (hN : ∀ g, N g → g ∉ S) : SpansAt w' N v l := by
  obtain ⟨g, hs, hn⟩ := h
  by_cases h0 : 0 < l.length
  · exact ⟨g, hs.fr hf (fun _ => hN g (hn h0)), hn⟩
  · obtain ⟨A, c, off, hv, hc, _⟩ := hs
    exact ⟨g, ⟨A, c, off, hv, hc, fun h => absurd h h0⟩, hn⟩
theorem SpansAt.mono {w : World} {N M : Nat → Prop} {v : Value} {l : List Sp} (h : SpansAt w N v l) (hN : ∀ g, N g → M g) : SpansAt w M v l := by
  obtain ⟨g, hs, hn⟩ := h
  exact ⟨g, hs, fun h => hN g (hn h)⟩
theorem SpansAt.nil (w : World) (N : Nat → Prop) : SpansAt w N (.slice none 0 0) [] := ⟨0, SlAt.nil w _ 0, fun h => by simp at h⟩

/-- A part's cells; all that it leads to lies in blocks that N lets. -/
inductive PartAt (w : World) (N : Nat → Prop) : Pt → List Value → Prop
  | mk (p : Pt) (sv : Value) (A : Option Addr) (c g off : Nat) (css : Nat → List Value) (hs : SpansAt w N sv p.set) (hc : p.subs.length ≤ c) (hA : 0 < p.subs.length → A = some ⟨g, off, none⟩ ∧ N g)
      (hcell : ∀ i, i < p.subs.length → (css i).length = 6 ∧ ∀ j u, (css i)[j]? = some u → w.cell? ⟨g, off + 6 * i + j, none⟩ = some u)
      (hsub : ∀ i q, p.subs[i]? = some q → PartAt w N q (css i)) : PartAt w N p [.int .i64 p.kind, .bool p.neg, sv, .slice A p.subs.length c, .int .i64 p.lo, .int .i64 p.hi]
/-- A slice of parts. -/
def PartsAt (w : World) (N : Nat → Prop) (l : List Pt) (v : Value) : Prop :=
  ∃ (A : Option Addr) (c g off : Nat) (css : Nat → List Value), v = .slice A l.length c ∧ l.length ≤ c ∧ (0 < l.length → A = some ⟨g, off, none⟩ ∧ N g) ∧
    (∀ i, i < l.length → (css i).length = 6 ∧ ∀ j u, (css i)[j]? = some u → w.cell? ⟨g, off + 6 * i + j, none⟩ = some u) ∧ ∀ i q, l[i]? = some q → PartAt w N q (css i)
def pcells (p : Pt) (sv lv : Value) : List Value := [.int .i64 p.kind, .bool p.neg, sv, lv, .int .i64 p.lo, .int .i64 p.hi]
theorem PartAt.of {w : World} {N : Nat → Prop} {p : Pt} {sv lv : Value} (hs : SpansAt w N sv p.set) (hl : PartsAt w N p.subs lv) : PartAt w N p (pcells p sv lv) := by
  obtain ⟨A, c, g, off, css, rfl, hc, hA, hcell, hsub⟩ := hl
  exact .mk p sv A c g off css hs hc hA hcell hsub
theorem PartAt.inv {w : World} {N : Nat → Prop} {p : Pt} {cs : List Value} (h : PartAt w N p cs) : ∃ sv lv, cs = pcells p sv lv ∧ SpansAt w N sv p.set ∧ PartsAt w N p.subs lv := by
  cases h with
  | mk _ sv A c g off css hs hc hA hcell hsub => exact ⟨sv, _, rfl, hs, A, c, g, off, css, rfl, hc, hA, hcell, hsub⟩
theorem PartAt.len {w : World} {N : Nat → Prop} {p : Pt} {cs : List Value} (h : PartAt w N p cs) : cs.length = 6 := by
  obtain ⟨sv, lv, rfl, _⟩ := h.inv; rfl
theorem PartAt.one {w : World} {N : Nat → Prop} {p : Pt} {cs : List Value} (h : PartAt w N p cs) : ∀ u ∈ cs, u.oneCell' = true := by
  obtain ⟨sv, lv, rfl, ⟨g, ⟨A, c, off, rfl, _⟩, _⟩, ⟨A', c', g', off', css, rfl, _⟩⟩ := h.inv
  intro u hu
  simp only [pcells, List.mem_cons, List.not_mem_nil, or_false] at hu
  rcases hu with rfl | rfl | rfl | rfl | rfl | rfl <;> rfl
theorem PartAt.fr {S : List Nat} {w w' : World} {N : Nat → Prop} {p : Pt} {cs : List Value} (h : PartAt w N p cs) (hf : Fr S w w') (hN : ∀ g, N g → g ∉ S) : PartAt w' N p cs := by
  induction h with
  | mk p sv A c g off css hs hc hA hcell hsub ih =>
    refine .mk p sv A c g off css (hs.fr hf hN) hc hA (fun i hi => ⟨(hcell i hi).1, fun j u hj => ?_⟩) ih
    have h1 := (hcell i hi).2 j u hj
    rw [hf.cell (World.block_lt_of_cell? w _ h1) (hN g (hA (by omega)).2)]
    exact h1
theorem PartAt.mono {w : World} {N M : Nat → Prop} {p : Pt} {cs : List Value} (h : PartAt w N p cs) (hN : ∀ g, N g → M g) : PartAt w M p cs := by
  induction h with
  | mk p sv A c g off css hs hc hA hcell hsub ih => exact .mk p sv A c g off css (hs.mono hN) hc (fun h => ⟨(hA h).1, hN g (hA h).2⟩) hcell ih
theorem PartsAt.fr {S : List Nat} {w w' : World} {N : Nat → Prop} {l : List Pt} {v : Value} (h : PartsAt w N l v) (hf : Fr S w w') (hN : ∀ g, N g → g ∉ S) : PartsAt w' N l v := by
  obtain ⟨A, c, g, off, css, hv, hc, hA, hcell, hsub⟩ := h
  refine ⟨A, c, g, off, css, hv, hc, hA, fun i hi => ⟨(hcell i hi).1, fun j u hj => ?_⟩, fun i q hq => (hsub i q hq).fr hf hN⟩
  have h1 := (hcell i hi).2 j u hj
  rw [hf.cell (World.block_lt_of_cell? w _ h1) (hN g (hA (by omega)).2)]
  exact h1
theorem PartsAt.nil (w : World) (N : Nat → Prop) : PartsAt w N [] (.slice none 0 0) := ⟨none, 0, 0, 0, fun _ => [], rfl, Nat.le_refl _, fun h => by simp at h, fun i hi => by simp at hi, fun i q hq => by simp at hq⟩
theorem PartsAt.of_blk {w : World} {N : Nat → Prop} {p : Pt} {cs : List Value} {g : Nat} {t : TypeId} (hb : Blk w g t cs) (hp : PartAt w N p cs) (hg : N g) : PartsAt w N [p] (.slice (some ⟨g, 0, none⟩) 1 1) := by
  refine ⟨_, 1, g, 0, fun _ => cs, rfl, Nat.le_refl _, fun _ => ⟨rfl, hg⟩, fun i hi => ⟨hp.len, fun j u hj => ?_⟩, fun i q hq => ?_⟩
  · have : i = 0 := by simpa using hi
    subst this
    simpa using hb.at_ hj
  · obtain ⟨hi, rfl⟩ := List.getElem?_eq_some_iff.1 hq
    have : i = 0 := by simpa using hi
    subst this
    exact hp

/-- The value of a part that was made behind a world. -/
def PartV (w : World) (w' : World) (p : Pt) (v : Value) : Prop := ∃ cs, v = .agg cs.toArray ∧ PartAt w' (fun g => w.heap.size ≤ g) p cs

theorem amongS_special (c : Int) : amongB (strInts ⟨#[40, 41, 42, 43, 45, 46, 63, 91, 92, 93, 94, 123, 124, 125]⟩) c = amongB special c := rfl
theorem amongS_closers (c : Int) : amongB (strInts ⟨#[91, 93, 45]⟩) c = amongB closers c := rfl
theorem amongS_barred (c : Int) : amongB (strInts ⟨#[63, 42, 43, 123, 125, 93]⟩) c = amongB barred c := rfl
theorem special_any {w : World} (c : Int) (hc : 0 ≤ c) : Calls Try.prog 55 #[.string ⟨#[40, 41, 42, 43, 45, 46, 63, 91, 92, 93, 94, 123, 124, 125]⟩, .int .i32 c] w fun e w' => e = .returned (.bool (amongB special c)) ∧ Fr [] w w' :=
  amongS_special c ▸ among_any _ (by decide) c hc
theorem closers_any {w : World} (c : Int) (hc : 0 ≤ c) : Calls Try.prog 55 #[.string ⟨#[91, 93, 45]⟩, .int .i32 c] w fun e w' => e = .returned (.bool (amongB closers c)) ∧ Fr [] w w' :=
  amongS_closers c ▸ among_any _ (by decide) c hc
theorem barred_any {w : World} (c : Int) (hc : 0 ≤ c) : Calls Try.prog 55 #[.string ⟨#[63, 42, 43, 123, 125, 93]⟩, .int .i32 c] w fun e w' => e = .returned (.bool (amongB barred c)) ∧ Fr [] w w' :=
  amongS_barred c ▸ among_any _ (by decide) c hc

theorem PartAt.char_ {w : World} {N : Nat → Prop} {neg : Bool} {set : List Sp} {sv : Value} (h : SpansAt w N sv set) : PartAt w N (.char neg set) [.int .i64 0, .bool neg, sv, .slice none 0 0, .int .i64 0, .int .i64 0] :=
  PartAt.of (p := .char neg set) h (PartsAt.nil w N)
theorem char_any {w : World} (c : Int) : Calls Try.prog 50 #[.int .i32 c] w fun e w' => ∃ v, e = .returned v ∧ PartV w w' (charPt c) v ∧ Fr [] w w' := by
  go_enter Try.func50, Try.ntmps50
  go_wp2
  refine bodyPost_ret (v := .agg #[.int .i64 0, .bool false, .slice (some ⟨w.heap.size + 1, 0, none⟩) 1 1, .slice none 0 0, .int .i64 0, .int .i64 0]) (by simp [results, Try.results50, go_sem]) rfl ⟨_, rfl, ⟨_, rfl, PartAt.char_ ?_⟩, ((Fr.refl [] w).alloc _).alloc _⟩
  have hb := Blk.new (w.alloc (.cells #[.int .i64 0, .bool false, .slice (some ⟨w.heap.size + 1, 0, none⟩) 1 1, .slice none 0 0, .int .i64 0, .int .i64 0] 43)) 91 [R32 c, R32 c]
  refine ⟨w.heap.size + 1, SlAt.of_blk (t := 91) ?_ 1 1 (Nat.le_refl _), fun _ => by omega⟩
  simpa [R32, spCells] using hb

def IntV (_ : World) (c : Int) (v : Value) : Prop := v = .int .i32 c
def RS.pos (s : RS) : Prop := ∀ c ∈ s.l, 0 ≤ c
theorem RS.pos.next {s : RS} (h : s.pos) : s.next.pos := fun c hc => h c (List.mem_of_mem_drop hc)
theorem RS.take_pos {s s1 : RS} {c : Int} (h : s.pos) (ht : s.take = some (c, s1)) : 0 ≤ c ∧ s1.pos := by
  obtain ⟨_, rfl, _⟩ := RS.take_len ht
  refine ⟨?_, h.next⟩
  unfold RS.take at ht
  split at ht
  · cases ht
  · rename_i d l h1
    simp only [Option.some.injEq, Prod.mk.injEq] at ht
    exact ht.1 ▸ h d (by rw [h1]; simp)

theorem escape_any {w : World} {r gl : Nat} {s : RS} (h : RdAt w r gl s) (hp : s.pos) : Calls Try.prog 51 #[.pointer (some ⟨r, 0, none⟩)] w (PRes IntV w r gl s.escape) := by
  refine calls_post fun R HQ => ?_
  have HT := Lib.hid (take_any h)
  have HF0 : Fr [r] w w := Fr.refl _ _
  cases ht : s.take with
  | none =>
    have HE : Hid (s.escape = none) := Lib.hid (by unfold RS.escape; rw [ht])
    rw [ht] at HT
    clear ht hp
    go_enter Try.func51, Try.ntmps51
    go_wp2_with fail
    refine HT.out.mono ?_
    rintro e w1 ⟨rfl, hf⟩
    exact ⟨rfl, HQ.out _ _ (by rw [HE.out]; exact ⟨rfl, hf⟩)⟩
  | some x =>
    obtain ⟨c, s1⟩ := x
    have HT' := Lib.hid ht
    rw [ht] at HT
    have hc := (RS.take_pos hp ht).1
    clear ht hp
    go_enter Try.func51, Try.ntmps51
    go_wp2_with fail
    refine HT.out.mono ?_
    rintro e w1 ⟨_, rfl, rfl, hr, hf⟩
    have HR1 := Lib.hid hr; have HF1 := Lib.hid (HF0.trans hf (fun x hx => .inl hx))
    clear hr hf
    by_cases h1 : c = 110
    · have HE : Hid (s.escape = some (10, s1)) := Lib.hid (by unfold RS.escape; rw [HT'.out]; simp [h1])
      have e1 : (c == 110) = true := by simpa using h1
      go_wp2_with fail
      exact HQ.out _ _ (by rw [HE.out]; exact ⟨_, rfl, rfl, HR1.out, HF1.out⟩)
    · have e1 : (c == 110) = false := by simpa using h1
      by_cases h2 : c = 114
      · have HE : Hid (s.escape = some (13, s1)) := Lib.hid (by unfold RS.escape; rw [HT'.out]; simp [h2])
        have e2 : (c == 114) = true := by simpa using h2
        go_wp2_with fail
        exact HQ.out _ _ (by rw [HE.out]; exact ⟨_, rfl, rfl, HR1.out, HF1.out⟩)
      · have e2 : (c == 114) = false := by simpa using h2
        by_cases h3 : c = 116
        · have HE : Hid (s.escape = some (9, s1)) := Lib.hid (by unfold RS.escape; rw [HT'.out]; simp [h3])
          have e3 : (c == 116) = true := by simpa using h3
          go_wp2_with fail
          exact HQ.out _ _ (by rw [HE.out]; exact ⟨_, rfl, rfl, HR1.out, HF1.out⟩)
        · have e3 : (c == 116) = false := by simpa using h3
          have HE : Hid (s.escape = if amongB special c = true then some (c, s1) else none) := Lib.hid (by unfold RS.escape; rw [HT'.out]; simp only [if_neg h1, if_neg h2, if_neg h3])
          go_wp2_with fail
          refine (special_any c hc).mono ?_
          rintro e w2 ⟨rfl, hf2⟩
          have HR2 : Hid (RdAt w2 r gl s1) := Lib.hid (HR1.out.fr hf2 (by simp))
          have HF2 : Hid (Fr [r] w w2) := Lib.hid (HF1.out.trans hf2 (by simp))
          clear hf2
          cases ha : amongB special c with
          | true =>
            rw [ha, if_pos rfl] at HE
            clear ha
            go_wp2_with fail
            refine (need_true _).mono ?_
            rintro e w3 ⟨rfl, rfl⟩
            go_wp2_with fail
            exact HQ.out _ _ (by rw [HE.out]; exact ⟨_, rfl, rfl, HR2.out, HF2.out⟩)
          | false =>
            rw [ha, if_neg (by simp)] at HE
            clear ha
            go_wp2_with fail
            refine (need_false _).mono ?_
            rintro e w3 ⟨rfl, rfl⟩
            exact ⟨rfl, HQ.out _ _ (by rw [HE.out]; exact ⟨rfl, HF2.out⟩)⟩

theorem end_any {w : World} {r gl : Nat} {s : RS} (h : RdAt w r gl s) (hp : s.pos) : Calls Try.prog 61 #[.pointer (some ⟨r, 0, none⟩)] w (PRes IntV w r gl s.end_) := by
  refine calls_post fun R HQ => ?_
  have HT := Lib.hid (take_any h)
  have HF0 : Fr [r] w w := Fr.refl _ _
  cases ht : s.take with
  | none =>
    have HE : Hid (s.end_ = none) := Lib.hid (by unfold RS.end_; rw [ht])
    rw [ht] at HT
    clear ht hp
    go_enter Try.func61, Try.ntmps61
    go_wp2_with fail
    refine HT.out.mono ?_
    rintro e w1 ⟨rfl, hf⟩
    exact ⟨rfl, HQ.out _ _ (by rw [HE.out]; exact ⟨rfl, hf⟩)⟩
  | some x =>
    obtain ⟨c, s1⟩ := x
    have HT' := Lib.hid ht
    rw [ht] at HT
    obtain ⟨hc, hp1⟩ := RS.take_pos hp ht
    have HP := Lib.hid hp1
    clear ht hp hp1
    go_enter Try.func61, Try.ntmps61
    go_wp2_with fail
    refine HT.out.mono ?_
    rintro e w1 ⟨_, rfl, rfl, hr, hf⟩
    have HR1 := Lib.hid hr; have HF1 := Lib.hid (HF0.trans hf (fun x hx => .inl hx))
    clear hr hf
    by_cases h1 : c = 92
    · have HE : Hid (s.end_ = s1.escape) := Lib.hid (by unfold RS.end_; rw [HT'.out]; simp [h1])
      have e1 : (c == 92) = true := by simpa using h1
      go_wp2_with fail
      have HC := Lib.hid (escape_any HR1.out HP.out)
      cases he : s1.escape with
      | none =>
        rw [he] at HC HE
        refine HC.out.mono ?_
        rintro e w2 ⟨rfl, hf⟩
        exact ⟨rfl, HQ.out _ _ (by rw [HE.out]; exact ⟨rfl, HF1.out.trans hf (fun x hx => .inl hx)⟩)⟩
      | some y =>
        obtain ⟨c2, s2⟩ := y
        rw [he] at HC HE
        clear he
        refine HC.out.mono ?_
        rintro e w2 ⟨_, rfl, rfl, hr2, hf⟩
        have HR2 := Lib.hid hr2; have HF2 := Lib.hid (HF1.out.trans hf (fun x hx => .inl hx))
        clear hr2 hf
        go_wp2_with fail
        exact HQ.out _ _ (by rw [HE.out]; exact ⟨_, rfl, rfl, HR2.out, HF2.out⟩)
    · have e1 : (c == 92) = false := by simpa using h1
      have HE : Hid (s.end_ = if amongB closers c = true then none else some (c, s1)) := Lib.hid (by unfold RS.end_; rw [HT'.out]; simp only [if_neg h1])
      go_wp2_with fail
      refine (closers_any c hc).mono ?_
      rintro e w2 ⟨rfl, hf2⟩
      have HR2 : Hid (RdAt w2 r gl s1) := Lib.hid (HR1.out.fr hf2 (by simp))
      have HF2 : Hid (Fr [r] w w2) := Lib.hid (HF1.out.trans hf2 (by simp))
      clear hf2
      cases ha : amongB closers c with
      | true =>
        rw [ha, if_pos rfl] at HE
        clear ha
        go_wp2_with fail
        refine (need_false _).mono ?_
        rintro e w3 ⟨rfl, rfl⟩
        exact ⟨rfl, HQ.out _ _ (by rw [HE.out]; exact ⟨rfl, HF2.out⟩)⟩
      | false =>
        rw [ha, if_neg (by simp)] at HE
        clear ha
        go_wp2_with fail
        refine (need_true _).mono ?_
        rintro e w3 ⟨rfl, rfl⟩
        go_wp2_with fail
        exact HQ.out _ _ (by rw [HE.out]; exact ⟨_, rfl, rfl, HR2.out, HF2.out⟩)

end Go.Proofs.Ytnhlgjjdpappkaa
