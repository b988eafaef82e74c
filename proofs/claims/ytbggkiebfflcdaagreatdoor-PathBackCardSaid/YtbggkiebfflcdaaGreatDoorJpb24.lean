/-
  Joined by join.py: Ev Ip
-/
import Derived.Test.YtbggkiebfflcdaaGreatDoorJpb23
set_option maxRecDepth 100000
set_option maxHeartbeats 32000000
namespace Go.Proofs.YtbggkiebfflcdaaGreatDoor
section
open Go.RowKit
def qM : List (List UInt8) := [[44], [93]]
theorem aGa : ∀ x ∈ qM, x ∈ gK := by decide
section
variable (T : List UInt8) (d : Int)
def fL (n : Nat) : Rd Slr := fJ T (tE T n).1 d
end
section
variable {T : List UInt8} {d : Int}
theorem Fol.kind {g : List (List UInt8)} {ts : List Tkn} (h : Fol g ts) : ∀ t ∈ ts.head?, t.kind ≠ 3 := by
 obtain ⟨t, r, rfl, h2, _⟩ := h; intro t' ht; obtain rfl : t = t' := by simpa using ht
 rw [h2]
 decide
theorem aFd {name : List UInt8} (h : lE name = true) : Rds T (fL T d) qM pG (qE name) (.ofName name) := fun _ _ _ _ _ ht _ => ⟨_, [], dU h ht, trivial, fun _ m _ hm => ⟨m, hm, rfl⟩⟩
theorem aFe : Rds T (fL T d) qM pG [42] (.of 2) := fun _ _ _ _ _ ht _ => ⟨_, [], jF (c := 42) (by decide) ht, trivial, fun _ m _ hm => ⟨m, hm, rfl⟩⟩
theorem aHb {v : Int} (h1 : -9007199254740991 <= v) (h2 : v <= 9007199254740991) : Rds T (fL T d) qM pG (Lib.itoa v) (.ofAt v) := fun a rest ts' hd he ht hf => by
 obtain ⟨dd, i1, i2⟩ := gS (h := true) (v := v) hd h1 h2 (xH he).1 hf.kind ht; refine ⟨_, [], i1, trivial, fun n m _ hm => ⟨m, hm, ?_⟩⟩; have i3 := i2 m; simp only [fR, if_true, List.cons_append, List.nil_append] at i3 ⊢; unfold fL fJ; rw [if_neg (by simp [QS.peek]), if_neg (by simp [QS.next, QS.peek]), if_neg (by simp [QS.next, QS.peek]), i3]
 dsimp only
 rw [hf.no (by decide), if_neg (by simp), if_pos rfl]
theorem aBv {u : List UInt8} {x : Xpr} {H : Tkn -> Prop} (h : Rds T (fE T (d + 1)) gK H u x) (h32 : d + 1 <= 32) : Rds T (fL T d) qM pG (63 :: u) (.ofExpr x) := fun a rest ts' hd he ht hf => by
 rw [List.cons_append] at hd ⊢; have e2 : a + (63 :: u).length = a + 1 + u.length := by rw [List.length_cons]; omega
 rw [e2] at ht; obtain ⟨t, ts, i1, i2, i3⟩ := h (a + 1) rest ts' (zD (u := [63]) hd) he ht (hf.mono aGa); refine ⟨_, t :: ts, jF (c := 63) (by decide) i1, trivial, fun n m hn hm => ?_⟩; rw [List.length_cons] at hn
 match n, hn with
 | n + 1, hn =>
  obtain ⟨m', j1, j2⟩ := i3 n (max m (d + 1)) (by omega) (by omega); refine ⟨m', j1, ?_⟩; unfold fL fJ; rw [if_neg (by simp [QS.peek]), if_neg (by simp [QS.next, QS.peek]), if_pos (bI _ _ _ _ _ _)]; simp only [QS.go, List.drop_succ_cons, List.drop_zero]; rw [aGC, List.cons_append, j2]
def jO (hc : Bool) (c : Int) : List UInt8 := if hc = true then 58 :: Lib.itoa c else []
theorem lW (hc : Bool) (c : Int) {rest : List UInt8} (he : aAn rest = true) : vO (jO hc c ++ rest) = true /\ gA 61 (jO hc c ++ rest) = false := by
 cases hc
 ·exact ⟨(xH he).1, (xH he).2.1⟩
 ·exact ⟨rfl, rfl⟩
theorem aAs {p : Nat} {hc : Bool} {c : Int} {rest : List UInt8} {ts' : List Tkn} (hp : T.drop p = jO hc c ++ rest) (h1 : -9007199254740991 <= c) (h2 : c <= 9007199254740991) (he : aAn rest = true) (ht : dE (p + (jO hc c).length) rest ts') (hf : Fol qM ts') :
  ∃ xs, dE p (jO hc c ++ rest) (xs ++ ts') /\ (∀ t ∈ (xs ++ ts').head?, t.kind ≠ 3) /\ ∀ m n has bv bh, aEH T n has bv bh ⟨xs ++ ts', m⟩ = some (.ofSlice (has, bh, hc) (n, bv, if hc = true then c else 0), ⟨ts', m⟩) := by
 match hc with
 | false =>
  refine ⟨[], ht, hf.kind, fun m n has bv bh => ?_⟩; unfold aEH; rw [List.nil_append, hf.no (by decide), if_neg (by simp)]
  rfl
 | true =>
  have hp1 : T.drop (p + 1) = iG true c ++ rest := zD (u := [58]) hp
  have ht1 : dE (p + 1 + (iG true c).length) rest ts' := by
   have e : p + (jO true c).length = p + 1 + (iG true c).length := by simp only [jO, iG, if_true, List.length_cons]; omega
   rw [e] at ht; exact ht
  obtain ⟨d, i1, i2⟩ := gS hp1 h1 h2 (xH he).1 hf.kind ht1; refine ⟨⟨4, [58], .zero, p, p + 1⟩ :: fR true d (p + 1) (p + 1 + (iG true c).length), xT (a := p) (aAa true c rest (xH he).2.1) i1, fun t ht => ?_, fun m n has bv bh => ?_⟩
  ·obtain rfl : (⟨4, [58], .zero, p, p + 1⟩ : Tkn) = t := by simpa using ht
   exact (show (4 : Nat) ≠ 3 by decide)
  ·have i3 := i2 m; unfold aEH; rw [List.cons_append, if_pos (bI _ _ _ _ _ _)]; simp only [QS.go, List.drop_succ_cons, List.drop_zero, i3]
theorem aAt {p : Nat} {hb hc : Bool} {b c : Int} {rest : List UInt8} {ts' : List Tkn} (hp : T.drop p = iG hb b ++ (jO hc c ++ rest)) (hb1 : -9007199254740991 <= b) (hb2 : b <= 9007199254740991) (h1 : -9007199254740991 <= c) (h2 : c <= 9007199254740991)
  (he : aAn rest = true) (ht : dE (p + (iG hb b).length + (jO hc c).length) rest ts') (hf : Fol qM ts') :
  ∃ xs, dE p (iG hb b ++ (jO hc c ++ rest)) (xs ++ ts') /\ ∀ m n has f g, xF T n has ⟨⟨4, [58], .zero, f, g⟩ :: (xs ++ ts'), m⟩ = some (.ofSlice (has, hb, hc) (n, if hb = true then b else 0, if hc = true then c else 0), ⟨ts', m⟩) := by
 obtain ⟨xs, j1, j2, j4⟩ := aAs (zD hp) h1 h2 he ht hf; obtain ⟨db, k1, k2⟩ := gS hp hb1 hb2 (lW hc c he).1 j2 j1; refine ⟨fR hb db p (p + (iG hb b).length) ++ xs, by rw [List.append_assoc]; exact k1, fun m n has f g => ?_⟩; have k3 := k2 m; have j5 := j4 m n has (if hb = true then b else 0) hb; unfold xF; rw [if_pos (bI _ _ _ _ _ _)]; simp only [QS.go, List.drop_succ_cons, List.drop_zero, List.append_assoc, k3]; exact j5
theorem aBw {ha hb hc : Bool} {a b c : Int} (ha1 : -9007199254740991 <= a) (ha2 : a <= 9007199254740991) (hb1 : -9007199254740991 <= b) (hb2 : b <= 9007199254740991) (h1 : -9007199254740991 <= c) (h2 : c <= 9007199254740991) :
  Rds T (fL T d) qM pG (iG ha a ++ 58 :: iG hb b ++ jO hc c) (.ofSlice (ha, hb, hc) (if ha = true then a else 0, if hb = true then b else 0, if hc = true then c else 0)) := fun p rest ts' hd he ht hf => by
 have e : iG ha a ++ 58 :: iG hb b ++ jO hc c ++ rest = iG ha a ++ ([58] ++ (iG hb b ++ (jO hc c ++ rest))) := by simp
 rw [e] at hd ⊢; have e2 : p + (iG ha a ++ 58 :: iG hb b ++ jO hc c).length = p + (iG ha a).length + 1 + (iG hb b).length + (jO hc c).length := by simp only [List.length_append, List.length_cons]; omega
 rw [e2] at ht; obtain ⟨xs, j1, j2⟩ := aAt (zD (zD hd)) hb1 hb2 h1 h2 he ht hf; have hh : gA 61 (iG hb b ++ (jO hc c ++ rest)) = false := aAa hb b _ (lW hc c he).2; obtain ⟨da, l1, l2⟩ := gS (ts := ⟨4, [58], .zero, p + (iG ha a).length, p + (iG ha a).length + 1⟩ :: (xs ++ ts')) hd ha1 ha2 rfl (by simp) (xT hh j1)
 have hr : ∀ n m, fL T d n ⟨fR ha da p (p + (iG ha a).length) ++ ⟨4, [58], .zero, p + (iG ha a).length, p + (iG ha a).length + 1⟩ :: (xs ++ ts'), m⟩ = some (.ofSlice (ha, hb, hc) (if ha = true then a else 0, if hb = true then b else 0, if hc = true then c else 0), ⟨ts', m⟩) := fun n m => by
  unfold fL fJ; rw [if_neg (by cases ha <;> simp [fR, QS.peek]), if_neg (by cases ha <;> simp [fR, QS.next, QS.peek]), if_neg (by cases ha <;> simp [fR, QS.next, QS.peek]), l2 m]
  dsimp only
  rw [if_pos (bI _ _ _ _ _ _)]; exact j2 m _ _ _ _
 cases ha
 ·exact ⟨_, xs, l1, trivial, fun n m _ hm => ⟨m, hm, hr n m⟩⟩
 ·exact ⟨_, ⟨4, [58], .zero, _, _⟩ :: xs, l1, trivial, fun n m _ hm => ⟨m, hm, hr n m⟩⟩
theorem qR : ∀ l : List Slr, fF l = l.map Slr.text
 | [] => rfl
 | x :: l => by rw [fF, qR l]; rfl
theorem aGb {sl : List Slr} (h0 : sl ≠ []) (hl : ∀ y ∈ sl, Rds T (fL T d) qM pG y.text y) {p : Nat} {r0 : List UInt8} {ts0 : List Tkn} (hd : T.drop p = 91 :: (Lib.join (fF sl) [44] ++ 93 :: r0)) (ht : dE (p + 1 + (Lib.join (fF sl) [44]).length + 1) r0 ts0) :
  ∃ ts f g, dE p (91 :: (Lib.join (fF sl) [44] ++ 93 :: r0)) (⟨4, [91], .zero, f, g⟩ :: (ts ++ ts0)) /\ 2 <= ts.length /\ ∀ n (m : Int), ts.length <= n + 1 -> m <= 32 -> ∃ m', m' <= 32 /\ bC T (tE T n).1 d ⟨ts ++ ts0, m⟩ = some (sl, ⟨ts0, m'⟩) := by
 have hr := cH (good := [[93]]) (good' := qM) kW (by decide) (by decide) (by decide) (sl.map fun y => (y.text, y)) (by simpa using h0) (fun q hq => by
  obtain ⟨y, hy, rfl⟩ := List.mem_map.1 hq; exact hl y hy)
 have e1 : (sl.map fun y => (y.text, y)).map Prod.fst = fF sl := by rw [qR, List.map_map]; rfl
 have e2 : (sl.map fun y => (y.text, y)).map Prod.snd = sl := by rw [List.map_map]; simp [Function.comp_def]
 rw [e1, e2] at hr; generalize Lib.join (fF sl) [44] = J at hd ht hr ⊢; obtain ⟨t, ts, i1, i2, i3⟩ := hr (p + 1) (93 :: r0) _ (zD (u := [91]) hd) rfl (jF (c := 93) (by decide) ht) (Fol.of _ (by decide) _ _ _); refine ⟨t :: (ts ++ [⟨4, [93], .zero, p + 1 + J.length, p + 1 + J.length + 1⟩]), p, p + 1, ?_, by simp, fun n m hn hm => ?_⟩
 ·have := jF (a := p) (c := 91) (by decide) i1
  simpa using this
 ·rw [List.length_cons, List.length_append, List.length_cons, List.length_nil] at hn; obtain ⟨m', j1, j2⟩ := i3 n m (by omega) hm; refine ⟨m', j1, ?_⟩; unfold fL at j2
  dsimp only at j2
  unfold bC; rw [List.cons_append, List.append_assoc, List.cons_append, List.nil_append, j2]
  rfl
def GRd (T : List UInt8) (d : Int) (l : List Sgm) : Prop :=
 ∀ a rest ts', T.drop a = (iE l).flatten ++ rest -> dE (a + (iE l).flatten.length) rest ts' -> (ts' = [] ∨ Fol bK ts') ->
  ∃ ts, dE a ((iE l).flatten ++ rest) (ts ++ ts') /\ l.length <= ts.length /\ ∀ n (m : Int) fuel, ts.length <= n + 1 -> m <= 32 -> l.length < fuel -> ∃ m', m' <= 32 /\ pD T (tE T n).1 d fuel ⟨ts ++ ts', m⟩ = some (l, ⟨ts', m'⟩)
theorem aBx {ts : List Tkn} (h : ts = [] ∨ Fol bK ts) {x : List UInt8} (hx : x ∉ bK) (m : Int) : QS.next ⟨ts, m⟩ x = false := by
 rcases h with rfl | h
 ·rfl
 ·exact h.no hx m
theorem mW : ∀ l : List Sgm, (∀ x ∈ l, x.l ≠ [] /\ ∀ y ∈ x.l, Rds T (fL T d) qM pG y.text y) -> GRd T d l
 | [], _ => fun a rest ts' hd ht hf => by
  refine ⟨[], ht, Nat.le_refl _, fun n m fuel _ hm hfu => ⟨m, hm, ?_⟩⟩
  match fuel, hfu with
  | f + 1, _ =>
   have h1 := aBx hf (x := [46, 46]) (by decide) m; have h2 := aBx hf (x := [91]) (by decide) m; have h3 := aBx hf (x := [46]) (by decide) m; rw [List.nil_append]; unfold pD; simp only [h1, h2, h3, Bool.false_eq_true, if_false]
 | .mk deep sl :: l, hl => fun a rest ts' hd ht hf => by
  have ih := mW l fun x hx => hl x (by simp [hx]); obtain ⟨h0, hs⟩ := hl (.mk deep sl) (by simp); simp only [Sgm.l] at h0 hs; have et : (iE (.mk deep sl :: l)).flatten = (if deep = true then [46, 46] else []) ++ (91 :: Lib.join (fF sl) [44] ++ [93]) ++ (iE l).flatten := by rw [iE, List.flatten_cons, Sgm.text]
  rw [et] at hd ht ⊢; generalize hF : (iE l).flatten = R at hd ht ih ⊢; have hb := fun {p r0 ts0} => aGb (T := T) (d := d) h0 hs (p := p) (r0 := r0) (ts0 := ts0); generalize hJ : Lib.join (fF sl) [44] = J at hd ht hb ⊢; obtain ⟨D, hD⟩ : ∃ D : List UInt8, (if deep = true then [46, 46] else []) = D := ⟨_, rfl⟩; rw [hD] at hd ht ⊢; have e1 : D ++ (91 :: J ++ [93]) ++ R ++ rest = D ++ ((91 :: (J ++ [93])) ++ (R ++ rest)) := by simp
  have e2 : a + (D ++ (91 :: J ++ [93]) ++ R).length = a + D.length + (91 :: (J ++ [93])).length + R.length := by simp only [LN]; omega
  rw [e1] at hd ⊢; rw [e2] at ht; have hdB := zD hd; unfold GRd at ih; rw [hF] at ih; obtain ⟨ts2, i1, i2, i3⟩ := ih _ rest ts' (zD hdB) ht hf; have e3 : (91 :: (J ++ [93])) ++ (R ++ rest) = 91 :: (J ++ 93 :: (R ++ rest)) := by simp
  have e4 : a + D.length + (91 :: (J ++ [93])).length = a + D.length + 1 + J.length + 1 := by simp only [LN]; omega
  rw [e3] at hdB ⊢; rw [e4] at i1; obtain ⟨ts1, f, g, b1, b2, b3⟩ := hb hdB i1
  cases deep
  ·simp only [Bool.false_eq_true, if_false] at hD; subst hD; refine ⟨⟨4, [91], .zero, f, g⟩ :: (ts1 ++ ts2), by simpa using b1, by simp only [List.length_cons, List.length_append]; omega, fun n m fuel hn hm hfu => ?_⟩; rw [List.length_cons, List.length_append] at hn
   match fuel, hfu with
   | fu + 1, hfu =>
    obtain ⟨m1, j1, j2⟩ := b3 n m (by omega) hm; obtain ⟨m2, l1, l2⟩ := i3 n m1 fu (by omega) j1 (by simp only [List.length_cons] at hfu; omega); refine ⟨m2, l1, ?_⟩; have e : ⟨4, [91], .zero, f, g⟩ :: (ts1 ++ ts2) ++ ts' = (⟨4, [91], .zero, f, g⟩ : Tkn) :: (ts1 ++ (ts2 ++ ts')) := by simp
    rw [e]; unfold pD; have n1 : QS.next ⟨(⟨4, [91], .zero, f, g⟩ : Tkn) :: (ts1 ++ (ts2 ++ ts')), m⟩ [46, 46] = false := rfl; have n2 : QS.next ⟨(⟨4, [91], .zero, f, g⟩ : Tkn) :: (ts1 ++ (ts2 ++ ts')), m⟩ [91] = true := rfl; have n3 : QS.go ⟨(⟨4, [91], .zero, f, g⟩ : Tkn) :: (ts1 ++ (ts2 ++ ts')), m⟩ = ⟨ts1 ++ (ts2 ++ ts'), m⟩ := rfl; simp only [n1, n2, n3, Bool.false_eq_true, if_false, if_true, j2, l2]
  ·simp only [if_true] at hD; subst hD; refine ⟨⟨4, [46, 46], .zero, a, a + 2⟩ :: ⟨4, [91], .zero, f, g⟩ :: (ts1 ++ ts2), by simpa using aCT b1, by simp only [List.length_cons, List.length_append]; omega, fun n m fuel hn hm hfu => ?_⟩; rw [List.length_cons, List.length_cons, List.length_append] at hn
   match fuel, hfu with
   | fu + 1, hfu =>
    obtain ⟨m1, j1, j2⟩ := b3 n m (by omega) hm; obtain ⟨m2, l1, l2⟩ := i3 n m1 fu (by omega) j1 (by simp only [List.length_cons] at hfu; omega); refine ⟨m2, l1, ?_⟩; have e : ⟨4, [46, 46], .zero, a, a + 2⟩ :: ⟨4, [91], .zero, f, g⟩ :: (ts1 ++ ts2) ++ ts' = (⟨4, [46, 46], .zero, a, a + 2⟩ : Tkn) :: (⟨4, [91], .zero, f, g⟩ : Tkn) :: (ts1 ++ (ts2 ++ ts')) := by simp
    rw [e]; unfold pD; have n0 : QS.next ⟨(⟨4, [46, 46], .zero, a, a + 2⟩ : Tkn) :: (⟨4, [91], .zero, f, g⟩ : Tkn) :: (ts1 ++ (ts2 ++ ts')), m⟩ [46, 46] = true := rfl; have n1 : QS.go ⟨(⟨4, [46, 46], .zero, a, a + 2⟩ : Tkn) :: (⟨4, [91], .zero, f, g⟩ : Tkn) :: (ts1 ++ (ts2 ++ ts')), m⟩ = ⟨(⟨4, [91], .zero, f, g⟩ : Tkn) :: (ts1 ++ (ts2 ++ ts')), m⟩ := rfl; have n2 : QS.next ⟨(⟨4, [91], .zero, f, g⟩ : Tkn) :: (ts1 ++ (ts2 ++ ts')), m⟩ [91] = true := rfl; have n3 : QS.go ⟨(⟨4, [91], .zero, f, g⟩ : Tkn) :: (ts1 ++ (ts2 ++ ts')), m⟩ = ⟨ts1 ++ (ts2 ++ ts'), m⟩ := rfl; simp only [n0, n1, n2, n3, if_true, j2, l2]
theorem aHc {q : Qry} (h : GRd T d q.l) : Rds T (fS T d) bK hdS q.text (.path q) := fun a rest ts' hd he ht hf => by
 obtain ⟨rel, l⟩ := q; simp only [Qry.l] at h; have e : (Qry.mk rel l).text = (if rel = true then 64 else 36) :: (iE l).flatten := rfl; rw [e] at hd ht ⊢; rw [List.length_cons, <- Nat.add_assoc, Nat.add_right_comm] at ht; rw [List.cons_append] at hd ⊢; have hc : (if rel = true then (64 : UInt8) else 36) ∈ yV := by cases rel <;> decide
 obtain ⟨ts, i1, i2, i3⟩ := h (a + 1) rest ts' (zD (u := [_]) hd) ht (.inr hf); refine ⟨_, ts, jF hc i1, by cases rel <;> simp [hdS], fun n m hn hm => ?_⟩; obtain ⟨m', j1, j2⟩ := i3 n m ((ts ++ ts').length + 1) (by omega) hm (by rw [List.length_append]; omega); refine ⟨m', j1, ?_⟩; unfold fS iB
 have hk : wD T (tE T n).1 d rel ⟨ts ++ ts', m⟩ = some (.mk rel l, ⟨ts', m'⟩) := by
  unfold wD
  dsimp only
  rw [j2]
 cases rel
 ·simp only [Bool.false_eq_true, if_false, Nat.reduceEqDiff, true_or, if_true, QS.go, List.drop_succ_cons, List.drop_zero]
  show (match wD T (tE T n).1 d false ⟨ts ++ ts', m⟩ with | none => none | some (q, s) => some (Xpr.path q, s)) = _
  rw [hk]
 ·simp only [if_false, Nat.reduceEqDiff, or_true, if_true, QS.go, List.drop_succ_cons, List.drop_zero]
  show (match wD T (tE T n).1 d true ⟨ts ++ ts', m⟩ with | none => none | some (q, s) => some (Xpr.path q, s)) = _
  rw [hk]
end
section
variable (a : Int) (b : List Xpr) (c : List UInt8) (d : Qry) (e : Vlu)
theorem aCi : (Xpr.mk a b c d e).what = a := rfl
theorem aFf : (Xpr.mk a b c d e).l = b := rfl
theorem aFg : (Xpr.mk a b c d e).op = c := rfl
theorem aGE : (Xpr.mk a b c d e).q = d := rfl
theorem aGF : (Xpr.mk a b c d e).v = e := rfl
theorem aHd : (Xpr.mk a b c d e).own = (if (a ≠ 6 /\ (d.rel = true ∨ 0 < d.l.length)) ∨ (a ≠ 5 /\ (e.kind ≠ 0 ∨ e.lit = false)) ∨ (a ≠ 4 /\ a ≠ 7 /\ c ≠ []) then false
  else if a = 1 ∨ a = 2 then decide (1 < b.length) else if a = 3 then decide (b.length = 1) else if a = 4 then decide (b.length = 2) && cK.contains c
  else if a = 5 then decide (b.length = 0) && e.lit else if a = 6 then decide (b.length = 0) else if a = 7 then tB c && !b.any fun x => decide (x.what < 5) else false) := rfl
theorem dH (x : Xpr) : Xpr.deeper (.mk a b c d e) x = if (a = 1 /\ x.what = 1) ∨ (a = 2 /\ (x.what = 1 ∨ x.what = 2)) ∨ (a = 3 /\ x.bare = false) then 1 else 0 := rfl
end
theorem jK {d : Int} {m : Xpr -> Int} : ∀ {l : List Xpr}, wB d m l = true -> ∀ x ∈ l, x.shaped (d + m x) = true
 | [], _, x, hx => by simp at hx
 | y :: l, h, x, hx => by
  rw [wB, Bool.and_eq_true] at h; rcases List.mem_cons.1 hx with rfl | hx
  ·exact h.1
  ·exact jK h.2 x hx
theorem iN {d : Int} : ∀ {l : List Sgm}, nJ d l = true -> ∀ x ∈ l, x.shaped d = true
 | [], _, x, hx => by simp at hx
 | y :: l, h, x, hx => by
  rw [nJ, Bool.and_eq_true] at h; rcases List.mem_cons.1 hx with rfl | hx
  ·exact h.1
  ·exact iN h.2 x hx
theorem jN {d : Int} : ∀ {l : List Slr}, oJ d l = true -> ∀ x ∈ l, x.shaped d = true
 | [], _, x, hx => by simp at hx
 | y :: l, h, x, hx => by
  rw [oJ, Bool.and_eq_true] at h; rcases List.mem_cons.1 hx with rfl | hx
  ·exact h.1
  ·exact jN h.2 x hx
theorem Xpr.shaped_parts {d : Int} {e : Xpr} (h : e.shaped d = true) : (if e.what = 7 then d + 1 else d) <= 32 /\ e.own = true /\ e.q.shaped (if e.what = 7 then d + 1 else d) = true /\ wB (if e.what = 7 then d + 1 else d) e.deeper e.l = true := by
 obtain ⟨what, l, op, q, v⟩ := e; simp only [Xpr.shaped, Bool.and_eq_true, decide_eq_true_eq] at h; exact ⟨h.1.1.1, h.1.1.2, h.1.2, h.2⟩
theorem aDh {v : Vlu} (h0 : v.kind = 0) (hv : v.lit = true) (h8 : v.l.isR 8 = true /\ v.m.isR 9 = true) : v = .null := by
 obtain ⟨kind, b, n, s, l, m⟩ := v; simp only [Vlu.lit, Bool.and_eq_true, Bool.or_eq_true, decide_eq_true_eq, Bool.not_eq_true', List.isEmpty_iff] at hv
 simp only at h0
 subst h0; obtain ⟨⟨⟨⟨⟨⟨⟨k1, k2⟩, k3⟩, k4⟩, k5⟩, k6⟩, k7⟩, k8⟩ := hv; obtain rfl : b = false := k3.resolve_left (by decide); obtain rfl : n = .zero := k4.resolve_left (by decide); obtain rfl : s = [] := k5.resolve_left (by decide)
 have hl : l = .rows 8 [] := by
  cases l with
  | leaf v => exact absurd h8.1 (by simp [Cl.isR])
  | rows k l =>
   have e8 : k = 8 := by simpa [Cl.isR] using h8.1
   have e0 : l = [] := List.length_eq_zero_iff.1 (by simp only [Cl.len] at k6; omega); rw [e8, e0]
 have hm : m = .rows 9 [] := by
  cases m with
  | leaf v => exact absurd h8.2 (by simp [Cl.isR])
  | rows k l =>
   have e8 : k = 9 := by simpa [Cl.isR] using h8.2
   have e0 : l = [] := List.length_eq_zero_iff.1 (by simp only [Cl.len] at k6; omega); rw [e8, e0]
 rw [hl, hm]
 rfl
theorem Xpr.own_parts {e : Xpr} (h : e.own = true) (h8 : e.v.l.isR 8 = true /\ e.v.m.isR 9 = true) : (e.what ≠ 6 -> e.q = .zero) /\ (e.what ≠ 5 -> e.v = .null) /\ (e.what ≠ 4 -> e.what ≠ 7 -> e.op = []) /\ 1 <= e.what /\ e.what <= 7 /\
  (e.what = 1 ∨ e.what = 2 -> 1 < e.l.length) /\ (e.what = 3 -> e.l.length = 1) /\ (e.what = 4 -> e.l.length = 2 /\ e.op ∈ cK) /\ (e.what = 5 -> e.l = [] /\ e.v.lit = true) /\ (e.what = 6 -> e.l = []) /\ (e.what = 7 -> e.op ∈ kM /\ ∀ x ∈ e.l, 5 <= x.what) := by
 obtain ⟨what, l, op, q, v⟩ := e; simp only [aCi, aFf, aFg, aGE, aGF] at *; rw [aHd] at h
 by_cases hn : (what ≠ 6 /\ (q.rel = true ∨ 0 < q.l.length)) ∨ (what ≠ 5 /\ (v.kind ≠ 0 ∨ v.lit = false)) ∨ (what ≠ 4 /\ what ≠ 7 /\ op ≠ [])
 ·rw [if_pos hn] at h
  cases h
 ·rw [if_neg hn] at h
  have n6 : what ≠ 6 -> q = .zero := fun h6 => by
   obtain ⟨rel, ql⟩ := q
   have h1 : rel = false := by
    cases rel
    ·rfl
    ·exact absurd (.inl ⟨h6, .inl rfl⟩) hn
   have h2 : ql = [] := by
    cases ql
    ·rfl
    ·exact absurd (.inl ⟨h6, .inr (by simp [Qry.l])⟩) hn
   rw [h1, h2]
   rfl
  have n5 : what ≠ 5 -> v = .null := fun h5 => by
   refine aDh ?_ ?_ h8
   ·by_cases hk : v.kind = 0
    ·exact hk
    ·exact absurd (.inr (.inl ⟨h5, .inl hk⟩)) hn
   ·cases hk : v.lit
    ·exact absurd (.inr (.inl ⟨h5, .inr hk⟩)) hn
    ·rfl
  have n4 : what ≠ 4 -> what ≠ 7 -> op = [] := fun h4 h7 => by
   by_cases ho : op = []
   ·exact ho
   ·exact absurd (.inr (.inr ⟨h4, h7, ho⟩)) hn
  refine ⟨n6, n5, n4, ?_⟩; clear hn n6 n5 n4 h8
  split at h
  ·rename_i h1
   simp only [decide_eq_true_eq] at h; refine ⟨by omega, by omega, fun _ => h, ?_, ?_, ?_, ?_, ?_⟩ <;> (intro h2; omega)
  rename_i g1
  split at h
  ·rename_i h1
   subst h1; simp only [decide_eq_true_eq] at h; refine ⟨by omega, by omega, ?_, fun _ => h, ?_, ?_, ?_, ?_⟩ <;> (intro h2; omega)
  rename_i g3
  split at h
  ·rename_i h1
   subst h1; simp only [Bool.and_eq_true, decide_eq_true_eq, List.contains_iff_mem] at h; refine ⟨by omega, by omega, ?_, ?_, fun _ => h, ?_, ?_, ?_⟩ <;> (intro h2; omega)
  rename_i g4
  split at h
  ·rename_i h1
   subst h1; simp only [Bool.and_eq_true, decide_eq_true_eq] at h; refine ⟨by omega, by omega, ?_, ?_, ?_, fun _ => ⟨List.length_eq_zero_iff.1 h.1, h.2⟩, ?_, ?_⟩ <;> (intro h2; omega)
  rename_i g5
  split at h
  ·rename_i h1
   subst h1; simp only [decide_eq_true_eq] at h; refine ⟨by omega, by omega, ?_, ?_, ?_, ?_, fun _ => List.length_eq_zero_iff.1 h, ?_⟩ <;> (intro h2; omega)
  rename_i g6
  split at h
  ·rename_i h1
   subst h1; simp only [Bool.and_eq_true, Bool.not_eq_true', tB, List.contains_iff_mem, List.any_eq_false, decide_eq_true_eq] at h; refine ⟨by omega, by omega, ?_, ?_, ?_, ?_, ?_, fun _ => ⟨h.1, fun x hx => by have := h.2 x hx; omega⟩⟩ <;> (intro h2; omega)
  ·cases h
def RX (T : List UInt8) (e : Xpr) (d : Int) : Prop := (5 <= e.what -> Rds T (fS T d) bK hdS e.text e) /\ (3 <= e.what -> Rds T (fT T d) aK pG e.text e) /\ (2 <= e.what -> Rds T (fB T d) iK pG e.text e) /\ Rds T (fE T d) gK pG e.text e
section
variable {T : List UInt8} {e : Xpr} {d : Int}
theorem rx_S (h : Rds T (fS T d) bK hdS e.text e) : RX T e d := ⟨fun _ => h, fun _ => up_T h, fun _ => aFb (up_T h), up_E (aFb (up_T h))⟩
theorem rx_T (hw : e.what < 5) (h : Rds T (fT T d) aK pG e.text e) : RX T e d := ⟨fun h5 => absurd h5 (by omega), fun _ => h, fun _ => aFb h, up_E (aFb h)⟩
theorem rx_B (hw : e.what < 3) (h : Rds T (fB T d) iK pG e.text e) : RX T e d := ⟨fun h5 => absurd h5 (by omega), fun h5 => absurd h5 (by omega), fun _ => h, up_E h⟩
theorem rx_E (hw : e.what < 2) (h : Rds T (fE T d) gK pG e.text e) : RX T e d := ⟨fun h5 => absurd h5 (by omega), fun h5 => absurd h5 (by omega), fun h5 => absurd h5 (by omega), h⟩
def wrX (m : Int) (x : Xpr) : List UInt8 := if 1 <= x.what /\ x.what <= m then 40 :: x.text ++ [41] else x.text
theorem xG (m : Int) : ∀ l : List Xpr, oB m l = l.map (wrX m)
 | [] => rfl
 | x :: l => by rw [oB, xG m l]; rfl
theorem oQ (x : Xpr) : wrX 0 x = x.text := by
 unfold wrX; rw [if_neg (by omega)]
theorem kU (f : Xpr -> List UInt8) (l : List Xpr) : (l.map fun x => (f x, x)).map Prod.fst = l.map f := by rw [List.map_map]; rfl
theorem lU (f : Xpr -> List UInt8) (l : List Xpr) : (l.map fun x => (f x, x)).map Prod.snd = l := by rw [List.map_map]; simp [Function.comp_def]
theorem aDi {x : Xpr} (hb : x.what = 6 ∨ x.what = 7) (ho : x.own = true) (h8 : x.v.l.isR 8 = true /\ x.v.m.isR 9 = true) (r : List UInt8) : gA 61 (x.text ++ r) = false := by
 obtain ⟨_, _, _, _, _, _, _, _, _, _, p7⟩ := x.own_parts ho h8; obtain ⟨what, l, op, ⟨rel, ql⟩, v⟩ := x; simp only [aCi, aFf, aFg] at hb p7; rcases hb with rfl | rfl
 ·show gA 61 ((Qry.mk rel ql).text ++ r) = false
  rw [Qry.text]
  cases rel <;> rfl
 ·have hop := (p7 rfl).1
  show gA 61 (op ++ 40 :: Lib.join (oB 0 l) [44] ++ [41] ++ r) = false
  simp only [kM, List.mem_cons, List.not_mem_nil, or_false] at hop; rcases hop with rfl | rfl | rfl | rfl | rfl <;> rfl
def stX (e : Xpr) : Prop := e.v.l.isR 8 = true /\ e.v.m.isR 9 = true
theorem Xpr.stB_parts {e : Xpr} (h : e.stB = true) : stX e /\ e.q.stB = true /\ ∀ x ∈ e.l, x.stB = true := by
 obtain ⟨what, l, op, q, v⟩ := e; simp only [Xpr.stB, Vlu.stV, Bool.and_eq_true] at h; obtain ⟨⟨⟨⟨_, _⟩, _, h8, h9⟩, hq⟩, hl⟩ := h; rw [kF] at hl; exact ⟨⟨h8, h9⟩, hq, List.all_eq_true.1 hl⟩
theorem aFh (hsh : e.shaped d = true) (hty : e.typed = true) (hst : e.stB = true) (hl : ∀ x ∈ e.l, ∀ d', x.shaped d' = true -> RX T x d') (hq : ∀ d', e.q.shaped d' = true -> GRd T d' e.q.l) : RX T e d := by
 obtain ⟨h32, ho, hqs, hls⟩ := Xpr.shaped_parts hsh; obtain ⟨h8, _, hst2⟩ := Xpr.stB_parts hst; have hlx := jK hls; obtain ⟨n6, n5, n4, w1, w7, p1, p3, p4, p5, p6, p7⟩ := e.own_parts ho h8; have hwx : ∀ x ∈ e.l, 1 <= x.what := fun x hx => (x.own_parts (Xpr.shaped_parts (hlx x hx)).2.1 (Xpr.stB_parts (hst2 x hx)).1).2.2.2.1; rw [e.typed_eq] at hty; simp only [Bool.and_eq_true] at hty; have hfit := hty.1.1; clear hty hst ho hls hsh; obtain ⟨what, l, op, q, v⟩ := e; simp only [aCi, aFf, aFg, aGE, aGF] at *
 by_cases c1 : what = 1
 ·subst c1; obtain rfl := n6 (by decide); obtain rfl := n5 (by decide); obtain rfl := n4 (by decide) (by decide); simp only [Int.reduceEq, if_false] at hlx; refine rx_E (show (1 : Int) < 2 by decide) ?_
  have ht : (Xpr.mk 1 l [] .zero .null).text = Lib.join ((l.map fun x => (wrX 1 x, x)).map Prod.fst) [32, 124, 124, 32] := by
   rw [kU, <- xG]; rfl
  have := or_E (T := T) (d := d) (H := pG) (l := l.map fun x => (wrX 1 x, x)) (by simpa using p1 (.inl rfl)) fun p hp => by
   obtain ⟨x, hx, rfl⟩ := List.mem_map.1 hp; have h1 := hlx x hx
   by_cases hw : x.what = 1
   ·have hdp : Xpr.deeper (.mk 1 l [] .zero .null) x = 1 := by rw [dH, if_pos (.inl ⟨rfl, hw⟩)]
    rw [hdp] at h1; have h2 := (Xpr.shaped_parts h1).1; rw [hw] at h2; simp only [Int.reduceEq, if_false] at h2; have h3 := aFb (aGD (hl x hx _ h1).2.2.2 h2); have e1 : wrX 1 x = 40 :: x.text ++ [41] := by unfold wrX; rw [if_pos ⟨by omega, by omega⟩]
    simp only [e1]; exact h3
   ·have hdp : Xpr.deeper (.mk 1 l [] .zero .null) x = 0 := by rw [dH, if_neg]; rintro (⟨-, h⟩ | ⟨h, -⟩ | ⟨h, -⟩) <;> first | exact hw h | exact absurd h (by decide)
    rw [hdp, Int.add_zero] at h1; have h2 := hwx x hx; have e1 : wrX 1 x = x.text := by unfold wrX; rw [if_neg (by omega)]
    simp only [e1]; exact (hl x hx _ h1).2.2.1 (by omega)
  rw [<- ht, lU] at this; exact this
 by_cases c2 : what = 2
 ·subst c2; obtain rfl := n6 (by decide); obtain rfl := n5 (by decide); obtain rfl := n4 (by decide) (by decide); simp only [Int.reduceEq, if_false] at hlx; refine rx_B (show (2 : Int) < 3 by decide) ?_
  have ht : (Xpr.mk 2 l [] .zero .null).text = Lib.join ((l.map fun x => (wrX 2 x, x)).map Prod.fst) [32, 38, 38, 32] := by
   rw [kU, <- xG]; rfl
  have := and_B (T := T) (d := d) (H := pG) (l := l.map fun x => (wrX 2 x, x)) (by simpa using p1 (.inr rfl)) fun p hp => by
   obtain ⟨x, hx, rfl⟩ := List.mem_map.1 hp; have h1 := hlx x hx
   by_cases hw : x.what = 1 ∨ x.what = 2
   ·have hdp : Xpr.deeper (.mk 2 l [] .zero .null) x = 1 := by rw [dH, if_pos (.inr (.inl ⟨rfl, hw⟩))]
    rw [hdp] at h1; have h2 := (Xpr.shaped_parts h1).1; rw [if_neg (by omega)] at h2; have h3 := aGD (hl x hx _ h1).2.2.2 h2; have e1 : wrX 2 x = 40 :: x.text ++ [41] := by unfold wrX; rw [if_pos ⟨by omega, by omega⟩]
    simp only [e1]; exact h3
   ·have hdp : Xpr.deeper (.mk 2 l [] .zero .null) x = 0 := by rw [dH, if_neg]; rintro (⟨h, -⟩ | ⟨-, h⟩ | ⟨h, -⟩) <;> first | exact hw h | exact absurd h (by decide)
    rw [hdp, Int.add_zero] at h1; have h2 := hwx x hx; have e1 : wrX 2 x = x.text := by unfold wrX; rw [if_neg (by omega)]
    simp only [e1]; exact (hl x hx _ h1).2.1 (by omega)
  rw [<- ht, lU] at this; exact this
 by_cases c3 : what = 3
 ·subst c3; obtain rfl := n6 (by decide); obtain rfl := n5 (by decide); obtain rfl := n4 (by decide) (by decide); simp only [Int.reduceEq, if_false] at hlx; refine rx_T (show (3 : Int) < 5 by decide) ?_
  match l, p3 rfl with
  | [x], _ =>
   have h1 := hlx x (by simp); have hxt : (oB 0 [x]).flatten = x.text := by rw [xG]; simp [oQ]
   by_cases hb : x.what = 6 ∨ x.what = 7
   ·have hbb : x.bare = true := by unfold Xpr.bare; rcases hb with hb | hb <;> rw [hb] <;> rfl
    have hdp : Xpr.deeper (.mk 3 [x] [] .zero .null) x = 0 := by rw [dH, if_neg]; rintro (⟨h, -⟩ | ⟨h, -⟩ | ⟨-, h⟩) <;> first | exact absurd h (by decide) | (rw [hbb] at h; cases h)
    rw [hdp, Int.add_zero] at h1; have h2 := aFc ((hl x (by simp) _ h1).1 (by omega)) hb (aDi hb (Xpr.shaped_parts h1).2.1 (Xpr.stB_parts (hst2 x (by simp))).1)
    have ht : (Xpr.mk 3 [x] [] .zero .null).text = 33 :: x.text := by
     rw [Xpr.text]; simp only [Int.reduceEq, if_false, if_true, hbb, hxt]
    rw [ht]; exact h2
   ·have hbb : x.bare = false := by unfold Xpr.bare; simp only [not_or] at hb; simp [hb.1, hb.2]
    have hdp : Xpr.deeper (.mk 3 [x] [] .zero .null) x = 1 := by rw [dH, if_pos (.inr (.inr ⟨rfl, hbb⟩))]
    rw [hdp] at h1; have h32' := (Xpr.shaped_parts h1).1; rw [if_neg (by omega)] at h32'; have h2 := aFZ (hl x (by simp) _ h1).2.2.2 h32'
    have ht : (Xpr.mk 3 [x] [] .zero .null).text = [33, 40] ++ x.text ++ [41] := by
     rw [Xpr.text]; simp only [Int.reduceEq, if_false, if_true, hbb, hxt, Bool.false_eq_true]
    rw [ht]; exact h2
 by_cases c4 : what = 4
 ·subst c4; obtain rfl := n6 (by decide); obtain rfl := n5 (by decide); simp only [Int.reduceEq, if_false] at hlx; obtain ⟨hlen, hop⟩ := p4 rfl; refine rx_T (show (4 : Int) < 5 by decide) ?_
  match l, hlen with
  | [x, y], _ =>
   have hdp : ∀ z, Xpr.deeper (.mk 4 [x, y] op .zero .null) z = 0 := fun z => by rw [dH, if_neg]; rintro (⟨h, -⟩ | ⟨h, -⟩ | ⟨h, -⟩) <;> exact absurd h (by decide)
   have hv : ∀ z ∈ [x, y], 5 <= z.what := fun z hz => by
    have h1 : (Xpr.mk 4 [x, y] op .zero .null).right z = true := by
     unfold Xpr.fits at hfit; simp only [Bool.and_eq_true] at hfit; exact List.all_eq_true.1 hfit.1 z hz
    unfold Xpr.right at h1; rw [aCi, if_neg (by decide), if_pos rfl] at h1; unfold Xpr.value at h1; simp only [Bool.or_eq_true, Bool.and_eq_true, beq_iff_eq] at h1; omega
   have hx := hlx x (by simp); have hy := hlx y (by simp); rw [hdp, Int.add_zero] at hx hy; have h2 := cmp_T hop ((hl x (by simp) _ hx).1 (hv x (by simp))) ((hl y (by simp) _ hy).1 (hv y (by simp)))
   have ht : (Xpr.mk 4 [x, y] op .zero .null).text = x.text ++ ((32 :: op ++ [32]) ++ y.text) := by
    show Lib.join (oB 0 [x, y]) (32 :: op ++ [32]) = _
    rw [xG]; simp only [List.map_cons, List.map_nil, oQ]; rw [aAp, Lib.join_one]
   rw [ht]; exact h2
 by_cases c5 : what = 5
 ·subst c5; obtain rfl := n6 (by decide); obtain rfl := n4 (by decide) (by decide); obtain ⟨rfl, hv⟩ := p5 rfl; exact rx_S (lit_S hv h8)
 by_cases c6 : what = 6
 ·subst c6; obtain rfl := n5 (by decide); obtain rfl := n4 (by decide) (by decide); obtain rfl := p6 rfl; simp only [Int.reduceEq, if_false] at hqs; exact rx_S (aHc (hq _ hqs))
 ·obtain rfl : what = 7 := by omega
  obtain rfl := n6 (by decide); obtain rfl := n5 (by decide); obtain ⟨hop, h5⟩ := p7 rfl; simp only [if_true] at hlx h32
  have hne : l ≠ [] := fun e0 => by
   subst e0; unfold Xpr.fits at hfit; simp only [Bool.and_eq_true] at hfit; have h9 : (((7 : Int) != 7) || ((0 : Nat) == (if nA op = true then 2 else 1))) = true := hfit.2; have : ∀ b : Bool, (((7 : Int) != 7) || ((0 : Nat) == (if b = true then 2 else 1))) = false := by decide
   rw [this] at h9
   cases h9
  have ht : (Xpr.mk 7 l op .zero .null).text = op ++ 40 :: Lib.join ((l.map fun x => (x.text, x)).map Prod.fst) [44] ++ [41] := by
   rw [kU]
   show op ++ 40 :: Lib.join (oB 0 l) [44] ++ [41] = _
   rw [xG, List.map_congr_left fun x _ => oQ x]
  have := aHa (T := T) (d := d) hop h32 (l := l.map fun x => (x.text, x)) (by simpa using hne) fun p hp => by
   obtain ⟨x, hx, rfl⟩ := List.mem_map.1 hp; have h1 := hlx x hx; have hdp : Xpr.deeper (.mk 7 l op .zero .null) x = 0 := by rw [dH, if_neg]; rintro (⟨h, -⟩ | ⟨h, -⟩ | ⟨h, -⟩) <;> exact absurd h (by decide)
   rw [hdp, Int.add_zero] at h1; exact (hl x hx _ h1).1 (h5 x hx)
  rw [<- ht, lU] at this; exact rx_S this
end
section
variable {T : List UInt8}
theorem aFi {d : Int} {y : Slr} (hs : y.shaped d = true) (hx : ∀ e ∈ y.f, ∀ d', e.shaped d' = true -> RX T e d') : Rds T (fL T d) qM pG y.text y := by
 obtain ⟨what, name, at_, ⟨h0, h1, h2⟩, ⟨s0, s1, s2⟩, f⟩ := y; simp only [Slr.f] at hx; simp only [Slr.shaped, Bool.and_eq_true, decide_eq_true_eq] at hs; obtain ⟨⟨⟨⟨⟨k1, k2⟩, k3⟩, k4⟩, k5⟩, k6⟩ := hs; have no : ∀ {v : Int}, lG v = true -> -9007199254740991 <= v /\ v <= 9007199254740991 := fun h => by simpa [lG] using h
 have hn : what ≠ 1 -> name = [] := fun h => by rw [if_neg h, List.isEmpty_iff] at k3; exact k3
 have ha : what ≠ 3 -> at_ = 0 := fun h => by rw [if_neg h, decide_eq_true_eq] at k4; exact k4
 have hh : what ≠ 4 -> (h0, h1, h2) = (false, false, false) /\ (s0, s1, s2) = (0, 0, 0) := fun h => by rw [if_neg h] at k5; simpa only [Bool.and_eq_true, decide_eq_true_eq] using k5
 have hf : what ≠ 5 -> f = [] := fun h => by rw [if_neg h, List.isEmpty_iff] at k6; exact k6
 by_cases c1 : what = 1
 ·subst c1; rw [if_pos rfl] at k3; obtain rfl := ha (by decide); obtain ⟨e1, e2⟩ := hh (by decide); obtain rfl := hf (by decide); rw [e1, e2]; exact aFd k3
 obtain rfl := hn c1
 by_cases c2 : what = 2
 ·subst c2; obtain rfl := ha (by decide); obtain ⟨e1, e2⟩ := hh (by decide); obtain rfl := hf (by decide); rw [e1, e2]; exact aFe
 by_cases c3 : what = 3
 ·subst c3; rw [if_pos rfl] at k4; obtain ⟨e1, e2⟩ := hh (by decide); obtain rfl := hf (by decide); rw [e1, e2]; exact aHb (no k4).1 (no k4).2
 obtain rfl := ha c3
 by_cases c4 : what = 4
 ·subst c4; obtain rfl := hf (by decide); rw [if_pos rfl] at k5; simp only [Bool.and_eq_true, Bool.or_eq_true, decide_eq_true_eq] at k5; obtain ⟨⟨⟨a1, a2⟩, b1, b2⟩, g1, g2⟩ := k5; have := aBw (T := T) (d := d) (ha := h0) (hb := h1) (hc := h2) (no a1).1 (no a1).2 (no b1).1 (no b1).2 (no g1).1 (no g1).2; have e0 : (if h0 = true then s0 else 0) = s0 := by rcases a2 with a2 | a2 <;> simp [a2]
  have e1 : (if h1 = true then s1 else 0) = s1 := by rcases b2 with b2 | b2 <;> simp [b2]
  have e2 : (if h2 = true then s2 else 0) = s2 := by rcases g2 with g2 | g2 <;> simp [g2]
  rw [e0, e1, e2] at this; exact this
 ·obtain rfl : what = 5 := by omega
  obtain ⟨e1, e2⟩ := hh (by decide); rw [e1, e2]; rw [if_pos rfl] at k6; simp only [Bool.and_eq_true, decide_eq_true_eq] at k6
  match f, k6.1 with
  | [e], _ =>
   have h1 := jK k6.2 e (by simp); rw [Int.add_zero] at h1; have h32 := (Xpr.shaped_parts h1).1; have := aBv (hx e (by simp) _ h1).2.2.2 (by split at h32 <;> omega)
   have ht : (Slr.mk 5 [] 0 (false, false, false) (0, 0, 0) [e]).text = 63 :: e.text := by
    rw [Slr.text]; simp only [Int.reduceEq, if_false]; rw [xG]
    simp [oQ]
   rw [ht]; exact this
theorem aFj : ∀ n : Nat, (∀ e : Xpr, e.wt <= n -> ∀ d, e.shaped d = true -> e.typed = true -> e.stB = true -> RX T e d) /\ ∀ q : Qry, q.wt <= n -> ∀ d, q.shaped d = true -> q.typed = true -> q.stB = true -> GRd T d q.l := by
 have hQ : ∀ (n : Nat), (∀ e : Xpr, e.wt < n -> ∀ d, e.shaped d = true -> e.typed = true -> e.stB = true -> RX T e d) -> ∀ q : Qry, q.wt <= n -> ∀ d, q.shaped d = true -> q.typed = true -> q.stB = true -> GRd T d q.l := fun n ih q hq d hs ht hst => by
  rw [q.typed_all] at ht; have ht := List.all_eq_true.1 ht; have hw : ∀ e ∈ q.fil, e.wt < n := fun e he => Nat.lt_of_lt_of_le (Qry.fil_lt he) hq; obtain ⟨rel, l⟩ := q; rw [Qry.stB, uH] at hst; rw [Qry.shaped] at hs; refine mW l fun x hx => ?_; have hxs := iN hs x hx; have hxt := List.all_eq_true.1 hst x hx; obtain ⟨dp, sl⟩ := x; simp only [Sgm.shaped, Bool.and_eq_true, Bool.not_eq_true', List.isEmpty_eq_false_iff] at hxs; rw [Sgm.stB, vH] at hxt; refine ⟨hxs.1, fun y hy => aFi (jN hxs.2 y hy) fun e he d' hd' => ?_⟩; have hyt := List.all_eq_true.1 hxt y hy
  have hm : e ∈ (Qry.mk rel l).fil := by
   unfold Qry.fil kB mB; exact List.mem_flatMap.2 ⟨_, hx, List.mem_flatMap.2 ⟨y, hy, he⟩⟩
  have h1 := ht e hm; simp only [Bool.and_eq_true] at h1; refine ih e (hw e hm) d' hd' h1.1 ?_; obtain ⟨_, _, _, _, _, f⟩ := y; simp only [Slr.stB, Bool.and_eq_true] at hyt; exact List.all_eq_true.1 ((kF f).symm.trans hyt.2) e he
 intro n
 induction n with
 | zero => exact ⟨fun e he => absurd e.wt_pos (by omega), fun q hq => hQ 0 (fun e he => absurd he (Nat.not_lt_zero _)) q hq⟩
 | succ n ih =>
  refine ⟨fun e he d hs ht hst => ?_, fun q hq => hQ (n + 1) (fun e he => ih.1 e (by omega)) q hq⟩; have hw := e.wt_eq; obtain ⟨_, hq2, hl2⟩ := Xpr.stB_parts hst; have ht2 := ht; rw [e.typed_eq] at ht2; simp only [Bool.and_eq_true] at ht2; exact aFh hs ht hst (fun x hx d' hd' => ih.1 x (by have := cC hx; omega) d' hd' (List.all_eq_true.1 ht2.2 x hx) (hl2 x hx)) (fun d' hd' => ih.2 e.q (by omega) d' hd' ht2.1.2 hq2)
end
theorem aBy {q : Qry} (hs : q.sane = true) (hst : q.stB = true) (hl : q.text.length <= 8192) : qD q.text = .ok q := by
 unfold Qry.sane at hs; simp only [Bool.and_eq_true, Bool.not_eq_true', decide_eq_true_eq] at hs; obtain ⟨⟨⟨h1, h2⟩, h3⟩, h4⟩ := hs; have hg := (aFj (T := q.text) q.wt).2 q (Nat.le_refl _) 0 h2 h3 hst; obtain ⟨rel, l⟩ := q; simp only [Qry.rel, Qry.l] at h1 hg; subst h1; have e : (Qry.mk false l).text = 36 :: (iE l).flatten := rfl; have hd : (Qry.mk false l).text.drop 1 = (iE l).flatten ++ [] := by rw [e]; simp
 obtain ⟨ts, i1, i2, i3⟩ := hg 1 [] [] hd (aEE _) (.inl rfl); rw [List.append_nil, List.append_nil] at i1; have ht := aCY (l := (Qry.mk false l).text) (by rw [e]; exact jF (a := 0) (c := 36) (by decide) i1) hl; obtain ⟨m', j1, j2⟩ := i3 (ts.length + 1) 0 (ts.length + 1) (by omega) (by decide) (by omega); refine aCZ (m := m') ht ?_ j1 h3 h4; unfold xR
 dsimp only
 rw [if_pos (bI _ _ _ _ _ _)]; simp only [QS.go, List.drop_succ_cons, List.drop_zero, List.length_cons]; unfold wD
 dsimp only
 rw [List.append_nil] at j2; rw [j2]
 simp
end
section
open Go.RowKit Go.Shelf
theorem aHe {x : Xpr} {d : Int} (hs : x.shaped d = true) (hst : x.stB = true) (hf : x.fw <= 400) : LitV x.v := by
 obtain ⟨_, ho, _, _⟩ := Xpr.shaped_parts hs; obtain ⟨h8, _, _⟩ := Xpr.stB_parts hst; obtain ⟨_, n5, _, _, _, _, _, _, p5, _, _⟩ := x.own_parts ho h8; have hw := x.fw_eq; refine ⟨fun hk => ?_, by omega, h8.1, h8.2⟩
 by_cases h5 : x.what = 5
 ·have hl := (p5 h5).2; unfold Vlu.lit at hl; simp only [Bool.and_eq_true] at hl; exact hl.1.2
 ·rw [n5 h5] at hk; exact absurd hk (by decide)
theorem aGc : ∀ n : Nat, n <= 1000000 -> (∀ (q : Qry) (d : Int), q.wt <= n -> q.shaped d = true -> q.stB = true -> q.fw <= 400 -> SmQ q) /\ ∀ (f : List Xpr) (d : Int) (m : Xpr -> Int), uB f <= n -> wB d m f = true -> (∀ x ∈ f, x.stB = true) -> zC f <= 400 -> SmX f := by
 have hQ : ∀ (n : Nat), n <= 1000000 -> (∀ (f : List Xpr) (d : Int) (m : Xpr -> Int), uB f < n -> wB d m f = true -> (∀ x ∈ f, x.stB = true) -> zC f <= 400 -> SmX f) -> ∀ (q : Qry) (d : Int), q.wt <= n -> q.shaped d = true -> q.stB = true -> q.fw <= 400 -> SmQ q := fun n hn ih q d hq hs hst hf w N M cs ds h1 h2 => by
  refine aDg h1 h2 (by omega) fun x hx y hy => ?_; have a1 := rC hx; have a2 := tG hy; have a3 := q.wt_eq; have a4 := x.wt_eq; have a5 := y.wt_eq; have b1 := zL hx; have b2 := aM hy; have b3 := q.fw_eq; have b4 := x.fw_eq; have b5 := y.fw_eq; obtain ⟨rel, l⟩ := q; rw [Qry.stB, uH] at hst; rw [Qry.shaped] at hs; have hxs := iN hs x hx; have hxt := List.all_eq_true.1 hst x hx; obtain ⟨dp, sl⟩ := x; simp only [Sgm.shaped, Bool.and_eq_true] at hxs; rw [Sgm.stB, vH] at hxt; have hys := jN hxs.2 y hy; have hyt := List.all_eq_true.1 hxt y hy; obtain ⟨what, name, at_, ⟨h0, h1, h2⟩, ⟨s0, s1, s2⟩, f⟩ := y; simp only [Slr.stB, Bool.and_eq_true] at hyt; have hyx := List.all_eq_true.1 ((kF f).symm.trans hyt.2); simp only [Slr.shaped, Bool.and_eq_true, decide_eq_true_eq] at hys; have k6 := hys.2; simp only [Slr.f] at *
  by_cases h5 : what = 5
  ·rw [if_pos h5, Bool.and_eq_true] at k6; exact ih f (d + 1) (fun _ => 0) (by omega) k6.2 hyx (by omega)
  ·rw [if_neg h5, List.isEmpty_iff] at k6; subst k6; exact aCd
 intro n
 induction n with
 | zero =>
  intro _; refine ⟨hQ 0 (by decide) fun f d m hf => absurd hf (Nat.not_lt_zero _), fun f d m hf _ _ _ => ?_⟩; have := yC f; obtain rfl : f = [] := List.length_eq_zero_iff.1 (by omega); exact aCd
 | succ n ih =>
  intro hn; have ih := ih (by omega); refine ⟨hQ (n + 1) hn fun f d m hf => ih.2 f d m (by omega), fun f d m hf hs hst hfw => aEZ (by have := yC f; omega) fun x hx => ?_⟩; have a1 := cC hx; have a2 := x.wt_eq; have b1 := wH hx; have b2 := x.fw_eq; have hxs := jK hs x hx; obtain ⟨_, _, c3, c4⟩ := Xpr.shaped_parts hxs; obtain ⟨_, c5, c6⟩ := Xpr.stB_parts (hst x hx); exact ⟨ih.2 x.l _ _ (by omega) c4 c6 (by omega), ih.1 x.q _ (by omega) c3 c5 (by omega), aHe hxs (hst x hx) (by omega)⟩
theorem Qry.same_any {q : Qry} (hs : q.sane = true) (hst : q.stB = true) (hf : q.fw <= 400) : SmQ q := by
 unfold Qry.sane at hs; simp only [Bool.and_eq_true] at hs; have := q.wt_le; exact (aGc q.wt (by omega)).1 q 0 (Nat.le_refl _) hs.1.1.2 hst hf
end
end Go.Proofs.YtbggkiebfflcdaaGreatDoor
