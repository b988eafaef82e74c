/-
  JournalPlays: both disks, both logs and what both tell, side by side; Open on both sides.
-/
import Derived.Test.YtbgcbikgjedkkaaKe
import Derived.Test.YtbgcbikgjedkkaaKf
namespace Go.Proofs.Ytbgcbikgjedkkaa
open Go.RowKit

section
variable {P : Program} {ops : Array Oper} {Q : Exit → Act → World → Prop} {md : Region.Mode} {S : World → Prop} {I : List Nat}
/-- As wpAnyK_step, where the operation is guarded and wanted. -/
theorem wpAnyK_stepg {j : Nat} (d : Option Tmp) {o : Oper} {fuel : Nat} {listed : Array Bool} {a : Act} {w : World} (ho : ops[j]? = some o) (hd : o.dst = d) (hr : Region.ready md ops listed = [j]) (hg : Region.wanted o (yielded ops a.tmps) = true)
    (h : ∀ K : Act → World → Prop, (∀ v w', (crosses md ops I j = true → S w') → wpAnyK P md ops Q S I fuel (listed.setIfInBounds j true) (a.put d v) w' → K (a.put o.dst v) w') → Oper.wp P o a w K Q) :
    wpAnyK P md ops Q S I (fuel + 1) listed a w := by
  subst hd
  refine ⟨fun h0 => absurd (hr ▸ h0) (by simp), fun i hi => ?_⟩
  rw [hr] at hi
  obtain rfl : i = j := by simpa using hi
  refine wpOp_step ho fun K hK => ?_
  rw [if_pos hg]
  exact h K (fun v w' h1 h2 => hK _ w' ⟨h1, h2⟩)
end

/-- Both disks; Z: blocks that are none of theirs. -/
structure PSt (W w : World) (d m N : Nat) (D1 D2 : DM) (fd fm : List Nat) (Z : Nat → Prop) : Prop where
  d1 : DiskAt w d D1 fd
  d2 : RefAt w m D2 fm
  dis : ∀ k ∈ fd, k ∉ fm
  ld : ∀ k ∈ fd, W.heap.size ≤ k
  lm : ∀ k ∈ fm, W.heap.size ≤ k
  zd : ∀ z, Z z → z ∉ fd ∧ z ∉ fm ∧ z < w.heap.size
  f : Fr [] W w
  n1 : D1.S.length = N
  n2 : D2.S.length = N
section
variable {W w w' : World} {d m N : Nat} {D1 D2 D1' D2' : DM} {fd fm : List Nat} {Z Y : Nat → Prop}
theorem PSt.fr (h : PSt W w d m N D1 D2 fd fm Z) (hf : Fr [] w w') : PSt W w' d m N D1 D2 fd fm (fun z => Z z ∨ w.heap.size ≤ z ∧ z < w'.heap.size) := by
  have hz := hf.size
  refine ⟨h.d1.fr hf (by simp), (locRef m D2).fr h.d2 hf (by simp), h.dis, h.ld, h.lm, ?_, h.f.trans hf (by simp), h.n1, h.n2⟩
  rintro z (hx | hx)
  · have := h.zd z hx; exact ⟨this.1, this.2.1, by omega⟩
  · exact ⟨fun hm => by have := h.d1.lt z hm; omega, fun hm => by have := (locRef m D2).lt h.d2 z hm; omega, hx.2⟩
theorem PSt.weak (h : PSt W w d m N D1 D2 fd fm Z) (hY : ∀ k, Y k → Z k) : PSt W w d m N D1 D2 fd fm Y :=
  ⟨h.d1, h.d2, h.dis, h.ld, h.lm, fun z hz => h.zd z (hY z hz), h.f, h.n1, h.n2⟩
theorem PSt.stay (h : PSt W w d m N D1 D2 fd fm Z) (hf : Fr [] w w') : PSt W w' d m N D1 D2 fd fm Z := (h.fr hf).weak fun _ hz => .inl hz
theorem PSt.stepD (h : PSt W w d m N D1 D2 fd fm Z) (hs : DStep w w' d D1' fd) (hN : D1'.S.length = N) : ∃ fd', PSt W w' d m N D1' D2 fd' fm Z ∧ Kp Z w w' := by
  obtain ⟨fd', h1, hf, hn⟩ := hs
  have hz := h.f.size
  have hz' := hf.size
  refine ⟨fd', ⟨h1, (locRef m D2).fr h.d2 hf (fun k hk hm => h.dis k hm hk), fun k hk hm => ?_, fun k hk => ?_, h.lm, fun z hZ => ?_, h.f.trans hf (fun x hx => .inr (h.ld x hx)), hN, h.n2⟩, fd, hf, fun x hx hZ => (h.zd x hZ).1 hx⟩
  · rcases hn k hk with h' | h'
    · exact h.dis k h' hm
    · have := (locRef m D2).lt h.d2 k hm; omega
  · rcases hn k hk with h' | h'
    · exact h.ld k h'
    · omega
  · have h0 := h.zd z hZ
    refine ⟨fun hm => ?_, h0.2.1, by omega⟩
    rcases hn z hm with h' | h'
    · exact h0.1 h'
    · omega
theorem PSt.stepR (h : PSt W w d m N D1 D2 fd fm Z) (hs : Step (tR m D2') w w' fm) (hN : D2'.S.length = N) : ∃ fm', PSt W w' d m N D1 D2' fd fm' Z ∧ Kp Z w w' := by
  obtain ⟨fm', h1, hf, hn⟩ := hs
  have hz := h.f.size
  have hz' := hf.size
  refine ⟨fm', ⟨h.d1.fr hf h.dis, h1, fun k hk hm => ?_, h.ld, fun k hk => ?_, fun z hZ => ?_, h.f.trans hf (fun x hx => .inr (h.lm x hx)), h.n1, hN⟩, fm, hf, fun x hx hZ => (h.zd x hZ).2.1 hx⟩
  · rcases hn k hm with h' | h'
    · exact h.dis k hk h'
    · have := h.d1.lt k hk; omega
  · rcases hn k hk with h' | h'
    · exact h.lm k h'
    · omega
  · have h0 := h.zd z hZ
    refine ⟨h0.1, fun hm => ?_, by omega⟩
    rcases hn z hm with h' | h'
    · exact h0.2.1 h'
    · omega
theorem PSt.write (h : PSt W w d m N D1 D2 fd fm Z) {g : Nat} (hf : Fr [g] w w') (hg : Z g) (hW : W.heap.size ≤ g) : PSt W w' d m N D1 D2 fd fm Z ∧ Kp (fun z => Z z ∧ z ≠ g) w w' := by
  have hz' := hf.size
  have h0 := h.zd g hg
  refine ⟨⟨h.d1.fr hf (fun k hk hm => by simp at hm; subst hm; exact h0.1 hk), (locRef m D2).fr h.d2 hf (fun k hk hm => by simp at hm; subst hm; exact h0.2.1 hk), h.dis, h.ld, h.lm, fun z hZ => ?_, h.f.trans hf (fun x hx => .inr (by simp at hx; subst hx; exact hW)), h.n1, h.n2⟩, [g], hf, fun x hx hZ => by simp at hx; exact hZ.2 hx⟩
  have := h.zd z hZ
  exact ⟨this.1, this.2.1, by omega⟩
/-- A log's own Append on the program's side. -/
theorem PSt.stepJ (h : PSt W w d m N D1 D2 fd fm Z) {lg : Nat} {l' : LG} (hl : Z lg) (hW : W.heap.size ≤ lg) (hs : JStep w w' lg d l' D1' fd) (hN : D1'.S.length = N) : ∃ fd', PSt W w' d m N D1' D2 fd' fm Z ∧ Kp (fun z => Z z ∧ z ≠ lg) w w' ∧ Blk w' lg 84 (l'.cells d) := by
  obtain ⟨fd', hj, hf, hn⟩ := hs
  have hz := h.f.size
  have hz' := hf.size
  have h0 := h.zd lg hl
  refine ⟨fd', ⟨hj.disk, (locRef m D2).fr h.d2 hf (fun k hk hm => ?_), fun k hk hm => ?_, fun k hk => ?_, h.lm, fun z hZ => ?_, h.f.trans hf (fun x hx => .inr ?_), hN, h.n2⟩, ⟨lg :: fd, hf, fun x hx hZ => ?_⟩, hj.log⟩
  · rcases List.mem_cons.1 hm with rfl | hm
    · exact h0.2.1 hk
    · exact h.dis k hm hk
  · rcases hn k hk with h' | h'
    · exact h.dis k h' hm
    · have := (locRef m D2).lt h.d2 k hm; omega
  · rcases hn k hk with h' | h'
    · exact h.ld k h'
    · omega
  · have h1 := h.zd z hZ
    refine ⟨fun hm => ?_, h1.2.1, by omega⟩
    rcases hn z hm with h' | h'
    · exact h1.1 h'
    · omega
  · rcases List.mem_cons.1 hx with rfl | hx
    · exact hW
    · exact h.ld x hx
  · rcases List.mem_cons.1 hx with rfl | hx
    · exact hZ.2 rfl
    · exact (h.zd x hZ.1).1 hx
/-- .. and on the reference's. -/
theorem PSt.stepK (h : PSt W w d m N D1 D2 fd fm Z) {lg : Nat} {l' : LG} (hl : Z lg) (hW : W.heap.size ≤ lg) (hs : RJStep w w' lg m l' D2' fm) (hN : D2'.S.length = N) : ∃ fm', PSt W w' d m N D1 D2' fd fm' Z ∧ Kp (fun z => Z z ∧ z ≠ lg) w w' ∧ Blk w' lg 99 (l'.rcells m) := by
  obtain ⟨fm', hj, hf, hn⟩ := hs
  have hz := h.f.size
  have hz' := hf.size
  have h0 := h.zd lg hl
  refine ⟨fm', ⟨h.d1.fr hf (fun k hk hm => ?_), hj.disk, fun k hk hm => ?_, h.ld, fun k hk => ?_, fun z hZ => ?_, h.f.trans hf (fun x hx => .inr ?_), h.n1, hN⟩, ⟨lg :: fm, hf, fun x hx hZ => ?_⟩, hj.log⟩
  · rcases List.mem_cons.1 hm with rfl | hm
    · exact h0.1 hk
    · exact h.dis k hk hm
  · rcases hn k hm with h' | h'
    · exact h.dis k hk h'
    · have := h.d1.lt k hk; omega
  · rcases hn k hk with h' | h'
    · exact h.lm k h'
    · omega
  · have h1 := h.zd z hZ
    refine ⟨h1.1, fun hm => ?_, by omega⟩
    rcases hn z hm with h' | h'
    · exact h1.2.1 h'
    · omega
  · rcases List.mem_cons.1 hx with rfl | hx
    · exact hW
    · exact h.lm x hx
  · rcases List.mem_cons.1 hx with rfl | hx
    · exact hZ.2 rfl
    · exact (h.zd x hZ.1).2.1 hx
end

/-! ### Open on both sides -/
def openE (D : DM) (f n : Int) : Int :=
  if D.dead then 10 else if n < 1 ∨ (D.S.length : Int) < n ∨ (D.S.length : Int) - n < f then 1 else if (newestOf (D.part f.toNat n.toNat)).1 = 4294967295 then 5 else 0
def openX (D : DM) (f n : Int) : List (List UInt8) := if openE D f n = 0 then (openR D f.toNat n.toNat).map (·.2) else []
theorem openE_zero {D : DM} {f n : Int} (hf : 0 ≤ f) (h : openE D f n = 0) : D.dead = false ∧ 1 ≤ n.toNat ∧ f.toNat + n.toNat ≤ D.S.length ∧ (newestOf (D.part f.toNat n.toNat)).1 ≠ 4294967295 := by
  unfold openE at h
  split at h
  · cases h
  · rename_i h1
    split at h
    · cases h
    · rename_i h2
      split at h
      · cases h
      · rename_i h3
        exact ⟨by simpa using h1, by omega, by omega, h3⟩
theorem newest_bd (L : List (List UInt8)) : (newestOf L).1 < 4294967296 := by
  rw [newestOf_eq]
  exact (newFrom_bd L (0, 0) ⟨by decide, by decide⟩).1
theorem newestNe {L : List (List UInt8)} (h : (newestOf L).1 ≠ 4294967295) : (newestOf L).1 < 4294967295 := by
  have := newest_bd L
  omega

/-- What journal.Open answers, whatever is asked. -/
theorem open_any {w : World} {d : Nat} {D : DM} {fp : List Nat} (hd : DiskAt w d D fp) (f n : Int) (hf0 : 0 ≤ f) (hn1 : -1000000 ≤ n) (hn2 : n ≤ 1000000) :
    Calls Try.prog 32 #[.pointer (some ⟨d, 0, none⟩), .int .i64 f, .int .i64 n] w fun e w' => ∃ av out, e = .returned (.tuple #[av, out, .int .i64 (openE D f n)]) ∧ Fr [] w w' ∧ RowsAt w' out (openX D f n) (w.heap.size + 1) ∧
      (openE D f n = 0 → av = .pointer (some ⟨w.heap.size, 0, none⟩) ∧ Blk w' w.heap.size 84 ((openL D f.toNat n.toNat).cells d)) := by
  by_cases h0 : openE D f n = 0
  · obtain ⟨h1, h2, h3, h4⟩ := openE_zero hf0 h0
    have := open_ok hd h1 h2 h3 (newestNe h4)
    have ef : ((f.toNat : Nat) : Int) = f := by omega
    have en : ((n.toNat : Nat) : Int) = n := by omega
    rw [ef, en] at this
    refine this.mono ?_
    rintro e w' ⟨out, rfl, hr, hb, hf⟩
    refine ⟨_, out, by rw [h0], hf, ?_, fun _ => ⟨rfl, hb⟩⟩
    unfold openX
    rw [if_pos h0]
    exact hr
  · have hX : openX D f n = [] := by unfold openX; rw [if_neg h0]
    rw [hX]
    have hnil : ∀ w', RowsAt w' (.slice none 0 0) [] (w.heap.size + 1) := fun w' => ⟨[], RowsIn.nil _ _⟩
    by_cases b1 : D.dead = true
    · have hE : openE D f n = 10 := by unfold openE; rw [if_pos b1]
      refine (open_dead hd b1 f n).mono ?_
      rintro e w' ⟨rfl, rfl⟩
      exact ⟨_, _, by rw [hE], Fr.refl _ _, hnil _, fun h => absurd h h0⟩
    · have b1' : D.dead = false := by simpa using b1
      by_cases b2 : n < 1 ∨ (D.S.length : Int) < n ∨ (D.S.length : Int) - n < f
      · have hE : openE D f n = 1 := by unfold openE; rw [if_neg b1, if_pos b2]
        refine (open_arg hd b1' f n hn1 hn2 hf0 b2).mono ?_
        rintro e w' ⟨rfl, rfl⟩
        exact ⟨_, _, by rw [hE], Fr.refl _ _, hnil _, fun h => absurd h h0⟩
      · have b3 : (newestOf (D.part f.toNat n.toNat)).1 = 4294967295 := by
          by_cases b3 : (newestOf (D.part f.toNat n.toNat)).1 = 4294967295
          · exact b3
          · exact absurd (by unfold openE; rw [if_neg b1, if_neg b2, if_neg b3]) h0
        have hE : openE D f n = 5 := by unfold openE; rw [if_neg b1, if_neg b2, if_pos b3]
        have := open_full hd b1' (f := f.toNat) (n := n.toNat) (by omega) (by omega) b3
        have ef : ((f.toNat : Nat) : Int) = f := by omega
        have en : ((n.toNat : Nat) : Int) = n := by omega
        rw [ef, en] at this
        refine this.mono ?_
        rintro e w' ⟨rfl, hf⟩
        exact ⟨_, _, by rw [hE], hf, hnil _, fun h => absurd h h0⟩
/-- What the reference's Open answers. -/
theorem ropen_any {w : World} {m : Nat} {D : DM} {fp : List Nat} (hd : RefAt w m D fp) (f n : Int) (hf0 : 0 ≤ f) (hn1 : -1000000 ≤ n) (hn2 : n ≤ 1000000) :
    Calls Try.prog 40 #[.pointer (some ⟨m, 0, none⟩), .int .i64 f, .int .i64 n] w fun e w' => ∃ av out lg, e = .returned (.tuple #[av, out, .int .i64 (openE D f n)]) ∧ Fr [] w w' ∧ w.heap.size ≤ lg ∧ RowsAt w' out (openX D f n) (lg + 1) ∧
      (openE D f n = 0 → av = .pointer (some ⟨lg, 0, none⟩) ∧ Blk w' lg 99 ((openL D f.toNat n.toNat).rcells m)) := by
  have hnil : ∀ w', RowsAt w' (.slice none 0 0) [] (w.heap.size + 1) := fun w' => ⟨[], RowsIn.nil _ _⟩
  by_cases b1 : D.dead = true
  · have hE : openE D f n = 10 := by unfold openE; rw [if_pos b1]
    refine (ropen_dead hd b1 f n).mono ?_
    rintro e w' ⟨rfl, rfl⟩
    exact ⟨_, _, w.heap.size, by rw [hE], Fr.refl _ _, Nat.le_refl _, by unfold openX; rw [hE, if_neg (by decide)]; exact hnil _, fun h => by rw [hE] at h; cases h⟩
  · have b1' : D.dead = false := by simpa using b1
    by_cases b2 : n < 1 ∨ (D.S.length : Int) < n ∨ (D.S.length : Int) - n < f
    · have hE : openE D f n = 1 := by unfold openE; rw [if_neg b1, if_pos b2]
      refine (ropen_arg hd b1' f n hn1 hn2 hf0 b2).mono ?_
      rintro e w' ⟨rfl, rfl⟩
      exact ⟨_, _, w.heap.size, by rw [hE], Fr.refl _ _, Nat.le_refl _, by unfold openX; rw [hE, if_neg (by decide)]; exact hnil _, fun h => by rw [hE] at h; cases h⟩
    · have := ropen_ok hd b1' (f := f.toNat) (n := n.toNat) (by omega) (by omega)
      have ef : ((f.toNat : Nat) : Int) = f := by omega
      have en : ((n.toNat : Nat) : Int) = n := by omega
      rw [ef, en] at this
      refine this.mono ?_
      rintro e w' (⟨b3, rfl, hf⟩ | ⟨b3, lg, out, rfl, hlg, hr, hb, hf⟩)
      · have hE : openE D f n = 5 := by unfold openE; rw [if_neg b1, if_neg b2, if_pos b3]
        exact ⟨_, _, w.heap.size, by rw [hE], hf, Nat.le_refl _, by unfold openX; rw [hE, if_neg (by decide)]; exact hnil _, fun h => by rw [hE] at h; cases h⟩
      · have hE : openE D f n = 0 := by unfold openE; rw [if_neg b1, if_neg b2, if_neg (by omega)]
        exact ⟨_, out, lg, by rw [hE], hf, hlg, by unfold openX; rw [hE, if_pos rfl]; exact hr, fun _ => ⟨rfl, hb⟩⟩

end Go.Proofs.Ytbgcbikgjedkkaa
