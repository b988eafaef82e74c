/-
  The reference disk of layer 6 in memory, and the contracts of spend, Limit, zeros, New and Write. For every disk.
-/
import Derived.Test.YtbgcbikgjedkkaaDiskE
import Derived.Test.YtbgcbikgjedkkaaStr
import Derived.Test.YtbgcbikgjedkkaaPair
namespace Go.Proofs.Ytbgcbikgjedkkaa
open Go.RowKit

def str (s : List UInt8) : Value := .string ⟨s.toArray⟩
def wcells (P : List (Nat × List UInt8)) : List Value := P.flatMap fun p => [.int .i64 (p.1 : Int), str p.2]
theorem wcells_len (Ps : List (Nat × List UInt8)) : (wcells Ps).length = Ps.length * 2 := by
  induction Ps with
  | nil => rfl
  | cons p Ps ih => simp only [wcells, List.flatMap_cons, List.length_append, List.length_cons, List.length_nil] at ih ⊢; omega
theorem wcells_at : ∀ {Ps : List (Nat × List UInt8)} {k : Nat} {p : Nat × List UInt8}, Ps[k]? = some p → (wcells Ps)[k * 2]? = some (.int .i64 (p.1 : Int)) ∧ (wcells Ps)[k * 2 + 1]? = some (str p.2)
  | [], k, p, h => by simp at h
  | q :: Ps, 0, p, h => by
    obtain rfl : q = p := by simpa using h
    simp [wcells]
  | q :: Ps, k + 1, p, h => by
    have ih := wcells_at (Ps := Ps) (k := k) (p := p) (by simpa using h)
    have e : (k + 1) * 2 = k * 2 + 1 + 1 := by omega
    rw [e]
    simpa [wcells] using ih
theorem wcells_append (A B : List (Nat × List UInt8)) : wcells (A ++ B) = wcells A ++ wcells B := by simp [wcells]

def RefIn (w : World) (m : Nat) (sv pv : Value) (D : DM) : Prop :=
  Blk w m 48 [sv, pv, .int .i64 D.limit, .bool D.dead, .int .i64 (D.done : Int)] ∧ w.ownsRow 0 9 1 sv D.S.length (D.S.map str) ∧ w.ownsRow 0 81 2 pv D.P.length (wcells D.P) ∧ D.ok
def rfp (m : Nat) (sv pv : Value) : List Nat := m :: (sv.ownBlock.toList ++ pv.ownBlock.toList)
def RefAt (w : World) (m : Nat) (D : DM) (f : List Nat) : Prop := ∃ sv pv, f = rfp m sv pv ∧ RefIn w m sv pv D
def tR (m : Nat) (D : DM) : Thing := fun w f => RefAt w m D f
section
variable {w w' : World} {m : Nat} {sv pv : Value} {D D' : DM}
theorem RefIn.c0 (h : RefIn w m sv pv D) : w.cell? ⟨m, 0, none⟩ = some sv := h.1.at_ rfl
theorem RefIn.c1 (h : RefIn w m sv pv D) : w.cell? ⟨m, 1, none⟩ = some pv := h.1.at_ rfl
theorem RefIn.c2 (h : RefIn w m sv pv D) : w.cell? ⟨m, 2, none⟩ = some (.int .i64 D.limit) := h.1.at_ rfl
theorem RefIn.c3 (h : RefIn w m sv pv D) : w.cell? ⟨m, 3, none⟩ = some (.bool D.dead) := h.1.at_ rfl
theorem RefIn.c4 (h : RefIn w m sv pv D) : w.cell? ⟨m, 4, none⟩ = some (.int .i64 (D.done : Int)) := h.1.at_ rfl
theorem RefIn.free (h : RefIn w m sv pv D) (i : Nat) : w.frozen? ⟨m, i, none⟩ = false := h.1.free i
theorem RefIn.ne1 (h : RefIn w m sv pv D) : sv.ownBlock ≠ some m := own_ne h.2.1 h.1 (by decide)
theorem RefIn.ne2 (h : RefIn w m sv pv D) : pv.ownBlock ≠ some m := own_ne h.2.2.1 h.1 (by decide)
theorem RefIn.ne3 (h : RefIn w m sv pv D) {g : Nat} (hs : sv.ownBlock = some g) : pv.ownBlock ≠ some g := by
  intro hp
  rcases h.2.1.2 with ⟨rfl, _⟩ | ⟨g1, c1, cur1, rfl, _, h1, _⟩
  · simp [Value.ownBlock] at hs
  · rcases h.2.2.1.2 with ⟨rfl, _⟩ | ⟨g2, c2, cur2, rfl, _, h2, _⟩
    · simp [Value.ownBlock] at hp
    · have e1 : g1 = g := by simpa [Value.ownBlock] using hs
      have e2 : g2 = g := by simpa [Value.ownBlock] using hp
      subst e1; subst e2
      rw [h1] at h2
      injection h2 with h2
      injection h2 with _ h3
      exact absurd h3 (by decide)
theorem RefIn.fr {S : List Nat} (h : RefIn w m sv pv D) (hf : Fr S w w') (hS : ∀ k ∈ rfp m sv pv, k ∉ S) : RefIn w' m sv pv D :=
  ⟨h.1.fr hf (hS m (by simp [rfp])), own_fr h.2.1 hf (fun g hg => hS g (by simp [rfp, hg])), own_fr h.2.2.1 hf (fun g hg => hS g (by simp [rfp, hg])), h.2.2.2⟩
theorem RefIn.lt (h : RefIn w m sv pv D) : ∀ k ∈ rfp m sv pv, k < w.heap.size := by
  intro k hk
  simp only [rfp, List.mem_cons, List.mem_append, Option.mem_toList] at hk
  rcases hk with rfl | hk | hk
  · exact h.1.lt
  · exact own_lt h.2.1 k hk
  · exact own_lt h.2.2.1 k hk
theorem locRef (m : Nat) (D : DM) : Loc (tR m D) :=
  ⟨fun h hf hS => by obtain ⟨sv, pv, rfl, h⟩ := h; exact ⟨sv, pv, rfl, h.fr hf hS⟩, fun h => by obtain ⟨sv, pv, rfl, h⟩ := h; exact h.lt⟩
theorem RefIn.turn (h : RefIn w m sv pv D) (hS : D'.S = D.S) (hP : D'.P = D.P) (hok : D'.ok)
    (hb : Blk w' m 48 [sv, pv, .int .i64 D'.limit, .bool D'.dead, .int .i64 (D'.done : Int)]) (hf : Fr [m] w w') : RefIn w' m sv pv D' := by
  have hn : ∀ v : Value, v.ownBlock ≠ some m → ∀ g, v.ownBlock = some g → g ∉ [m] := by
    intro v hv g hg hm
    simp only [List.mem_singleton] at hm
    subst hm
    exact hv hg
  exact ⟨hb, by rw [hS]; exact own_fr h.2.1 hf (hn sv h.ne1), by rw [hP]; exact own_fr h.2.2.1 hf (hn pv h.ne2), hok⟩
theorem RefIn.rstep {f : List Nat} (h : RefIn w' m sv pv D') (hf : Fr f w w') (hn : ∀ k ∈ rfp m sv pv, k ∈ f ∨ w.heap.size ≤ k) : Step (tR m D') w w' f := ⟨_, ⟨sv, pv, rfl, h⟩, hf, hn⟩
end

set_option maxHeartbeats 400000 in
theorem rspend_no {w : World} {m : Nat} {sv pv : Value} {D : DM} (h : RefIn w m sv pv D) (h0 : D.limit = 0) :
    Calls Try.prog 49 #[.pointer (some ⟨m, 0, none⟩)] w fun e w' => e = .returned (.bool false) ∧ RefIn w' m sv pv D.died ∧ Fr [m] w w' := by
  have c2 := h.c2; have c3 := h.c3; have f3 := h.free 3
  rw [h0] at c2
  have H := Lib.hid h; clear h
  have H0 := Lib.hid h0; clear h0
  go_enter Try.func49, Try.ntmps49
  go_wp2
  go_ret
  have hf : Fr [m] w (w.setCell ⟨m, 3, none⟩ (.bool true)) := (Fr.refl _ _).setCell (by simp) _
  exact ⟨rfl, H.out.turn rfl rfl (DM.ok_died H.out.2.2.2) (by simpa [DM.died] using H.out.1.set_ 3 (.bool true)) hf, hf⟩
set_option maxHeartbeats 400000 in
theorem rspend_yes {w : World} {m : Nat} {sv pv : Value} {D : DM} (h : RefIn w m sv pv D) (h0 : D.limit ≠ 0) (hd : D.done < 1099511627776) :
    Calls Try.prog 49 #[.pointer (some ⟨m, 0, none⟩)] w fun e w' => e = .returned (.bool true) ∧ RefIn w' m sv pv D.spent ∧ Fr [m] w w' := by
  have c2 := h.c2; have c4 := h.c4; have f2 := h.free 2; have f4 := h.free 4
  have g1 := h.2.2.2.lim; have g2 := h.2.2.2.lim'
  have e0 : (D.limit == 0) = false := by simpa using h0
  have hok : D.spent.ok := ⟨h.2.2.2.some_, h.2.2.2.most, h.2.2.2.sec, h.2.2.2.pend, by simp only [DM.spent]; split <;> omega, by simp only [DM.spent]; split <;> omega, by have := h.2.2.2.few; simp only [DM.spent]; omega⟩
  have H := Lib.hid h; clear h
  have HOK := Lib.hid hok; clear hok
  by_cases hp : 0 < D.limit
  · have c4' : (w.setCell ⟨m, 2, none⟩ (.int .i64 (D.limit - 1))).cell? ⟨m, 4, none⟩ = some (.int .i64 (D.done : Int)) := by rw [World.cell?_setCell_other _ _ _ _ (by simp)]; exact c4
    clear h0
    go_enter Try.func49, Try.ntmps49
    go_wp2
    go_ret
    have hf : Fr [m] w ((w.setCell ⟨m, 2, none⟩ (.int .i64 (D.limit - 1))).setCell ⟨m, 4, none⟩ (.int .i64 ((D.done : Int) + 1))) := ((Fr.refl _ _).setCell (by simp) _).setCell (by simp) _
    exact ⟨rfl, H.out.turn rfl rfl HOK.out (by simpa [DM.spent, hp] using (H.out.1.set_ 2 (.int .i64 (D.limit - 1))).set_ 4 (.int .i64 ((D.done : Int) + 1))) hf, hf⟩
  · clear h0
    go_enter Try.func49, Try.ntmps49
    go_wp2
    go_ret
    have hf : Fr [m] w (w.setCell ⟨m, 4, none⟩ (.int .i64 ((D.done : Int) + 1))) := (Fr.refl _ _).setCell (by simp) _
    exact ⟨rfl, H.out.turn rfl rfl HOK.out (by simpa [DM.spent, show ¬ (0 < D.limit) from by omega] using H.out.1.set_ 4 (.int .i64 ((D.done : Int) + 1))) hf, hf⟩
set_option maxHeartbeats 400000 in
theorem rlimit_in {w : World} {m : Nat} {sv pv : Value} {D : DM} (h : RefIn w m sv pv D) (k : Int) (hk : k ≤ 9223372036854775807) :
    Calls Try.prog 25 #[.pointer (some ⟨m, 0, none⟩), .int .i64 k] w fun e w' => e = .returned (.tuple #[]) ∧ RefIn w' m sv pv (D.limited k) ∧ Fr [m] w w' := by
  have c2 := h.c2; have f2 := h.free 2
  have H := Lib.hid h; clear h
  go_enter Try.func25, Try.ntmps25
  go_wp2
  · go_end0
    have hf : Fr [m] w (w.setCell ⟨m, 2, none⟩ (.int .i64 (-1))) := (Fr.refl _ _).setCell (by simp) _
    have hm : max k (-1) = -1 := by omega
    exact ⟨rfl, H.out.turn rfl rfl (DM.ok_limited H.out.2.2.2 k hk) (by simpa [DM.limited, hm] using H.out.1.set_ 2 (.int .i64 (-1))) hf, hf⟩
  · go_end0
    have hf : Fr [m] w (w.setCell ⟨m, 2, none⟩ (.int .i64 k)) := (Fr.refl _ _).setCell (by simp) _
    have hm : max k (-1) = k := by omega
    exact ⟨rfl, H.out.turn rfl rfl (DM.ok_limited H.out.2.2.2 k hk) (by simpa [DM.limited, hm] using H.out.1.set_ 2 (.int .i64 k)) hf, hf⟩

def zero64 : List UInt8 := List.replicate 64 0
set_option maxHeartbeats 400000 in
theorem zeros_any (w : World) : Calls Try.prog 48 #[] w fun e w' => e = .returned (str zero64) ∧ Fr [] w w' := by
  have hmk := make64
  have hb : BytesAt (w.alloc (.cells z64.toArray 5)) (.slice (some ⟨w.heap.size, 0, none⟩) 64 64) zero64 w.heap.size := by
    have := BytesAt.of_blk (bs := zero64) (Blk.new w 5 z64) 64 (by decide)
    simpa [zero64] using this
  have k1 := run_string_of (P := Try.prog) (dst := 9) Try.underlying22 Try.underlying5 Try.underlying9 hb
  have HK := Lib.hid k1
  clear hb
  rw [show (Value.string ⟨zero64.toArray⟩) = str zero64 from rfl] at k1
  go_enter Try.func48, Try.ntmps48
  go_wp2
  go_ret
  exact ⟨rfl, (Fr.refl [] w).alloc _⟩

end Go.Proofs.Ytbgcbikgjedkkaa
