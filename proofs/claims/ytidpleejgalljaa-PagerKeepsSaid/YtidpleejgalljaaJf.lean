/-
  The contract of (*Log).newest: the session and the number behind all pieces.
-/
import Derived.Test.YtidpleejgalljaaJe
import Derived.BigRegion
namespace Go.Proofs.Ytidpleejgalljaa
open Go.RowKit

/-- The greatest session and number, from given ones on. -/
def newStep (a : Nat × Nat) (s : List UInt8) : Nat × Nat := match pieceOf s with | some p => (max a.1 p.st.session, max a.2 p.st.number) | none => a
def newFrom (a : Nat × Nat) (L : List (List UInt8)) : Nat × Nat := L.foldl newStep a
theorem newFrom_eq (L : List (List UInt8)) : newestOf L = newFrom (0, 0) L := rfl
theorem newFrom_take {a : Nat × Nat} {L : List (List UInt8)} {k : Nat} {s : List UInt8} (h : L[k]? = some s) : newFrom a (L.take (k + 1)) = newStep (newFrom a (L.take k)) s := by
  have hlt : k < L.length := (List.getElem?_eq_some_iff.1 h).1
  rw [List.take_succ_eq_append_getElem hlt]
  rw [List.getElem?_eq_getElem hlt] at h
  simp only [Option.some.injEq] at h
  rw [h]
  simp [newFrom, List.foldl_append]

def NewRel (w : World) (lg d f n at_ : Nat) (br : Bool) (a : Nat × Nat) (L : List (List UInt8)) (i : Value) (wr : World) : Prop :=
  ∃ k : Nat, k ≤ L.length ∧ i = .int .i64 k ∧ Blk wr lg 77 (logCells d f n at_ (newFrom a (L.take k)).2 (newFrom a (L.take k)).1 br) ∧ Fr [lg] w wr

theorem new_blk {w : World} {lg d f n at_ : Nat} {br : Bool} {m : Nat × Nat} {q : Pc} (h : Blk w lg 77 (logCells d f n at_ m.2 m.1 br)) :
    Blk ((w.setCell ⟨lg, 5, none⟩ (.int .u32 (if m.1 < q.st.session then (q.st.session : Int) else (m.1 : Int)))).setCell ⟨lg, 4, none⟩ (.int .u32 (if m.2 < q.st.number then (q.st.number : Int) else (m.2 : Int)))) lg 77 (logCells d f n at_ (max m.2 q.st.number) (max m.1 q.st.session) br) := by
  have e1 : (if m.1 < q.st.session then (q.st.session : Int) else (m.1 : Int)) = ((max m.1 q.st.session : Nat) : Int) := by split <;> omega
  have e2 : (if m.2 < q.st.number then (q.st.number : Int) else (m.2 : Int)) = ((max m.2 q.st.number : Nat) : Int) := by split <;> omega
  rw [e1, e2]
  exact (h.set_ 5 _).set_ 4 _

theorem end_blk {w : World} {lg d f n at_ : Nat} {br : Bool} {m : Nat × Nat} (h : Blk w lg 77 (logCells d f n at_ m.2 m.1 br)) :
    Blk ((w.setCell ⟨lg, 5, none⟩ (.int .u32 (((m.1 : Int) + 1) % 4294967296))).setCell ⟨lg, 4, none⟩ (.int .u32 (((m.2 : Int) + 1) % 4294967296))) lg 77 (logCells d f n at_ ((m.2 + 1) % 4294967296) ((m.1 + 1) % 4294967296) br) := by
  have e1 : ((m.1 : Int) + 1) % 4294967296 = (((m.1 + 1) % 4294967296 : Nat) : Int) := by omega
  have e2 : ((m.2 : Int) + 1) % 4294967296 = (((m.2 + 1) % 4294967296 : Nat) : Int) := by omega
  rw [e1, e2]
  exact (h.set_ 5 _).set_ 4 _

set_option maxRecDepth 100000 in
set_option maxHeartbeats 2000000 in
theorem newest_any {w : World} {lg d f n at_ gl c : Nat} {br : Bool} {a : Nat × Nat} {gs : List Nat} {L : List (List UInt8)} {A : Option Addr} (hb : Blk w lg 77 (logCells d f n at_ a.2 a.1 br)) (hs : SecsAt w gl 0 gs L) (hA : 0 < L.length → A = some ⟨gl, 0, none⟩) (_ : L.length ≤ c) (hm : L.length ≤ 65536) (hgl : gl ≠ lg) :
    Calls Try.prog 37 #[.pointer (some ⟨lg, 0, none⟩), .slice A L.length c] w fun e w' => e = .returned (.bool (decide ((newFrom a L).1 < 4294967295))) ∧ Blk w' lg 77 (logCells d f n at_ (((newFrom a L).2 + 1) % 4294967296) (((newFrom a L).1 + 1) % 4294967296) br) ∧ Fr [lg] w w' := by
  have HB := Lib.hid hb; have HS := Lib.hid hs
  clear hb hs
  go_enter Try.func37, Try.ntmps37
  go_wp2
  go_loopw [12] (NewRel w lg d f n at_ br a L) (fun i _ => L.length - (intOf i).toNat)
  case atStart => exact ⟨0, Nat.zero_le _, rfl, HB.out, Fr.refl _ _⟩
  case round =>
    obtain ⟨k, hk, rfl, hb, hf⟩ := hrel
    have HBK := Lib.hid hb; have HF := Lib.hid hf
    clear hb hf
    by_cases hkn : k < L.length
    · obtain rfl := hA (by omega)
      have hgn : ∀ g ∈ gs, g ∉ [lg] := by
        intro g hg hm2
        simp only [List.mem_singleton] at hm2
        subst hm2
        obtain ⟨j, hj, rfl⟩ := List.getElem_of_mem hg
        have hj2 : j < L.length := by rw [← HS.out.len]; exact hj
        have h1 := (HS.out.sec j _ _ (List.getElem?_eq_getElem hj) (List.getElem?_eq_getElem hj2)).1
        exact (h1.ne_ HB.out (by decide)) rfl
      obtain ⟨gk, sk, hsk, hck, hseck⟩ := (HS.out.fr HF.out (by simp [hgl]) hgn).at_ (j := k) hkn
      have HSK := Lib.hid hsk; have HSECK := Lib.hid hseck
      clear hsk hseck hgn
      unfold secV at hck
      rw [Nat.zero_add] at hck
      go_wp2_with fail
      refine (piece_any HSECK.out).mono ?_
      rintro e w2 ⟨rfl, hf2⟩
      have HF2 := Lib.hid hf2
      have hb2 := HBK.out.fr hf2 (by simp)
      have l4 := hb2.at_ (i := 4) rfl
      have l5 := hb2.at_ (i := 5) rfl
      have lf := hb2.free
      have ll := hb2.lt
      have HB2 := Lib.hid hb2
      clear hf2 hb2
      unfold pieceV
      cases hq : pieceOf sk with
      | none =>
        simp only [noAgg]
        go_wp2
        exact ⟨⟨k + 1, hkn, rfl, by rw [newFrom_take HSK.out]; unfold newStep; rw [hq]; exact HB2.out.alloc _, (HF.out.trans HF2.out (by simp)).alloc _⟩, by simp [intOf]; omega⟩
      | some q =>
        simp only [pcAgg]
        go_wp2
        go_region
        go_wp2
        refine ⟨⟨k + 1, hkn, rfl, ?_, ?_⟩, by simp [intOf]; omega⟩
        · rw [newFrom_take HSK.out]
          unfold newStep
          rw [hq]
          have h := (new_blk (q := q) HB2.out).alloc (.cells #[.int .u32 (q.st.session : Int), .int .u32 (q.st.number : Int), .int .i64 (q.st.count : Int), .int .i64 (q.place : Int), .slice (some ⟨gk, 16, none⟩) q.b.length 48] 96)
          first | exact h | exact h.drew
        · first
            | exact (((HF.out.trans HF2.out (by simp)).setCell (p := ⟨lg, 5, none⟩) (.inl (by simp)) _).setCell (p := ⟨lg, 4, none⟩) (.inl (by simp)) _).alloc _
            | exact ((((HF.out.trans HF2.out (by simp)).setCell (p := ⟨lg, 5, none⟩) (.inl (by simp)) _).setCell (p := ⟨lg, 4, none⟩) (.inl (by simp)) _).alloc _).drew
    · have hkk : k = L.length := by omega
      have l4 := HBK.out.at_ (i := 4) rfl
      have l5 := HBK.out.at_ (i := 5) rfl
      have lf := HBK.out.free
      rw [hkk, List.take_length] at l4 l5
      have HKK := Lib.hid hkk; clear hkk
      go_wp2
      go_ret
      have hbf : Blk wr lg 77 (logCells d f n at_ (newFrom a L).2 (newFrom a L).1 br) := by have h := HBK.out; rw [HKK.out, List.take_length] at h; exact h
      refine ⟨?_, ?_, ?_⟩
      · show Ending.returned (.bool (decide (((newFrom a L).1 : Int) < 4294967295))) = _
        rw [show decide (((newFrom a L).1 : Int) < 4294967295) = decide ((newFrom a L).1 < 4294967295) from decide_eq_decide.2 (by omega)]
      · exact end_blk hbf
      · exact ((HF.out.setCell (p := ⟨lg, 5, none⟩) (.inl (by simp)) _).setCell (p := ⟨lg, 4, none⟩) (.inl (by simp)) _)

end Go.Proofs.Ytidpleejgalljaa
