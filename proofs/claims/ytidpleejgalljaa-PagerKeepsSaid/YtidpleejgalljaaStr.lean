/-
  string(b), and strings held against each other. Over any program.
-/
import Derived.Test.YtidpleejgalljaaLaws
import Derived.Laws.BytesArg
namespace Go.Proofs.Ytidpleejgalljaa
open Go.RowKit

/-- string(b) of bytes that are there: the world stands. -/
theorem run_string_of {P : Program} {w : World} {src e dst : TypeId} (hs : P.underlying src = some (.slice e)) (he : P.underlying e = some (.int .u8)) (hd : P.underlying dst = some .string) {v : Value} {bs : List UInt8} {g : Nat} (h : BytesAt w v bs g) :
    (convert src dst v).run P w = .ok (.string ⟨bs.toArray⟩) w := by
  obtain ⟨A, c, off, rfl, hc, hb⟩ := h
  rw [run_convert_bytes_string w src dst e _ _ c hs he hd]
  cases A with
  | none =>
    have h0 : bs = [] := by
      cases bs with
      | nil => rfl
      | cons x xs => have := (hb (by simp)).1; cases this
    subst h0
    simp [Conv.bytesToString]
    rfl
  | some a =>
    have hl : (loadCells a bs.length).run P w = .ok ((bs.map fun (c : UInt8) => (c.toNat : Int)).map (Value.int .u8)).toArray w := by
      have := run_loadCells_list (P := P) w a (bcells bs) (fun j v hj => by
        have h0 : 0 < bs.length := by have := (List.getElem?_eq_some_iff.1 hj).1; rw [bcells_len] at this; omega
        obtain ⟨ha, hcell⟩ := hb h0
        injection ha with ha
        subst ha
        rw [Addr.add_mid]
        exact hcell j v hj)
      rw [bcells_len] at this
      rw [this]
      congr 2
      simp [bcells, B8, Function.comp_def]
    rw [run_bytesToString w a bs.length c _ hl, foldl_push_bytes]
    have e : (bs.map fun (c : UInt8) => (c.toNat : Int)).map (fun n => UInt8.ofNat n.toNat) = bs := by
      rw [List.map_map]
      conv => rhs; rw [← List.map_id bs]
      apply List.map_congr_left
      intro x _
      simp
    rw [e]
    simp [ByteArray.empty, ByteArray.emptyWithCapacity]
    rfl

end Go.Proofs.Ytidpleejgalljaa
