/-
  The journal as plain data: pieces, records, what a log does to its disk. No program in sight.
-/
import Derived.Test.YtidpleejgalljaaDm
namespace Go.Proofs.Ytidpleejgalljaa

def wordOf (l : List UInt8) : Nat := l.foldl (fun n c => n * 256 + c.toNat) 0
theorem wordOf_snoc (l : List UInt8) (c : UInt8) : wordOf (l ++ [c]) = wordOf l * 256 + c.toNat := by simp [wordOf, List.foldl_append]
theorem foldl_word_lt : ∀ (l : List UInt8) (n : Nat), l.foldl (fun n c => n * 256 + c.toNat) n < (n + 1) * 256 ^ l.length
  | [], n => by simp
  | c :: l, n => by
    have h := foldl_word_lt l (n * 256 + c.toNat)
    have hc := c.toNat_lt
    have h2 : (n * 256 + c.toNat + 1) * 256 ^ l.length ≤ ((n + 1) * 256) * 256 ^ l.length := Nat.mul_le_mul_right _ (by omega)
    have h3 : ((n + 1) * 256) * 256 ^ l.length = (n + 1) * 256 ^ (l.length + 1) := by rw [Nat.pow_succ, Nat.mul_assoc, Nat.mul_comm 256]
    simp only [List.foldl_cons, List.length_cons]
    omega
theorem wordOf_lt (l : List UInt8) : wordOf l < 256 ^ l.length := by
  have := foldl_word_lt l 0
  simpa [wordOf] using this
theorem wordOf4_lt (l : List UInt8) (h : l.length ≤ 4) : wordOf l < 4294967296 := by
  have h1 := wordOf_lt l
  have h2 : 256 ^ l.length ≤ 256 ^ 4 := Nat.pow_le_pow_right (by omega) h
  have h3 : 256 ^ 4 = 4294967296 := by decide
  omega

structure Stamp where
  session : Nat
  number : Nat
  count : Nat
  deriving DecidableEq
structure Pc where
  st : Stamp
  place : Nat
  b : List UInt8

def pieceOf (s : List UInt8) : Option Pc :=
  if s.length = 64 ∧ s.getD 0 0 = 165 ∧ s.getD 1 0 = 90 ∧ (s.getD 14 0).toNat ≤ 48 then
    some { st := { session := wordOf ((s.drop 2).take 4), number := wordOf ((s.drop 6).take 4), count := wordOf ((s.drop 12).take 2) }, place := wordOf ((s.drop 10).take 2), b := (s.drop 16).take (s.getD 14 0).toNat }
  else none

def byteAt (n k : Nat) : UInt8 := UInt8.ofNat (n / 256 ^ k)
/-- A piece as a sector. -/
def writtenOf (p : Pc) : List UInt8 :=
  [165, 90, byteAt p.st.session 3, byteAt p.st.session 2, byteAt p.st.session 1, byteAt p.st.session 0, byteAt p.st.number 3, byteAt p.st.number 2, byteAt p.st.number 1, byteAt p.st.number 0,
   byteAt p.place 1, byteAt p.place 0, byteAt p.st.count 1, byteAt p.st.count 0, UInt8.ofNat p.b.length, 0] ++ p.b
theorem writtenOf_len (p : Pc) : (writtenOf p).length = 16 + p.b.length := by simp [writtenOf]; omega

/-- The pieces of one record, from place k on. -/
def collect (st : Stamp) : Nat → List (List UInt8) → Option (List UInt8)
  | _, [] => some []
  | k, s :: L =>
    match pieceOf s with
    | none => none
    | some q => if q.st = st ∧ q.place = k ∧ (k + 1 < st.count → q.b.length = 48) then (collect st (k + 1) L).map (q.b ++ ·) else none
/-- What is whole at the beginning of sectors. -/
def recordOf (L : List (List UInt8)) : Option (Stamp × List UInt8) :=
  match L with
  | [] => none
  | s :: _ =>
    match pieceOf s with
    | none => none
    | some p => if p.st.count < 1 ∨ L.length < p.st.count then none else (collect p.st 0 (L.take p.st.count)).map fun b => (p.st, b)

/-- How many pieces so many bytes are. -/
def needOf (size : Nat) : Nat := if size = 0 then 1 else (size - 1) / 48 + 1
def needI (size : Int) : Int := if size ≤ 0 then 1 else (size - 1) / 48 + 1
/-- The k-th piece of a record. -/
def pieceAt (session number : Nat) (b : List UInt8) (k : Nat) : Pc :=
  { st := { session := session, number := number, count := needOf b.length }, place := k, b := (b.drop (48 * k)).take 48 }

/-- The greatest session and number of pieces. -/
def newestOf (L : List (List UInt8)) : Nat × Nat :=
  L.foldl (fun a s => match pieceOf s with | some p => (max a.1 p.st.session, max a.2 p.st.number) | none => a) (0, 0)

/-- The records from a place on: those that follow. 'last': the one before. Fuel: the number of sectors. -/
def recordsOf : Nat → Option Stamp → List (List UInt8) → List (Stamp × List UInt8)
  | 0, _, _ => []
  | n + 1, last, L =>
    match recordOf L with
    | none => []
    | some (st, b) =>
      if (match last with | none => false | some l => decide (st.number ≠ (l.number + 1) % 4294967296 ∨ st.session < l.session)) then []
      else (st, b) :: recordsOf n (some st) (L.drop st.count)

end Go.Proofs.Ytidpleejgalljaa
