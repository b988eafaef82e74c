/-
  Patterns as plain data: parts, the reader that parses them, sizes, programs. No program in sight.
-/
import Derived.Test.YtnhlgjjdpappkaaBase
namespace Go.Proofs.Ytnhlgjjdpappkaa
open Go.RowKit

/-- Characters from one to another one. -/
structure Sp where
  lo : Int
  hi : Int
deriving DecidableEq

/-- A pattern's part. -/
inductive Pt where
  | char (neg : Bool) (set : List Sp)
  | row (l : List Pt)
  | pick (l : List Pt)
  | star (p : Pt)
  | plus (p : Pt)
  | maybe (p : Pt)
  | times (p : Pt) (lo : Nat) (hi : Option Nat)

/-- The reader's state: what is left, how deep it stands, the deepest. -/
structure RS where
  l : List Int
  deep : Nat
  most : Nat

def RS.peek (s : RS) : Int := match s.l with | [] => -1 | c :: _ => c
def RS.next (s : RS) : RS := { s with l := s.l.drop 1 }
def RS.take (s : RS) : Option (Int × RS) := match s.l with | [] => none | c :: _ => some (c, s.next)
def RS.isB (s : RS) (c : Int) : Bool := decide (s.peek = c)
def RS.isS (s : RS) (c : Int) : RS := if s.peek = c then s.next else s

def special : List Int := [40, 41, 42, 43, 45, 46, 63, 91, 92, 93, 94, 123, 124, 125]
def barred : List Int := [63, 42, 43, 123, 125, 93]
def closers : List Int := [91, 93, 45]
def amongB (l : List Int) (c : Int) : Bool := decide (c ∈ l)

def RS.escape (s : RS) : Option (Int × RS) :=
  match s.take with
  | none => none
  | some (c, s) => if c = 110 then some (10, s) else if c = 114 then some (13, s) else if c = 116 then some (9, s) else if amongB special c = true then some (c, s) else none
def RS.end_ (s : RS) : Option (Int × RS) :=
  match s.take with
  | none => none
  | some (c, s) => if c = 92 then s.escape else if amongB closers c = true then none else some (c, s)
def RS.last (s : RS) : Bool := decide (s.l[1]? = some 93)
def RS.item (first : Bool) (s : RS) : Option (Sp × RS) :=
  if s.peek = 45 ∧ (first = true ∨ s.last = true) then some (⟨45, 45⟩, s.next)
  else match s.end_ with
    | none => none
    | some (a, s) =>
      if s.peek = 45 ∧ s.last = false then
        match s.next.end_ with
        | none => none
        | some (b, s) => if a ≤ b then some (⟨a, b⟩, s) else none
      else some (⟨a, a⟩, s)
def RS.items : Nat → Bool → RS → Option (List Sp × RS)
  | 0, _, _ => none
  | n + 1, first, s =>
    if first = false ∧ s.peek = 93 then some ([], s.next)
    else match s.item first with
      | none => none
      | some (x, s) => (RS.items n false s).map fun r => (x :: r.1, r.2)
def RS.class_ (s : RS) : Option (Pt × RS) := ((s.isS 94).items (s.l.length + 1) true).map fun r => (.char (s.isB 94) r.1, r.2)

def isDig (c : Int) : Prop := 48 ≤ c ∧ c ≤ 57
instance (c : Int) : Decidable (isDig c) := inferInstanceAs (Decidable (_ ∧ _))
def RS.number (s : RS) : Option (Nat × RS) :=
  if isDig s.peek then
    if isDig s.next.peek then some (10 * (s.peek - 48).toNat + (s.next.peek - 48).toNat, s.next.next) else some ((s.peek - 48).toNat, s.next)
  else none
/-- Behind the first number. -/
def RS.upper (n : Nat) (s : RS) : Option (Option Nat × RS) :=
  if s.peek = 44 then
    if s.next.peek = 125 then some (none, s.next)
    else match s.next.number with
      | none => none
      | some (m, s) => if n ≤ m then some (some m, s) else none
  else some (some n, s)
def RS.times (a : Pt) (s : RS) : Option (Pt × RS) :=
  match s.number with
  | none => none
  | some (n, s) => match s.upper n with
    | none => none
    | some (hi, s) => if s.peek = 125 then some (.times a n hi, s.next) else none

def charPt (c : Int) : Pt := .char false [⟨c, c⟩]
def dotPt : Pt := .char true [⟨10, 10⟩, ⟨13, 13⟩]
def RS.down (s : RS) : RS := { s with deep := s.deep + 1, most := max s.most (s.deep + 1) }
def RS.up (s : RS) : RS := { s with deep := s.deep - 1 }
/-- A pattern in parentheses, behind the first one; pat reads patterns. -/
def RS.group (pat : RS → Option (Pt × RS)) (s : RS) : Option (Pt × RS) :=
  match pat s.down with
  | none => none
  | some (p, s) => if s.peek = 41 then some (p, s.up.next) else none
def RS.atom (pat : RS → Option (Pt × RS)) (s : RS) : Option (Pt × RS) :=
  match s.take with
  | none => none
  | some (c, s) =>
    if c = 46 then some (dotPt, s) else if c = 92 then s.escape.map fun r => (charPt r.1, r.2) else if c = 91 then s.class_ else if c = 40 then s.group pat
    else if amongB barred c = true then none else some (charPt c, s)
def RS.piece (pat : RS → Option (Pt × RS)) (s : RS) : Option (Pt × RS) :=
  match s.atom pat with
  | none => none
  | some (a, s) =>
    if s.peek = 42 then some (.star a, s.next) else if s.peek = 43 then some (.plus a, s.next) else if s.peek = 63 then some (.maybe a, s.next)
    else if s.peek = 123 then s.next.times a else some (a, s)
/-- Is there a piece more? -/
def RS.on (s : RS) : Prop := 0 ≤ s.peek ∧ s.peek ≠ 124 ∧ s.peek ≠ 41
instance (s : RS) : Decidable s.on := inferInstanceAs (Decidable (_ ∧ _))
def RS.pieces (pat : RS → Option (Pt × RS)) : Nat → RS → Option (List Pt × RS)
  | 0, _ => none
  | n + 1, s => if s.on then match s.piece pat with
      | none => none
      | some (x, s) => (RS.pieces pat n s).map fun r => (x :: r.1, r.2)
    else some ([], s)
def RS.branches (pat : RS → Option (Pt × RS)) : Nat → RS → Option (List Pt × RS)
  | 0, _ => none
  | n + 1, s => match s.pieces pat (s.l.length + 1) with
    | none => none
    | some (x, s) => if s.peek = 124 then (RS.branches pat n s.next).map fun r => (.row x :: r.1, r.2) else some ([.row x], s)
/-- Patterns in fewer than n parentheses' characters. -/
def RS.pattern : Nat → RS → Option (Pt × RS)
  | 0, _ => none
  | n + 1, s => (s.branches (RS.pattern n) (s.l.length + 1)).map fun r => (.pick r.1, r.2)

/-! ### Reading goes on -/
theorem RS.next_len (s : RS) : s.next.l.length = s.l.length - 1 := by simp [RS.next]
theorem RS.peek_nil {s : RS} (h : s.l = []) : s.peek = -1 := by simp [RS.peek, h]
theorem RS.peek_cons {s : RS} {c : Int} {l : List Int} (h : s.l = c :: l) : s.peek = c := by simp [RS.peek, h]
theorem RS.peek_pos {s : RS} {c : Int} (h : s.peek = c) (hc : 0 ≤ c) : 0 < s.l.length := by
  unfold RS.peek at h
  split at h
  · omega
  · rename_i h1; rw [h1]; simp
theorem RS.take_len {s : RS} {c : Int} {s' : RS} (h : s.take = some (c, s')) : s'.l.length + 1 = s.l.length ∧ s' = s.next ∧ s.peek = c := by
  unfold RS.take at h
  split at h
  · cases h
  · rename_i d l h1
    simp only [Option.some.injEq, Prod.mk.injEq] at h
    obtain ⟨rfl, rfl⟩ := h
    exact ⟨by simp [RS.next, h1], rfl, RS.peek_cons h1⟩
theorem RS.escape_len {s : RS} {c : Int} {s' : RS} (h : s.escape = some (c, s')) : s'.l.length < s.l.length := by
  unfold RS.escape at h
  split at h
  · cases h
  · rename_i c1 s1 h1
    have := (RS.take_len h1).1
    split at h
    · simp only [Option.some.injEq, Prod.mk.injEq] at h; obtain ⟨_, rfl⟩ := h; omega
    · split at h
      · simp only [Option.some.injEq, Prod.mk.injEq] at h; obtain ⟨_, rfl⟩ := h; omega
      · split at h
        · simp only [Option.some.injEq, Prod.mk.injEq] at h; obtain ⟨_, rfl⟩ := h; omega
        · split at h
          · simp only [Option.some.injEq, Prod.mk.injEq] at h; obtain ⟨_, rfl⟩ := h; omega
          · cases h
theorem RS.end_len {s : RS} {c : Int} {s' : RS} (h : s.end_ = some (c, s')) : s'.l.length < s.l.length := by
  unfold RS.end_ at h
  split at h
  · cases h
  · rename_i c1 s1 h1
    have := (RS.take_len h1).1
    split at h
    · have := RS.escape_len h; omega
    · split at h
      · cases h
      · simp only [Option.some.injEq, Prod.mk.injEq] at h; obtain ⟨_, rfl⟩ := h; omega
theorem RS.item_len {b : Bool} {s : RS} {x : Sp} {s' : RS} (h : s.item b = some (x, s')) : s'.l.length < s.l.length := by
  unfold RS.item at h
  split at h
  · rename_i h1
    simp only [Option.some.injEq, Prod.mk.injEq] at h; obtain ⟨_, rfl⟩ := h
    have := RS.peek_pos h1.1 (by omega)
    rw [RS.next_len]; omega
  · split at h
    · cases h
    · rename_i a s1 h1
      have := RS.end_len h1
      split at h
      · split at h
        · cases h
        · rename_i b1 s2 h2
          have := RS.end_len h2
          rw [RS.next_len] at this
          split at h
          · simp only [Option.some.injEq, Prod.mk.injEq] at h; obtain ⟨_, rfl⟩ := h; omega
          · cases h
      · simp only [Option.some.injEq, Prod.mk.injEq] at h; obtain ⟨_, rfl⟩ := h; omega
theorem RS.items_len : ∀ (n : Nat) {b : Bool} {s : RS} {x : List Sp} {s' : RS}, RS.items n b s = some (x, s') → s'.l.length < s.l.length
  | 0, _, _, _, _, h => by cases h
  | n + 1, b, s, x, s', h => by
    unfold RS.items at h
    split at h
    · rename_i h1
      simp only [Option.some.injEq, Prod.mk.injEq] at h; obtain ⟨_, rfl⟩ := h
      have := RS.peek_pos h1.2 (by omega)
      rw [RS.next_len]; omega
    · split at h
      · cases h
      · rename_i y s1 h1
        have := RS.item_len h1
        obtain ⟨⟨xs, s2⟩, h2, h3⟩ := Option.map_eq_some_iff.1 h
        simp only [Prod.mk.injEq] at h3
        obtain ⟨_, rfl⟩ := h3
        have := RS.items_len n h2
        omega
theorem RS.isS_len (s : RS) (c : Int) : (s.isS c).l.length ≤ s.l.length := by
  unfold RS.isS
  split
  · rw [RS.next_len]; omega
  · omega
theorem RS.class_len {s : RS} {p : Pt} {s' : RS} (h : s.class_ = some (p, s')) : s'.l.length < s.l.length := by
  unfold RS.class_ at h
  obtain ⟨⟨xs, s2⟩, h2, h3⟩ := Option.map_eq_some_iff.1 h
  simp only [Prod.mk.injEq] at h3
  obtain ⟨_, rfl⟩ := h3
  have := RS.items_len _ h2
  have := RS.isS_len s 94
  omega
theorem RS.number_len {s : RS} {n : Nat} {s' : RS} (h : s.number = some (n, s')) : s'.l.length < s.l.length ∧ n ≤ 99 := by
  unfold RS.number at h
  split at h
  · rename_i h1
    have h0 := RS.peek_pos (s := s) rfl (by unfold isDig at h1; omega)
    unfold isDig at h1
    split at h
    · rename_i h2
      unfold isDig at h2
      simp only [Option.some.injEq, Prod.mk.injEq] at h; obtain ⟨rfl, rfl⟩ := h
      rw [RS.next_len, RS.next_len]; omega
    · simp only [Option.some.injEq, Prod.mk.injEq] at h; obtain ⟨rfl, rfl⟩ := h
      rw [RS.next_len]; omega
  · cases h
theorem RS.upper_len {n : Nat} {s : RS} {m : Option Nat} {s' : RS} (h : s.upper n = some (m, s')) : s'.l.length ≤ s.l.length ∧ (n ≤ 99 → ∀ k, m = some k → k ≤ 99 ∧ n ≤ k) := by
  unfold RS.upper at h
  split at h
  · split at h
    · simp only [Option.some.injEq, Prod.mk.injEq] at h; obtain ⟨rfl, rfl⟩ := h
      rw [RS.next_len]; exact ⟨by omega, fun _ k hk => by cases hk⟩
    · split at h
      · cases h
      · rename_i k s1 h1
        have := RS.number_len h1
        rw [RS.next_len] at this
        split at h
        · simp only [Option.some.injEq, Prod.mk.injEq] at h; obtain ⟨rfl, rfl⟩ := h
          exact ⟨by omega, fun _ j hj => by injection hj with hj; omega⟩
        · cases h
  · simp only [Option.some.injEq, Prod.mk.injEq] at h; obtain ⟨rfl, rfl⟩ := h
    exact ⟨Nat.le_refl _, fun hn k hk => by injection hk with hk; omega⟩
theorem RS.times_len {a : Pt} {s : RS} {p : Pt} {s' : RS} (h : s.times a = some (p, s')) : s'.l.length < s.l.length := by
  unfold RS.times at h
  split at h
  · cases h
  · rename_i n s1 h1
    have := RS.number_len h1
    split at h
    · cases h
    · rename_i hi s2 h2
      have := RS.upper_len h2
      split at h
      · simp only [Option.some.injEq, Prod.mk.injEq] at h; obtain ⟨_, rfl⟩ := h
        rw [RS.next_len]; omega
      · cases h

/-! ### Sizes -/
def huge : Nat := 1000000
mutual
def Pt.size : Pt → Nat
  | .char _ _ => 1
  | .row l => sizes l 0
  | .pick l => sizes l 0 + l.length
  | .star p => min (0 + p.size) 1000000 + 1
  | .plus p => min (0 + p.size) 1000000 + 1
  | .maybe p => min (0 + p.size) 1000000 + 1
  | .times p n none => min (min (0 + p.size) 1000000 * (n + 1) + 1) 1000000
  | .times p _ (some m) => min (min (0 + p.size) 1000000 * m + 1) 1000000
def sizes : List Pt → Nat → Nat
  | [], n => n
  | p :: l, n => sizes l (min (n + p.size) 1000000)
end

/-- What a text is, as a pattern: its characters; the last column: the error's number (0: none). -/
def parsedOf (n : Nat) (l : List Int) : Int × Option Pt :=
  if 300 < n then (4, none)
  else match RS.pattern (l.length + 1) ⟨l, 0, 0⟩ with
    | none => (2, none)
    | some (p, s) =>
      if s.l ≠ [] ∨ l.any (fun c => decide (2097152 ≤ c)) = true then (2, none)
      else if 20 < s.most then (3, none)
      else if 2000 < p.size then (4, none)
      else (0, some p)

/-! ### Programs -/
inductive Rop where
  | take (neg : Bool) (set : List Sp)
  | fork (at_ : Nat)
  | leap (at_ : Nat)
  | done
/-- So many parts, one behind the other; so many that may be left out. -/
def repCode (f : Nat → List Rop) (len : Nat) : Nat → Nat → List Rop
  | 0, _ => []
  | n + 1, b => f b ++ repCode f len n (b + len)
def mayCode (f : Nat → List Rop) (len : Nat) : Nat → Nat → Nat → List Rop
  | 0, _, _ => []
  | n + 1, b, e => .fork e :: (f (b + 1) ++ mayCode f len n (b + 1 + len) e)
mutual
def Pt.len : Pt → Nat
  | .char _ _ => 1
  | .row l => rowLen l
  | .pick l => pickLen l
  | .star p => p.len + 2
  | .plus p => p.len + 1
  | .maybe p => 1 + p.len
  | .times p n none => n * p.len + (p.len + 2)
  | .times p n (some m) => n * p.len + (m - n) * (1 + p.len)
def rowLen : List Pt → Nat
  | [] => 0
  | p :: l => p.len + rowLen l
def pickLen : List Pt → Nat
  | [] => 0
  | p :: l => if l.isEmpty then p.len else 1 + p.len + 1 + pickLen l
end
def starCode (f : Nat → List Rop) (len b : Nat) : List Rop := .fork (b + len + 2) :: (f (b + 1) ++ [.leap b])
mutual
/-- The ops of a part that begin at a place. -/
def Pt.code : Pt → Nat → List Rop
  | .char neg set, _ => [.take neg set]
  | .row l, b => rowCode l b
  | .pick l, b => pickCode l b (b + pickLen l)
  | .star p, b => starCode p.code p.len b
  | .plus p, b => p.code b ++ [.fork b]
  | .maybe p, b => mayCode p.code p.len 1 b (b + 1 * (1 + p.len))
  | .times p n none, b => repCode p.code p.len n b ++ starCode p.code p.len (b + n * p.len)
  | .times p n (some m), b => repCode p.code p.len n b ++ mayCode p.code p.len (m - n) (b + n * p.len) (b + n * p.len + (m - n) * (1 + p.len))
def rowCode : List Pt → Nat → List Rop
  | [], _ => []
  | p :: l, b => p.code b ++ rowCode l (b + p.len)
def pickCode : List Pt → Nat → Nat → List Rop
  | [], _, _ => []
  | p :: l, b, e => if l.isEmpty then p.code b else .fork (b + 1 + p.len + 1) :: (p.code (b + 1) ++ (.leap e :: pickCode l (b + 1 + p.len + 1) e))
end

theorem repCode_len {f : Nat → List Rop} {len : Nat} (hf : ∀ b, (f b).length = len) : ∀ n b, (repCode f len n b).length = n * len
  | 0, _ => by simp [repCode]
  | n + 1, b => by simp [repCode, hf, repCode_len hf n, Nat.succ_mul]; omega
theorem mayCode_len {f : Nat → List Rop} {len : Nat} (hf : ∀ b, (f b).length = len) : ∀ n b e, (mayCode f len n b e).length = n * (1 + len)
  | 0, _, _ => by simp [mayCode]
  | n + 1, b, e => by simp [mayCode, hf, mayCode_len hf n, Nat.succ_mul]; omega
theorem starCode_len {f : Nat → List Rop} {len : Nat} (hf : ∀ b, (f b).length = len) (b : Nat) : (starCode f len b).length = len + 2 := by simp [starCode, hf]
mutual
theorem Pt.code_len : ∀ (p : Pt) (b : Nat), (p.code b).length = p.len
  | .char _ _, _ => rfl
  | .row l, b => by rw [Pt.code, Pt.len]; exact rowCode_len l b
  | .pick l, b => by rw [Pt.code, Pt.len]; exact pickCode_len l b _
  | .star p, b => by rw [Pt.code, Pt.len]; exact starCode_len p.code_len b
  | .plus p, b => by rw [Pt.code, Pt.len]; simp [p.code_len]
  | .maybe p, b => by rw [Pt.code, Pt.len]; rw [mayCode_len p.code_len]; omega
  | .times p n none, b => by rw [Pt.code, Pt.len]; rw [List.length_append, repCode_len p.code_len, starCode_len p.code_len]
  | .times p n (some m), b => by rw [Pt.code, Pt.len]; rw [List.length_append, repCode_len p.code_len, mayCode_len p.code_len]
theorem rowCode_len : ∀ (l : List Pt) (b : Nat), (rowCode l b).length = rowLen l
  | [], _ => rfl
  | p :: l, b => by unfold rowCode rowLen; rw [List.length_append, p.code_len, rowCode_len l]
theorem pickCode_len : ∀ (l : List Pt) (b e : Nat), (pickCode l b e).length = pickLen l
  | [], _, _ => rfl
  | p :: l, b, e => by
    unfold pickCode pickLen
    split
    · exact p.code_len b
    · simp [p.code_len, pickCode_len l]; omega
end

end Go.Proofs.Ytnhlgjjdpappkaa
