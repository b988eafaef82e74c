/-
  The contracts of Size and Compile.
-/
import Derived.Test.YtnhlgjjdpappkaaCh
namespace Go.Proofs.Ytnhlgjjdpappkaa
open Go.RowKit

/-- A pattern's program. -/
def progOf (p : Pt) : List Rop := p.code 0 ++ [.done]
/-- A program that is read: all of it lies below block K. -/
def PrgAt (w : World) (gp K : Nat) (ops : List Rop) : Prop :=
  gp < K ∧ ∃ go c, go < K ∧ ops.length ≤ c ∧ Blk w gp 48 [.slice (some ⟨go, 0, none⟩) ops.length c] ∧
    ∀ (i : Nat) (o : Rop), ops[i]? = some o → ∃ cs, OpAt w K o cs ∧ ∀ (j : Nat) (u : Value), cs[j]? = some u → w.cell? ⟨go, i * 4 + j, none⟩ = some u
theorem PrgAt.fr {S : List Nat} {w w' : World} {gp K : Nat} {ops : List Rop} (h : PrgAt w gp K ops) (hf : Fr S w w') (hS : ∀ x ∈ S, K ≤ x) : PrgAt w' gp K ops := by
  obtain ⟨h1, go, c, h2, h3, h4, h5⟩ := h
  refine ⟨h1, go, c, h2, h3, h4.fr hf (fun hm => by have := hS _ hm; omega), fun i o ho => ?_⟩
  obtain ⟨cs, h6, h7⟩ := h5 i o ho
  exact ⟨cs, h6.fr hf hS, fun j u hu => hf.cell_at (fun hm => by have := hS _ hm; omega) (h7 j u hu)⟩
theorem CP.prg {w : World} {gp B : Nat} {v : Value} {ops : List Rop} (h : CP w gp B v ops) (hn : 0 < ops.length) (hB : B ≤ w.heap.size) : PrgAt w gp w.heap.size ops := by
  obtain ⟨css, a1, a2, a3⟩ := h.ex
  obtain ⟨A, c, rfl, hc, _⟩ := own_shape a2
  obtain ⟨g, rfl, hcell⟩ := own_cell a2 hn
  have h4 : ∀ x ∈ css, x.length = 4 := fun x hx => by
    obtain ⟨i, hi, rfl⟩ := List.mem_iff_getElem.1 hx
    exact (a3 i _ _ (List.getElem?_eq_getElem (by omega)) (List.getElem?_eq_getElem hi)).len
  refine ⟨h.lt.1, g, c, h.lt.2 g rfl, hc, h.blk, fun i o ho => ?_⟩
  have hi := (List.getElem?_eq_some_iff.1 ho).1
  obtain ⟨cs, hcs⟩ : ∃ cs, css[i]? = some cs := ⟨_, List.getElem?_eq_getElem (by omega)⟩
  have hoa := a3 i o cs ho hcs
  refine ⟨cs, ?_, fun j u hu => hcell _ u ?_⟩
  · cases o with
    | take neg set => obtain ⟨sv, h1, h2⟩ := hoa; exact ⟨sv, h1, h2.mono (fun g hg => by omega)⟩
    | fork t => exact hoa
    | leap t => exact hoa
    | done => exact hoa
  · have hj : j < 4 := by have := (List.getElem?_eq_some_iff.1 hu).1; have := hoa.len; omega
    rw [show i * 4 + j = 4 * i + j by omega, flat_get css h4 i cs hcs j hj]; exact hu
theorem parsedOf_none {n : Nat} {l : List Int} {er : Int} (h : parsedOf n l = (er, none)) : er ≠ 0 := by
  unfold parsedOf at h
  split at h
  · cases h; omega
  · split at h
    · cases h; omega
    · split at h
      · cases h; omega
      · split at h
        · cases h; omega
        · split at h
          · cases h; omega
          · cases h
theorem parsedOf_some {n : Nat} {l : List Int} {er : Int} {p : Pt} (h : parsedOf n l = (er, some p)) : er = 0 := by
  unfold parsedOf at h
  split at h
  · cases h
  · split at h
    · cases h
    · split at h
      · cases h
      · split at h
        · cases h
        · split at h
          · cases h
          · cases h; rfl
/-- What Size answers. -/
def sizeOfText (n : Nat) (l : List Int) : Nat := match (parsedOf n l).2 with | none => 0 | some p => p.size
set_option maxRecDepth 100000 in
theorem Size_any {w : World} (s : ByteArray) (hsz : s.size ≤ 9223372036854775807) : Calls Try.prog 17 #[.string s] w fun e w' => e = .returned (.int .i64 (sizeOfText s.size (runesOf (strBytes s)) : Int)) ∧ Fr [] w w' := by
  refine calls_post fun R HQ => ?_
  go_enter Try.func17, Try.ntmps17
  go_wp2_with fail
  refine (parsed_any s hsz).mono ?_
  rintro e w1 ⟨cs, er, x, rfl, hf1, hpo, hx⟩
  have HF1 := Lib.hid hf1; have HPO := Lib.hid hpo
  cases x with
  | none =>
    have hne : (er != 0) = true := by rw [bne_iff_ne]; exact parsedOf_none hpo
    have HE : Hid (sizeOfText s.size (runesOf (strBytes s)) = 0) := Lib.hid (by unfold sizeOfText; rw [hpo])
    have hcs : cs = zero6 := hx
    subst hcs
    clear hpo hf1 hx
    unfold zero6
    go_wp2_with fail
    exact HQ.out _ _ ⟨by rw [HE.out]; rfl, HF1.out.alloc _⟩
  | some p =>
    obtain ⟨hpa, hok, hle⟩ := hx
    have h0 := parsedOf_some hpo
    have HE : Hid (sizeOfText s.size (runesOf (strBytes s)) = p.size) := Lib.hid (by unfold sizeOfText; rw [hpo])
    have HOK := Lib.hid hok
    subst h0
    clear hpo hf1 hok
    obtain ⟨sv, lv, rfl, hs, hl⟩ := hpa.inv
    obtain ⟨A1, c1, rfl⟩ := hs.slice
    obtain ⟨A2, c2, rfl⟩ := hl.slice
    have HPA := Lib.hid hpa.bound
    clear hs hl hpa
    unfold pcells at HPA ⊢
    generalize p.kind = pk at *
    generalize p.neg = pn at *
    generalize p.lo = plo at *
    generalize p.hi = phi at *
    generalize p.set.length = n1 at *
    generalize p.subs.length = n2 at *
    have HPW := Lib.hid (HPA.out.fr ((Fr.refl [] w1).alloc (.cells #[.int .i64 pk, .bool pn, .slice A1 n1 c1, .slice A2 n2 c2, .int .i64 plo, .int .i64 phi] 43)) (by simp))
    go_wp2_with fail
    refine (size_all _ p (Nat.lt_succ_self _) _ _ _ HPW.out HOK.out).mono ?_
    rintro e w2 ⟨rfl, hf2⟩
    have HF2 := Lib.hid ((HF1.out.alloc _).trans hf2 (by simp))
    clear hf2
    go_wp2_with fail
    exact HQ.out _ _ ⟨by rw [HE.out]; rfl, HF2.out⟩

/-- What Compile answers. -/
def CompRes (w : World) (n : Nat) (l : List Int) (e : Ending) (w' : World) : Prop :=
  Fr [] w w' ∧ match parsedOf n l with
    | (er, none) => e = .returned (.tuple #[.pointer none, .int .i64 er]) ∧ er ≠ 0
    | (_, some p) => ∃ gp, e = .returned (.tuple #[.pointer (some ⟨gp, 0, none⟩), .int .i64 0]) ∧ w.heap.size ≤ gp ∧ PrgAt w' gp w'.heap.size (progOf p) ∧ (progOf p).length ≤ 4001
theorem compRes_none {w w' : World} {n : Nat} {l : List Int} {er : Int} (h : parsedOf n l = (er, none)) (hf : Fr [] w w') : CompRes w n l (.returned (.tuple #[.pointer none, .int .i64 er])) w' := by
  refine ⟨hf, ?_⟩
  rw [h]
  exact ⟨rfl, parsedOf_none h⟩
theorem compRes_some {w w' : World} {n : Nat} {l : List Int} {p : Pt} {er : Int} {gp : Nat} (h : parsedOf n l = (er, some p)) (hf : Fr [] w w') (hg : w.heap.size ≤ gp) (hp : PrgAt w' gp w'.heap.size (progOf p)) (hl : (progOf p).length ≤ 4001) : CompRes w n l (.returned (.tuple #[.pointer (some ⟨gp, 0, none⟩), .int .i64 0])) w' := by
  refine ⟨hf, ?_⟩
  rw [h]
  exact ⟨gp, rfl, hg, hp, hl⟩
theorem done_at (w : World) (B : Nat) : OpAt w B .done [.int .i64 3, .bool false, .slice none 0 0, .int .i64 0] := rfl
set_option maxRecDepth 100000 in
theorem Compile_any {w : World} (s : ByteArray) (hsz : s.size ≤ 9223372036854775807) : Calls Try.prog 10 #[.string s] w (CompRes w s.size (runesOf (strBytes s))) := by
  refine calls_post fun R HQ => ?_
  go_enter Try.func10, Try.ntmps10
  go_wp2_with fail
  refine (parsed_any s hsz).mono ?_
  rintro e w1 ⟨cs, er, x, rfl, hf1, hpo, hx⟩
  have HF1 := Lib.hid hf1; have HPO := Lib.hid hpo
  cases x with
  | none =>
    have hne : (er != 0) = true := by rw [bne_iff_ne]; exact parsedOf_none hpo
    have hcs : cs = zero6 := hx
    subst hcs
    clear hpo hf1 hx
    unfold zero6
    go_wp2_with fail
    exact HQ.out _ _ (compRes_none HPO.out (HF1.out.alloc _))
  | some p =>
    obtain ⟨hpa, hok, hle⟩ := hx
    have h0 := parsedOf_some hpo
    have hlen := (p.len_le hok (by omega)).1
    have HOK := Lib.hid hok
    have hz1 := hf1.size
    subst h0
    clear hpo hf1 hok
    obtain ⟨sv, lv, rfl, hs, hl⟩ := hpa.inv
    obtain ⟨A1, c1, rfl⟩ := hs.slice
    obtain ⟨A2, c2, rfl⟩ := hl.slice
    have HPA := Lib.hid hpa.bound
    clear hs hl hpa
    unfold pcells at HPA ⊢
    generalize p.kind = pk at *
    generalize p.neg = pn at *
    generalize p.lo = plo at *
    generalize p.hi = phi at *
    generalize p.set.length = n1 at *
    generalize p.subs.length = n2 at *
    have hpw := ((HPA.out.mono (M := fun g => g < w1.heap.size) (fun g hg => hg.2)).fr ((Fr.refl [] w1).alloc (.cells #[.int .i64 pk, .bool pn, .slice A1 n1 c1, .slice A2 n2 c2, .int .i64 plo, .int .i64 phi] 43)) (by simp))
    have hcp : CP ((w1.alloc (.cells #[.int .i64 pk, .bool pn, .slice A1 n1 c1, .slice A2 n2 c2, .int .i64 plo, .int .i64 phi] 43)).alloc (.cells #[.slice none 0 0] 48)) (w1.heap.size + 1) w1.heap.size (.slice none 0 0) [] := by
      refine ⟨?_, by omega, ⟨[], rfl, own_nil _ _ _ _, fun i o cs h => by simp at h⟩, by simp [Value.ownBlock]⟩
      have := Blk.new (w1.alloc (.cells #[.int .i64 pk, .bool pn, .slice A1 n1 c1, .slice A2 n2 c2, .int .i64 plo, .int .i64 phi] 43)) 48 [.slice none 0 0]
      rw [show (w1.alloc (.cells #[.int .i64 pk, .bool pn, .slice A1 n1 c1, .slice A2 n2 c2, .int .i64 plo, .int .i64 phi] 43)).heap.size = w1.heap.size + 1 by simp] at this
      exact this
    have HCQ := Lib.hid (part_any _ p (Nat.lt_succ_self _) _ _ _ _ _ _ hcp (hpw.fr ((Fr.refl [] _).alloc _) (by simp)) HOK.out (by simp; omega) (by simp; omega))
    have HFX : Hid (Fr [] w ((w1.alloc (.cells #[.int .i64 pk, .bool pn, .slice A1 n1 c1, .slice A2 n2 c2, .int .i64 plo, .int .i64 phi] 43)).alloc (.cells #[.slice none 0 0] 48))) := Lib.hid ((HF1.out.alloc _).alloc _)
    have HCP := Lib.hid hcp
    clear hpw hcp
    go_wp2_with fail
    refine HCQ.out.mono ?_
    rintro e w2 ⟨rfl, v2, hC2, hS2⟩
    have hz2 := hS2.1.size
    simp at hz2
    have hl2 : ([] ++ p.code ([] : List Rop).length).length = p.len := by simp [Pt.code_len]
    have HFW := Lib.hid (HFX.out.trans hS2.1 (fun y hy => .inr (by
      rcases List.mem_cons.1 hy with rfl | hy
      · omega
      · simp [Value.ownBlock] at hy)))
    have HC2 := Lib.hid hC2; have HS2 := Lib.hid hS2
    clear hC2 hS2 HCQ
    go_wp2_with fail
    refine (put_any HC2.out (done_at w2 w1.heap.size) (by omega) (by rw [hl2]; omega)).mono ?_
    rintro e w3 ⟨rfl, v3, hC3, hS3⟩
    have hz3 := hS3.1.size
    have HF3 := Lib.hid (HFW.out.trans hS3.1 (fun y hy => .inr (by
      rcases List.mem_cons.1 hy with rfl | hy
      · omega
      · have := (HC2.out.own y (by simpa using hy)).1; omega)))
    have HPR : Hid (PrgAt w3 (w1.heap.size + 1) w3.heap.size (progOf p)) := Lib.hid (by
      have h1 := hC3.prg (by simp) (by omega)
      simpa [progOf] using h1)
    have hpl : (progOf p).length ≤ 4001 := by simp [progOf, Pt.code_len]; omega
    clear hC3 hS3
    go_wp2_with fail
    exact HQ.out _ _ (compRes_some HPO.out HF3.out (by omega) HPR.out hpl)

end Go.Proofs.Ytnhlgjjdpappkaa
