/-
  The contract of star.
-/
import Derived.Test.YtnhlgjjdpappkaaCb
namespace Go.Proofs.Ytnhlgjjdpappkaa
open Go.RowKit

def LayRes (w : World) (gp B : Nat) (v : Value) (ops : List Rop) (e : Ending) (w' : World) : Prop := e = .returned (.tuple #[]) ∧ ∃ v', CP w' gp B v' ops ∧ CStep w w' gp v v'
/-- Parts smaller than m are laid as they should. -/
def PartOK (m : Nat) : Prop := ∀ (p : Pt), SizeOf.sizeOf p < m → ∀ (w : World) (gp B : Nat) (v : Value) (ops : List Rop) (cs : List Value), CP w gp B v ops → PartAt w (fun g => g < B) p cs → p.ok → B ≤ w.heap.size → ops.length + p.len < 90000 →
  Calls Try.prog 19 #[.pointer (some ⟨gp, 0, none⟩), .agg cs.toArray] w (LayRes w gp B v (ops ++ p.code ops.length))
theorem CStep.keep {w w' : World} {gp : Nat} {v v' : Value} {g : Nat} {t : TypeId} {cs : List Value} (k : CStep w w' gp v v') (hb : Blk w g t cs) (h1 : g ≠ gp) (h2 : v.ownBlock ≠ some g) : Blk w' g t cs ∧ v'.ownBlock ≠ some g := by
  refine ⟨hb.fr k.1 (fun hm => ?_), fun e => ?_⟩
  · rcases List.mem_cons.1 hm with h | h
    · exact h1 h
    · exact h2 (by simpa using h)
  · rcases k.2 g e with h | h
    · exact h2 h
    · have := hb.lt; omega
theorem CP.lt {w : World} {gp B : Nat} {v : Value} {ops : List Rop} (h : CP w gp B v ops) : gp < w.heap.size ∧ ∀ g, v.ownBlock = some g → g < w.heap.size := by
  obtain ⟨css, a1, a2, a3⟩ := h.ex
  exact ⟨h.blk.lt, own_lt a2⟩
theorem fork_at (w : World) (B t : Nat) : OpAt w B (.fork t) [.int .i64 1, .bool false, .slice none 0 0, .int .i64 (t : Int)] := rfl
theorem leap_at (w : World) (B t : Nat) : OpAt w B (.leap t) [.int .i64 2, .bool false, .slice none 0 0, .int .i64 (t : Int)] := rfl

set_option maxRecDepth 100000 in
theorem star_any {m : Nat} (IH : PartOK m) {p : Pt} (hm : SizeOf.sizeOf p < m) {w : World} {gp B : Nat} {v : Value} {ops : List Rop} {cs : List Value} (h : CP w gp B v ops) (hp : PartAt w (fun g => g < B) p cs) (ho : p.ok) (hB : B ≤ w.heap.size) (hn : ops.length + (p.len + 2) < 90000) :
    Calls Try.prog 33 #[.pointer (some ⟨gp, 0, none⟩), .agg cs.toArray] w (LayRes w gp B v (ops ++ starCode p.code p.len ops.length)) := by
  refine calls_post fun R HQ => ?_
  have HIH := Lib.hid IH; have HO := Lib.hid ho
  obtain ⟨sv, lv, rfl, hs, hl⟩ := hp.inv
  obtain ⟨A1, c1, rfl⟩ := hs.slice
  obtain ⟨A2, c2, rfl⟩ := hl.slice
  unfold pcells at hp ⊢
  generalize p.kind = pk at *
  generalize p.neg = pn at *
  generalize p.lo = plo at *
  generalize p.hi = phi at *
  generalize p.set.length = n1 at *
  generalize p.subs.length = n2 at *
  have hlt := h.lt
  have hfa : Fr [] w (w.alloc (.cells #[.int .i64 pk, .bool pn, .slice A1 n1 c1, .slice A2 n2 c2, .int .i64 plo, .int .i64 phi] 43)) := (Fr.refl [] w).alloc _
  have hsa : (w.alloc (.cells #[.int .i64 pk, .bool pn, .slice A1 n1 c1, .slice A2 n2 c2, .int .i64 plo, .int .i64 phi] 43)).heap.size = w.heap.size + 1 := by simp
  have HBX := Lib.hid (Blk.new w 43 [.int .i64 pk, .bool pn, .slice A1 n1 c1, .slice A2 n2 c2, .int .i64 plo, .int .i64 phi])
  have HC0 := Lib.hid (h.frn hfa); have HP0 := Lib.hid (hp.fr hfa (by simp)); have HFA := Lib.hid hfa
  have HOW : Hid (v.ownBlock ≠ some w.heap.size) := Lib.hid fun e => by have := hlt.2 _ e; omega
  have hgp : gp < w.heap.size := hlt.1
  clear h hp hs hl hfa hlt
  go_enter Try.func33, Try.ntmps33
  go_wp2_with fail
  generalize w.alloc (.cells #[.int .i64 pk, .bool pn, .slice A1 n1 c1, .slice A2 n2 c2, .int .i64 plo, .int .i64 phi] 43) = w0 at *
  refine (put_any HC0.out (fork_at w0 B 0) (by omega) (by omega)).mono ?_
  rintro e w1 ⟨rfl, v1, hC1, hS1⟩
  have HC1 := Lib.hid hC1; have HS1 := Lib.hid hS1
  obtain ⟨hbx1, hov1⟩ := hS1.keep HBX.out (by omega) HOW.out
  have HP1 := Lib.hid (hS1.part HC0.out HP0.out)
  have hz1 := hS1.1.size
  have HBX1 := Lib.hid hbx1; have HOV1 := Lib.hid hov1
  clear hC1 hS1 hbx1 hov1
  have y0 := HBX1.out.at_ (i := 0) rfl
  have y1 := HBX1.out.at_ (i := 1) rfl
  have y2 := HBX1.out.at_ (i := 2) rfl
  have y3 := HBX1.out.at_ (i := 3) rfl
  have y4 := HBX1.out.at_ (i := 4) rfl
  have y5 := HBX1.out.at_ (i := 5) rfl
  go_wp2_with fail
  refine (HIH.out p hm w1 gp B v1 _ _ HC1.out HP1.out HO.out (by omega) (by simp; omega)).mono ?_
  rintro e w2 ⟨rfl, v2, hC2, hS2⟩
  have HC2 := Lib.hid hC2; have HS2 := Lib.hid (HS1.out.trans hS2)
  have hz2 := hS2.1.size
  clear hC2 hS2 y0 y1 y2 y3 y4 y5
  go_wp2_with fail
  refine (put_any HC2.out (leap_at w2 B ops.length) (by omega) (by simp [Pt.code_len]; omega)).mono ?_
  rintro e w3 ⟨rfl, v3, hC3, hS3⟩
  have HC3 := Lib.hid hC3; have HS3 := Lib.hid (HS2.out.trans hS3)
  clear hC3 hS3
  go_wp2_with fail
  refine (here_any (o := .fork 0) HC3.out (by simp) trivial (by simp [Pt.code_len]; omega)).mono ?_
  rintro e w4 ⟨rfl, hC4, hS4⟩
  have HS4 := Lib.hid (CStep.pre HFA.out (HS3.out.trans hS4))
  have HC4 : Hid (CP w4 gp B v3 (ops ++ starCode p.code p.len ops.length)) := Lib.hid (by
    have e1 : ((ops ++ [Rop.fork 0] ++ p.code (ops ++ [Rop.fork 0]).length ++ [Rop.leap ops.length]).set ops.length (Rop.goto_ (.fork 0) (ops ++ [Rop.fork 0] ++ p.code (ops ++ [Rop.fork 0]).length ++ [Rop.leap ops.length]).length)) = ops ++ starCode p.code p.len ops.length := by
      simp [starCode, Pt.code_len, Rop.goto_, List.set_append]
      omega
    rw [← e1]; exact hC4)
  clear hC4 hS4
  go_wp2_with fail
  exact bodyPost_end (results_none rfl _ _ _) rfl (HQ.out _ _ ⟨rfl, v3, HC4.out, HS4.out⟩)

end Go.Proofs.Ytnhlgjjdpappkaa
