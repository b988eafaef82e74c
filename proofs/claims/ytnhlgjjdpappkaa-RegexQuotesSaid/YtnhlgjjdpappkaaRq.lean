/-
  The contract of the pattern's reader, whole: what panics is no pattern.
-/
import Derived.Test.YtnhlgjjdpappkaaRp
import Derived.Defers
import Derived.Recover
namespace Go.Proofs.Ytnhlgjjdpappkaa
open Go.RowKit

set_option maxRecDepth 100000 in
theorem catch_panicking {w : World} {gp gk : Nat} {cs' : List Value} {b : Bool} (hp : Blk w gp 43 cs') (hl : cs'.length = 6) (hk : Blk w gk 4 [.bool b]) :
    CallsD Try.prog 40 #[.pointer (some ⟨gp, 0, none⟩), .pointer (some ⟨gk, 0, none⟩)] (.panicking [badEntry]) w fun e u' w' =>
      e = .returned (.tuple #[]) ∧ u' = .panicking [{ badEntry with recovered := true }] ∧ Blk w' gp 43 zero6 ∧ Blk w' gk 4 [.bool false] ∧ Fr [gp, gk] w w' := by
  refine callsD_of_wpS Try.func40 rfl fun c₀ cs hu => ?_
  apply wpS_seq
  apply wpS_region
  simp [wpOpsS, go_sem, recoverD, hu, Try.ntmps40, Exit.thenS, badEntry]
  refine wpS_of_wp ?_
  have hs0 := hp.free
  have hk0 := hk.at_ (i := 0) rfl
  have hkf := hk.free
  match cs', hl with
  | [x0, x1, x2, x3, x4, x5], _ =>
  have p0 := hp.at_ (i := 0) rfl
  have p1 := hp.at_ (i := 1) rfl
  have p2 := hp.at_ (i := 2) rfl
  have p3 := hp.at_ (i := 3) rfl
  have p4 := hp.at_ (i := 4) rfl
  have p5 := hp.at_ (i := 5) rfl
  have HP := Lib.hid hp; have HK := Lib.hid hk
  have lp := hp.lt
  have lk := hk.lt
  have hne : ¬ gk = gp := fun e => hp.ne_ hk (by decide) e.symm
  have hne' : ¬ gp = gk := fun e => hne e.symm
  clear hp hk
  have ep : (#[Value.pointer (some ⟨gp, 0, none⟩), Value.pointer (some ⟨gk, 0, none⟩)] ++ ((Array.replicate 15 undef).setIfInBounds 3 (.iface 85 (.agg #[]))).setIfInBounds 0 (.iface 85 (.agg #[])) : Array Value) = #[.pointer (some ⟨gp, 0, none⟩), .pointer (some ⟨gk, 0, none⟩), .iface 85 (.agg #[]), undef, undef, .iface 85 (.agg #[]), undef, undef, undef, undef, undef, undef, undef, undef, undef, undef, undef] := rfl
  rw [ep]
  clear ep
  have hta : ∀ w : World, (Instr.typeAssert (.iface 85 (.agg #[])) 20 85 true).run Try.prog w = .ok (.tuple #[.agg #[], .bool true]) w := fun _ => by kernel_rfl
  go_wp2_with fail
  refine ⟨rfl, _, rfl, .tuple #[], by simp [results, Try.results40], rfl, rfl, ?_, ?_, ?_⟩
  · exact ((HP.out.set6 (.int .i64 0) (.bool false) (.slice none 0 0) (.slice none 0 0) (.int .i64 0) (.int .i64 0)).far (p := ⟨gk, 0, none⟩) hne' _).alloc _
  · exact ((HK.out.fr (Fr.set6 w gp (.int .i64 0) (.bool false) (.slice none 0 0) (.slice none 0 0) (.int .i64 0) (.int .i64 0)) (by simpa using hne)).set_ 0 (.bool false)).alloc _
  · exact (((Fr.set6 w gp (.int .i64 0) (.bool false) (.slice none 0 0) (.slice none 0 0) (.int .i64 0) (.int .i64 0)).mono (by simp)).setCell (.inl (by simp)) _).alloc _

theorem catch_idle (w : World) (gp gk : Nat) :
    CallsD Try.prog 40 #[.pointer (some ⟨gp, 0, none⟩), .pointer (some ⟨gk, 0, none⟩)] .returning w fun e u' w' => e = .returned (.tuple #[]) ∧ u' = .returning ∧ w' = w := by
  refine callsD_of_wpS Try.func40 rfl fun c₀ cs hu => ?_
  apply wpS_seq
  apply wpS_region
  simp [wpOpsS, go_sem, recoverD, hu, Try.ntmps40, Exit.thenS]
  refine wpS_of_wp ?_
  have ep : (#[Value.pointer (some ⟨gp, 0, none⟩), Value.pointer (some ⟨gk, 0, none⟩)] ++ ((Array.replicate 15 undef).setIfInBounds 3 .nilIface).setIfInBounds 0 .nilIface : Array Value) = #[.pointer (some ⟨gp, 0, none⟩), .pointer (some ⟨gk, 0, none⟩), .nilIface, undef, undef, .nilIface, undef, undef, undef, undef, undef, undef, undef, undef, undef, undef, undef] := rfl
  rw [ep]
  clear ep
  go_wp2_with fail
  exact ⟨rfl, .returning, by cases c₀; simp_all, .tuple #[], by simp [results, Try.results40], rfl, rfl, rfl⟩

/-- Two results, a struct and a value of one cell, that lie in blocks. -/
theorem results_two {P : Program} {fn : Func} {tmps : Array Value} {w : World} {k k2 : Tmp} {t t' t2 t2' : TypeId} {g g2 : Nat} {cs : List Value} {v : Value} {d : TypeDesc} (hr : fn.results = #[.cell k t, .cell k2 t2]) (ha : tmps.getD k undef = .pointer (some ⟨g, 0, none⟩)) (ha2 : tmps.getD k2 undef = .pointer (some ⟨g2, 0, none⟩)) (hb : Blk w g t' cs) (hb2 : Blk w g2 t2' [v])
    (hu : P.underlying t = some d) (hd : d.isRow = true) (hi : (P.info? t).map (·.size) = some cs.length) (h2 : ∀ w' : World, w'.cell? ⟨g2, 0, none⟩ = some v → (loadVar t2 ⟨g2, 0, none⟩).run P w' = .ok v w') : (results fn tmps).run P w = .ok (.tuple #[.agg cs.toArray, v]) w := by
  have hl := run_loadVar_row (P := P) w g t' t cs.toArray (0, 0) d hb hu (by cases d <;> simp_all) (by simpa using hi)
  have ha' : tmps[k]?.getD undef = .pointer (some ⟨g, 0, none⟩) := by simpa using ha
  have ha2' : tmps[k2]?.getD undef = .pointer (some ⟨g2, 0, none⟩) := by simpa using ha2
  have hl2 := h2 w (hb2.at_ (i := 0) rfl)
  simp [results, hr, ha', ha2', hl, hl2, asAddr, Sem.run_bind, Sem.run_pure]
theorem load_bool {w : World} {g : Nat} {b : Bool} (h : w.cell? ⟨g, 0, none⟩ = some (.bool b)) : (loadVar 4 ⟨g, 0, none⟩).run Try.prog w = .ok (.bool b) w := by
  have hu := Try.underlying4
  simp [loadVar, isAgg, run_underlying hu, go_sem, h]

/-- What whole answers. -/
def WholeRes (w : World) (r gl : Nat) (x : Option (Pt × RS)) (e : Ending) (w' : World) : Prop :=
  match x with
  | none => e = .returned (.tuple #[.agg zero6.toArray, .bool false]) ∧ Fr [r] w w'
  | some (p, s) => ∃ cs, e = .returned (.tuple #[.agg cs.toArray, .bool (decide (s.l = []))]) ∧ PartAt w' (fun g => w.heap.size ≤ g) p cs ∧ RdAt w' r gl s ∧ Fr [r] w w'
theorem wholeRes_none {w w' : World} {r gl : Nat} {x : Option (Pt × RS)} (h : x = none) (hf : Fr [r] w w') : WholeRes w r gl x (.returned (.tuple #[.agg zero6.toArray, .bool false])) w' := by
  subst h; exact ⟨rfl, hf⟩
theorem wholeRes_some {w w' : World} {r gl : Nat} {x : Option (Pt × RS)} {p : Pt} {s : RS} {cs : List Value} {b : Bool} (h : x = some (p, s)) (hb : b = decide (s.l = [])) (hp : PartAt w' (fun g => w.heap.size ≤ g) p cs) (hr : RdAt w' r gl s) (hf : Fr [r] w w') : WholeRes w r gl x (.returned (.tuple #[.agg cs.toArray, .bool b])) w' := by
  subst h hb; exact ⟨cs, rfl, hp, hr, hf⟩
set_option maxRecDepth 100000 in
theorem whole_pat {n : Nat} {w : World} {r gl : Nat} {s : RS} (h : RdAt w r gl s) (hok : s.ok) (hn : s.l.length < n) : Calls Try.prog 29 #[.pointer (some ⟨r, 0, none⟩)] w (WholeRes w r gl (RS.pattern n s)) := by
  refine calls_post fun R HQ => ?_
  have hmf : ∀ (fn : Fn) (first cap : Array Value) (w : World), (Instr.makeFunc fn first cap).run Try.prog w = .ok (.func fn first cap) w := fun _ _ _ _ => rfl
  have hlt := h.lt
  have hfa : Fr [] w ((w.alloc (.cells zero6.toArray 43)).alloc (.cells #[.bool false] 4)) := ((Fr.refl [] w).alloc _).alloc _
  have HZ := Lib.hid ((Blk.new w 43 zero6).alloc (.cells #[.bool false] 4))
  have hk := Blk.new (w.alloc (.cells zero6.toArray 43)) 4 [.bool false]
  rw [show (w.alloc (.cells zero6.toArray 43)).heap.size = w.heap.size + 1 by simp] at hk
  have HK := Lib.hid hk
  have HC := Lib.hid (pattern_any n _ r gl s (h.fr hfa (by simp)) hok hn)
  have HFA := Lib.hid hfa
  clear h hfa hk
  unfold zero6 at HZ HK HC HFA
  go_enter_defers Try.func29, Try.ntmps29
  go_wp2_with fail
  cases hp : RS.pattern n s with
  | none =>
    have HP := Lib.hid hp
    rw [hp] at HC
    clear hp
    refine HC.out.mono ?_
    rintro e w1 ⟨rfl, hf1⟩
    have hz1 := HZ.out.fr hf1 (by simp <;> omega)
    have hk1 := HK.out.fr hf1 (by simp <;> omega)
    refine leaves_cons (f := 40) (args := #[.pointer (some ⟨w.heap.size, 0, none⟩), .pointer (some ⟨w.heap.size + 1, 0, none⟩)]) (by simp) (by simp [go_sem]) ?_
    refine (catch_panicking hz1 rfl hk1).mono ?_
    rintro e u' w2 ⟨rfl, rfl, hz2, hk2, hf2⟩
    refine ⟨.tuple #[.agg zero6.toArray, .bool false], results_two rfl rfl rfl hz2 hk2 Try.underlying43 rfl (by kernel_rfl) (fun w' h => load_bool h), HQ.out _ _ (wholeRes_none HP.out ?_)⟩
    exact ((HFA.out.mono (by simp)).trans hf1 (fun x hx => .inl hx)).trans hf2 (fun x hx => .inr (by simp at hx; omega))
  | some y =>
    obtain ⟨p, s1⟩ := y
    have HP := Lib.hid hp
    rw [hp] at HC
    clear hp
    refine HC.out.mono ?_
    rintro e w1 ⟨_, rfl, ⟨cs, rfl, hpa⟩, hr1, hf1⟩
    have hz1 := HZ.out.fr hf1 (by simp <;> omega)
    have hk1 := HK.out.fr hf1 (by simp <;> omega)
    have hz0 : ((w.alloc (.cells zero6.toArray 43)).alloc (.cells #[.bool false] 4)).heap.size = w.heap.size + 2 := by simp
    unfold zero6 at hz0
    have hpa' : PartAt w1 (fun g => w.heap.size + 1 < g ∧ g < w1.heap.size) p cs := hpa.bound.mono (fun g hg => ⟨by have := hg.1; rw [hz0] at this; omega, hg.2⟩)
    obtain ⟨sv, lv, rfl, hs, hl⟩ := hpa.inv
    obtain ⟨A1, c1, rfl⟩ := hs.slice
    obtain ⟨A2, c2, rfl⟩ := hl.slice
    have HPA := Lib.hid hpa'
    have HF1 := Lib.hid ((HFA.out.mono (by simp)).trans hf1 (fun x hx => .inl hx))
    clear hs hl hpa hpa' hf1 hz0 HC HZ HK HFA
    unfold pcells at HPA ⊢
    generalize p.kind = pk at *
    generalize p.neg = pn at *
    generalize p.lo = plo at *
    generalize p.hi = phi at *
    generalize p.set.length = n1 at *
    generalize p.subs.length = n2 at *
    have z0 := hz1.at_ (i := 0) rfl
    have z1 := hz1.at_ (i := 1) rfl
    have z2 := hz1.at_ (i := 2) rfl
    have z3 := hz1.at_ (i := 3) rfl
    have z4 := hz1.at_ (i := 4) rfl
    have z5 := hz1.at_ (i := 5) rfl
    have zf := hz1.free
    have k0 := hk1.at_ (i := 0) rfl
    have kf := hk1.free
    have lz := hz1.lt
    have lk := hk1.lt
    have HR1 := Lib.hid hr1
    obtain ⟨hgl, v, hb, A, c, off, rfl, hcl, _⟩ := hr1
    have r0 := hb.at_ (i := 0) rfl
    have HZ1 := Lib.hid hz1; have HK1 := Lib.hid hk1
    clear hz1 hk1 hb hgl
    have hne1 : ¬ w.heap.size = r := by omega
    have hne2 : ¬ w.heap.size + 1 = r := by omega
    have hne3 : ¬ r = w.heap.size := by omega
    have hne4 : ¬ r = w.heap.size + 1 := by omega
    go_wp2_with fail
    go_region
    go_wp2_with fail
    have hf6 := Fr.set6 w1 w.heap.size (.int .i64 pk) (.bool pn) (.slice A1 n1 c1) (.slice A2 n2 c2) (.int .i64 plo) (.int .i64 phi)
    have hf7 := Fr.set6 (set6 w1 w.heap.size (.int .i64 pk) (.bool pn) (.slice A1 n1 c1) (.slice A2 n2 c2) (.int .i64 plo) (.int .i64 phi)) w.heap.size (.int .i64 pk) (.bool pn) (.slice A1 n1 c1) (.slice A2 n2 c2) (.int .i64 plo) (.int .i64 phi)
    have hz7 := (HZ1.out.set6 (.int .i64 pk) (.bool pn) (.slice A1 n1 c1) (.slice A2 n2 c2) (.int .i64 plo) (.int .i64 phi)).set6 (.int .i64 pk) (.bool pn) (.slice A1 n1 c1) (.slice A2 n2 c2) (.int .i64 plo) (.int .i64 phi)
    have hk7 := (HK1.out.fr hf6 (by simp)).fr hf7 (by simp)
    have hf67 : Fr [w.heap.size] w1 (set6 (set6 w1 w.heap.size (.int .i64 pk) (.bool pn) (.slice A1 n1 c1) (.slice A2 n2 c2) (.int .i64 plo) (.int .i64 phi)) w.heap.size (.int .i64 pk) (.bool pn) (.slice A1 n1 c1) (.slice A2 n2 c2) (.int .i64 plo) (.int .i64 phi)) := hf6.trans hf7 (fun x hx => .inl hx)
    have hk8 := (hk7.set_ 0 (.bool ((s1.l.length : Int) == 0))).drew
    have hz8 := (hz7.far (p := ⟨w.heap.size + 1, 0, none⟩) (by simp) (.bool ((s1.l.length : Int) == 0))).drew
    have hf8 : Fr [w.heap.size, w.heap.size + 1] w1 ((set6 (set6 w1 w.heap.size (.int .i64 pk) (.bool pn) (.slice A1 n1 c1) (.slice A2 n2 c2) (.int .i64 plo) (.int .i64 phi)) w.heap.size (.int .i64 pk) (.bool pn) (.slice A1 n1 c1) (.slice A2 n2 c2) (.int .i64 plo) (.int .i64 phi)).setCell ⟨w.heap.size + 1, 0, none⟩ (.bool ((s1.l.length : Int) == 0))).drew := ((hf67.mono (by simp)).setCell (.inl (by simp)) _).drew
    refine leaves_cons (f := 40) (args := #[.pointer (some ⟨w.heap.size, 0, none⟩), .pointer (some ⟨w.heap.size + 1, 0, none⟩)]) (by simp) (by simp [go_sem]) ?_
    refine (catch_idle _ _ _).mono ?_
    rintro e u' w2 ⟨rfl, rfl, rfl⟩
    refine ⟨.tuple #[.agg #[.int .i64 pk, .bool pn, .slice A1 n1 c1, .slice A2 n2 c2, .int .i64 plo, .int .i64 phi], .bool ((s1.l.length : Int) == 0)], results_two rfl rfl rfl hz8 hk8 Try.underlying43 rfl (by kernel_rfl) (fun w' h => load_bool h), HQ.out _ _ (wholeRes_some (cs := [.int .i64 pk, .bool pn, .slice A1 n1 c1, .slice A2 n2 c2, .int .i64 plo, .int .i64 phi]) HP.out ?_ ?_ ?_ ?_)⟩
    · rw [Bool.eq_iff_iff]; simp [List.length_eq_zero_iff]
    · exact (HPA.out.fr hf8 (fun g hg => by simp; omega)).mono (fun g hg => by omega)
    · exact HR1.out.fr hf8 (by simp; omega)
    · exact HF1.out.trans hf8 (fun x hx => .inr (by simp at hx; omega))

end Go.Proofs.Ytnhlgjjdpappkaa
