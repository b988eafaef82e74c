/-
  Joined by join.py: Fo Fp Eh Ga Lg Ej Ek
-/
import Derived.Test.YtbggkiebfflcdaaGreatDoorRows
import Derived.Shelf.Vars
import Derived.Stop.LaidErr
import Derived.Lib.LaidTab
import Derived.MakeChecks
import Derived.LaidMore
import Derived.Lay
import Derived.Stop.Joined
import Derived.Test.YtbggkiebfflcdaaGreatDoorJpf7
set_option maxRecDepth 100000
set_option maxHeartbeats 32000000
namespace Go.Proofs.YtbggkiebfflcdaaGreatDoor
section
open Go.RowKit Go.Shelf
def toksC (ts : List Tkn) : List Value := ts.flatMap Tkn.vals
theorem toksC_append (a b : List Tkn) : toksC (a ++ b) = toksC a ++ toksC b := by simp [toksC]
theorem vals_one (t : Tkn) : ∀ u ∈ t.vals, u.oneCell' = true := by
 intro u hu; simp only [Tkn.vals, List.mem_cons, List.not_mem_nil, or_false] at hu; rcases hu with rfl | rfl | rfl | rfl | rfl | rfl | rfl <;> rfl
def AllR (w : World) (l : List UInt8) (e : Ending) (w' : World) : Prop :=
 Fr [] w w' /\ match tokens l with
 | .error er => e = .returned (.tuple #[.slice none 0 0, .int .i64 er]) /\ er ≠ 0
 | .ok ts => ∃ v, e = .returned (.tuple #[v, .int .i64 0]) /\ w'.ownsRow 0 95 7 v ts.length (toksC ts) /\ ∀ g, v.ownBlock = some g -> w.heap.size <= g
theorem all_err {w w' : World} {l : List UInt8} {er : Int} (h : tokens l = .error er) (he : er ≠ 0) (hf : Fr [] w w') : AllR w l (.returned (.tuple #[.slice none 0 0, .int .i64 er])) w' := by
 refine ⟨hf, ?_⟩; rw [h]; exact ⟨rfl, he⟩
theorem all_ok {w w' : World} {l : List UInt8} {ts : List Tkn} {v : Value} (h : tokens l = .ok ts) (ho : w'.ownsRow 0 95 7 v ts.length (toksC ts)) (hg : ∀ g, v.ownBlock = some g -> w.heap.size <= g) (hf : Fr [] w w') : AllR w l (.returned (.tuple #[v, .int .i64 0])) w' := by
 refine ⟨hf, ?_⟩; rw [h]; exact ⟨v, rfl, ho, hg⟩
theorem info_tok : (Tryz.prog.info? 95).map (fun i => (i.zero, i.size, i.bytes)) = some (some (.agg #[.int .i64 0, .string { data := #[] }, .bool false, .string { data := #[] }, .int .i64 0, .int .i64 0, .int .i64 0]), 7, 72) := by kernel_rfl
def glueT (ts : List Tkn) : Except Int (List Tkn) -> Except Int (List Tkn)
 | .error e => .error e
 | .ok x => .ok (ts ++ x)
def AlRel (w : World) (s : ByteArray) (j : Nat) (v4 v5 : Value) (wr : World) : Prop :=
 ∃ (a m : Nat) (ts : List Tkn), a <= s.size /\ s.size <= a + j /\ v5 = .int .i64 (a : Int) /\ s.size < m + a /\ ts.length <= a /\ tokens (strBytes s) = glueT ts (tokensF m a ((strBytes s).drop a)) /\
  wr.ownsRow 0 95 7 v4 ts.length (toksC ts) /\ (∀ g, v4.ownBlock = some g -> w.heap.size <= g) /\ Fr [] w wr
theorem all_any {w : World} (s : ByteArray) (hz : s.size <= 100000) : Calls Tryz.prog 19 #[.string s] w (AllR w (strBytes s)) := by
 refine calls_post fun R HQ => ?_
 by_cases hl : 8192 < s.size
 ·have HE : Hid (tokens (strBytes s) = .error 4) := lh (by unfold tokens; rw [if_pos (by rw [strBytes_len]; exact hl)]); have d0 : decide (8192 < (s.size : Int)) = true := by rw [decide_eq_true_eq]; omega
  go_enter Tryz.func19, Tryz.ntmps19
  go_wp2_with fail; exact HQ.out _ _ (all_err HE.out (by omega) (Fr.refl _ _))
 ·have HT0 : Hid (tokens (strBytes s) = tokensF (s.size + 1) 0 (strBytes s)) := lh (by unfold tokens; rw [if_neg (by rw [strBytes_len]; exact hl), strBytes_len]); have d0 : decide (8192 < (s.size : Int)) = false := by rw [decide_eq_false_iff_not]; omega
  go_enter Tryz.func19, Tryz.ntmps19
  go_wp2_with fail; clear d0
  go_loopg [4, 5] s.size (fun j v4 v5 wr => AlRel w s j v4 v5 wr)
  case atStart => exact ⟨0, s.size + 1, [], Nat.zero_le _, by omega, rfl, by omega, by simp, by rw [HT0.out, List.drop_zero]; cases tokensF (s.size + 1) 0 (strBytes s) <;> rfl, own_nil _ _ _ _, by simp [Value.ownBlock], Fr.refl _ _⟩
  case round =>
   obtain ⟨a, m, ts, ha, hj, rfl, hm, htl, ht, hown, hge, hf⟩ := hrel; have HT := lh ht; have HOWN := lh hown; have HGE := lh hge; have HF := lh hf; have HTL := lh htl; clear ht hown hge hf HT0 htl; obtain ⟨m1, hm1⟩ : ∃ m1, m = m1 + 1 := ⟨m - 1, by omega⟩; have HM1 := lh hm1; clear hm1; obtain ⟨oA, oc, hov, _, _⟩ := own_shape HOWN.out; have HOV := lh hov; clear hov; go_wp2_with fail; refine (next_tok s a ha hz).mono ?_; rintro e w1 ⟨hf1, hr1⟩; have HF1 := lh (HF.out.trans hf1 (by simp)); have HW1 := lh hf1; clear hf1
   cases hn : nextT a ((strBytes s).drop a) with
   | error er =>
    rw [hn] at hr1; obtain ⟨rfl, hne⟩ := hr1; have HE : Hid (tokens (strBytes s) = .error er) := lh (by rw [HT.out, HM1.out, tokensF, hn]; rfl); have HNE := lh hne; have dn : (er != 0) = true := by rw [bne_iff_ne]; exact hne
    clear hn hne; go_wp2_with fail; exact HQ.out _ _ (all_err HE.out HNE.out (HF1.out.alloc _))
   | ok t =>
    rw [hn] at hr1; have hok := nextT_ok hn; have HE0 : Hid (tokensF m a ((strBytes s).drop a) = if t.kind = 0 then .ok [] else match tokensF m1 t.til (((strBytes s).drop a).drop (t.til - a)) with | .error e => .error e | .ok ts => .ok (t :: ts)) := lh (by rw [HM1.out, tokensF, hn]; rfl); clear hn; subst hr1; obtain ⟨tk, tsx, ⟨tneg, tdig, texp⟩, tfrm, ttil⟩ := t; obtain ⟨sv, hsv⟩ : ∃ sv, S8 tsx = .string sv := ⟨_, rfl⟩; obtain ⟨dv, hdv⟩ : ∃ dv, S8 tdig = .string dv := ⟨_, rfl⟩; have hvs : Tkn.vals ⟨tk, tsx, ⟨tneg, tdig, texp⟩, tfrm, ttil⟩ = [.int .i64 (tk : Int), .string sv, .bool tneg, .string dv, .int .i64 texp, .int .i64 (tfrm : Int), .int .i64 (ttil : Int)] := by rw [<- hsv, <- hdv]; rfl
    rw [hvs]; have HVS := lh hvs
    simp only at hok
    obtain ⟨h1, h2, h3, h4⟩ := hok; rw [List.length_drop, strBytes_len] at h2; clear hsv hdv hvs
    by_cases hk0 : tk = 0
    ·have HE : Hid (tokens (strBytes s) = .ok ts) := lh (by rw [HT.out, HE0.out, if_pos hk0]; simp [glueT]); have dk : ((tk : Int) == 0) = true := by rw [hk0]; rfl
     clear h3 h4 hk0; go_wp2_with fail; exact HQ.out _ _ (all_ok HE.out ((own_fr HOWN.out HW1.out (by simp)).alloc _) HGE.out (HF1.out.alloc _))
    ·have dk : ((tk : Int) == 0) = false := by rw [beq_eq_false_iff_ne]; omega
     have h5 := h4 hk0; obtain ⟨h6, h7, _⟩ := h5
     simp only at h6 h7
     have HE : Hid (tokens (strBytes s) = glueT (ts ++ [⟨tk, tsx, ⟨tneg, tdig, texp⟩, tfrm, ttil⟩]) (tokensF m1 ttil ((strBytes s).drop ttil))) := lh (by
      rw [HT.out, HE0.out, if_neg hk0, List.drop_drop]
      simp only
      rw [show a + (ttil - a) = ttil by omega]
      cases tokensF m1 ttil ((strBytes s).drop ttil) with
      | error e => rfl
      | ok x => simp [glueT])
     have hlt : a < ttil /\ ttil <= s.size := by omega
     obtain ⟨hlt1, hlt2⟩ := hlt; clear h1 h2 h3 h4 h6 h7 hk0 HT HE0; go_upto_region 10 with fail
     refine wp_region_lit ?_
     iterate 2 (refine rn rfl (by go_simp <;> with_reducible rfl) ?_; simp only [nrm])
     refine lp fun K hK => ?_; obtain ⟨iu, hi, hz', hsz', hby⟩ := info_parts info_tok; refine wp_build_one (.tmp 27) rfl Tryz.underlying57 hi hz' [.int .i64 (tk : Int), .string sv, .bool tneg, .string dv, .int .i64 texp, .int .i64 (tfrm : Int), .int .i64 (ttil : Int)] rfl hsz' rfl (by simp) (by simp) (hK _ _ ?_); simp only [nrm]; clear hK; have hb2 := Blk.new w1 95 [.int .i64 (tk : Int), .string sv, .bool tneg, .string dv, .int .i64 texp, .int .i64 (tfrm : Int), .int .i64 (ttil : Int)]; have hf2 : Fr [] w1 (w1.alloc (.cells #[.int .i64 (tk : Int), .string sv, .bool tneg, .string dv, .int .i64 texp, .int .i64 (tfrm : Int), .int .i64 (ttil : Int)] 95)) := (Fr.refl [] w1).alloc _; have hz2 : (w1.alloc (.cells #[.int .i64 (tk : Int), .string sv, .bool tneg, .string dv, .int .i64 texp, .int .i64 (tfrm : Int), .int .i64 (ttil : Int)] 95)).heap.size = w1.heap.size + 1 := by simp
     generalize w1.alloc (.cells #[.int .i64 (tk : Int), .string sv, .bool tneg, .string dv, .int .i64 texp, .int .i64 (tfrm : Int), .int .i64 (ttil : Int)] 95) = w2 at *; have hb3 := Blk.new w2 95 [.int .i64 (tk : Int), .string sv, .bool tneg, .string dv, .int .i64 texp, .int .i64 (tfrm : Int), .int .i64 (ttil : Int)]; have hf3 : Fr [] w2 (w2.alloc (.cells #[.int .i64 (tk : Int), .string sv, .bool tneg, .string dv, .int .i64 texp, .int .i64 (tfrm : Int), .int .i64 (ttil : Int)] 95)) := (Fr.refl [] w2).alloc _; have hz3 : (w2.alloc (.cells #[.int .i64 (tk : Int), .string sv, .bool tneg, .string dv, .int .i64 texp, .int .i64 (tfrm : Int), .int .i64 (ttil : Int)] 95)).heap.size = w1.heap.size + 2 := by simp [hz2]
     have hb23 := hb2.fr hf3 (by simp); generalize w2.alloc (.cells #[.int .i64 (tk : Int), .string sv, .bool tneg, .string dv, .int .i64 texp, .int .i64 (tfrm : Int), .int .i64 (ttil : Int)] 95) = w3 at *; refine lp fun K hK => ?_; have how := own_fr (own_fr (own_fr HOWN.out HW1.out (by simp)) hf2 (by simp)) hf3 (by simp); have hone := vals_one ⟨tk, tsx, ⟨tneg, tdig, texp⟩, tfrm, ttil⟩; rw [HVS.out] at hone; refine wp_append_fr (.tmp 26) (.tmp 28) rfl 95 7 72 Tryz.underlying57 hi hz' hsz' hby rfl (by omega) u4 ts.length (toksC ts) rfl how ⟨w2.heap.size, 0, none⟩ 1 1 [.int .i64 (tk : Int), .string sv, .bool tneg, .string dv, .int .i64 texp, .int .i64 (tfrm : Int), .int .i64 (ttil : Int)] rfl rfl (fun j u hu => by rw [Addr.add_mid, Nat.zero_add]; exact hb3.at_ hu) hone (by omega) (by unfold maxLen; have := HTL.out; omega) (by have := HTL.out; omega) (w1.heap.size + 2) hz3 fun g7 cap w7 ho7 hf7 hat7 hlt7 => hK _ _ ?_; simp only [nrm]; clear hK; refine rn rfl (by go_simp <;> with_reducible rfl) ?_; simp only [nrm]; refine wpList_nil ?_; have hwz := HF1.out.size
     have hge7 : ∀ g, (Value.slice (some ⟨g7, 0, none⟩) (ts.length + 1) cap).ownBlock = some g -> w.heap.size <= g := fun g hg => by
      have e : g7 = g := by simpa [Value.ownBlock] using hg
      rcases hat7 with h | h
      ·exact HGE.out g (e ▸ h)
      ·omega
     have hb7 := hb23.fr hf7 (by
      intro hm; have h1 : u4.ownBlock = some w1.heap.size := by simpa using hm
      have := own_lt (own_fr HOWN.out HW1.out (by simp)) _ h1; omega)
     have hf07 : Fr [] w w7 := ((HF1.out.trans hf2 (by simp)).trans hf3 (by simp)).trans hf7 (fun x hx => .inr (HGE.out x (by simpa using hx))); have HB7 := lh hb7; have HO7 := lh ho7; have HG7 := lh hge7; have HF7 := lh hf07; have b6 := hb7.at_ (i := 6) rfl; clear hb2 hf2 hz2 hb3 hf3 hz3 hb23 how hone hf7 hat7 hlt7 hb7 ho7 hge7 hf07 hi hz' hsz' hby; go_wp2_with fail
     go_roundg (s.size - ttil)
     case measure => omega
     case rel => exact ⟨ttil, m1, ts ++ [⟨tk, tsx, ⟨tneg, tdig, texp⟩, tfrm, ttil⟩], hlt2, by omega, rfl, by have := HM1.out; omega, by have := HTL.out; rw [List.length_append]; simp; omega, HE.out, by rw [toksC_append, List.length_append]; show w7.ownsRow 0 _ 7 _ _ (toksC ts ++ (Tkn.vals _ ++ [])); rw [HVS.out]; simpa using HO7.out, HG7.out, HF7.out⟩
end
section
open Go.RowKit
section
variable {P : Program} {ops : Array Oper} {rest : List Oper} {o o2 : Oper} {a : Act} {w : World} {Q : Exit -> Act -> World -> Prop}
theorem wpList_var {k : Tmp} (hg : o.guard = none) (hg2 : o2.guard = none) (t : TypeId) (y : Operand) (hd : o.dst = some k) (ho : o.op = .alloc t) (ho2 : o2.op = .store t (.tmp k) y) (hd2 : o2.dst = none)
  (z : Value) (zs : List Value) (hz : (P.info? t).map (·.zero) = some (some z)) (hzs : z.cells = zs.toArray) (cs : List Value)
  (hx : (a.put (some k) (.pointer (some ⟨w.heap.size, 0, none⟩))).eval (.tmp k) = .pointer (some ⟨w.heap.size, 0, none⟩)) (hy : (a.put (some k) (.pointer (some ⟨w.heap.size, 0, none⟩))).eval y = .agg cs.toArray)
  (hi : (P.info? t).map (·.size) = some cs.length) (hl : zs.length = cs.length) (h1 : ∀ v ∈ cs, v.oneCell' = true)
  (h : ∀ w1, Blk w1 w.heap.size t cs -> Fr [] w w1 -> w1.heap.size = w.heap.size + 1 -> wpList P ops Q rest (a.put (some k) (.pointer (some ⟨w.heap.size, 0, none⟩))) w1) : wpList P ops Q (o :: o2 :: rest) a w := by
 refine wpList_plain hg fun K hK => wp_alloc_blk t ho z zs hz hzs fun w1 hb1 hf1 hz1 => hK _ _ (wpList_plain hg2 fun K2 hK2 => ?_); rw [hd]; refine wp_store_blk t (.tmp k) y ho2 cs hx hy hb1 hi hl h1 fun w2 hb2 hf2 hz2 => hK2 _ _ ?_; rw [hd2]; exact h w2 hb2 (hf1.trans hf2 (fun x hx => .inr (by simp at hx; omega))) (hz2.trans hz1)
theorem wpList_zero (hg : o.guard = none) (t : TypeId) (ho : o.op = .alloc t) (z : Value) (zs : List Value) (hz : (P.info? t).map (·.zero) = some (some z)) (hzs : z.cells = zs.toArray)
  (h : ∀ w1, Blk w1 w.heap.size t zs -> Fr [] w w1 -> w1.heap.size = w.heap.size + 1 -> wpList P ops Q rest (a.put o.dst (.pointer (some ⟨w.heap.size, 0, none⟩))) w1) : wpList P ops Q (o :: rest) a w :=
 wpList_plain hg fun _K hK => wp_alloc_blk t ho z zs hz hzs fun w1 hb1 hf1 hz1 => hK _ _ (h w1 hb1 hf1 hz1)
theorem wpList_put {g : Nat} {t' : TypeId} {old : List Value} (hg : o.guard = none) (t : TypeId) (x y : Operand) (ho : o.op = .store t x y) (cs : List Value)
  (hx : a.eval x = .pointer (some ⟨g, 0, none⟩)) (hy : a.eval y = .agg cs.toArray) (hb : Blk w g t' old)
  (hi : (P.info? t).map (·.size) = some cs.length) (hl : old.length = cs.length) (h1 : ∀ v ∈ cs, v.oneCell' = true)
  (h : ∀ w1, Blk w1 g t' cs -> Fr [g] w w1 -> w1.heap.size = w.heap.size -> wpList P ops Q rest (a.put o.dst undef) w1) : wpList P ops Q (o :: rest) a w :=
 wpList_plain hg fun _K hK => wp_store_blk t x y ho cs hx hy hb hi hl h1 fun w1 hb1 hf1 hz1 => hK _ _ (h w1 hb1 hf1 hz1)
theorem wpList_get {g : Nat} {t' : TypeId} {cs : List Value} {d : TypeDesc} (hgd : o.guard = none) (t : TypeId) (x : Operand) (ho : o.op = .load t x) (hx : a.eval x = .pointer (some ⟨g, 0, none⟩)) (hb : Blk w g t' cs)
  (hu : P.underlying t = some d) (hd : d.isRow = true) (hi : (P.info? t).map (·.size) = some cs.length) (h : wpList P ops Q rest (a.put o.dst (.agg cs.toArray)) w) : wpList P ops Q (o :: rest) a w := by
 have hl := run_loadVar_row (P := P) w g t' t cs.toArray (0, 0) d hb hu (by cases d <;> simp_all) (by simpa using hi); refine wpList_plain hgd fun K hK => ?_; unfold Oper.wp
 simp [execOp, ho, hx, Instr.loadAt, Instr.sureAddr, hl, Result.andThen]
 exact hK _ _ h
theorem wpList_slice1 {t e : TypeId} (hg : o.guard = none) (x : Operand) (ho : o.op = .buildSlice t 1 #[(0, x)]) {i : TypeInfo} {z : Value} (ht : P.underlying t = some (.slice e)) (hi : P.info? e = some i) (hz : i.zero = some z) (cs : List Value) (hx : a.eval x = .agg cs.toArray)
  {k : Nat} (hk : cs.length = k) (hs : i.size = k) (hzs : z.cells.size = k) (h0 : 0 < k) (hb : k <= 16777216)
  (h : ∀ w1, Blk w1 w.heap.size e cs -> Fr [] w w1 -> w1.heap.size = w.heap.size + 1 -> wpList P ops Q rest (a.put o.dst (.slice (some ⟨w.heap.size, 0, none⟩) 1 1)) w1) : wpList P ops Q (o :: rest) a w := by
 subst hk; exact wpList_plain hg fun K hK => wp_build_one x ho ht hi hz cs hx hs hzs h0 hb (hK _ _ (h _ (Blk.new w e cs) ((Fr.refl [] w).alloc _) (by simp)))
theorem wpList_callv {x : Operand} (hg : o.guard = none) (ho : o.op = .call { callee := .value x, args := #[], argTypes := #[] }) (f : FuncId) (first cap args : Array Value) (hx : a.eval x = .func (.func f) first cap) (hargs : first ++ cap = args)
  (he : ∀ w, (callFunc f args).run P w = .ok (.enter f args) w)
  (hc : Calls P f args w (fun e w' => (∃ v, e = .returned v /\ wpList P ops Q rest (a.put o.dst v) w') ∨ (∃ c, e = .panicked c /\ Q (.panic c) a w'))) : wpList P ops Q (o :: rest) a w := by
 refine wpList_plain hg fun K hK => ?_; unfold Oper.wp
 have hrun : (execOp a.eval o).run P w = .ok (.enter f args) w := by
  simp only [execOp, ho, resolve, hx]
  simp [invoke, hargs, he, Deferred.ofValue]
 rw [hrun]; refine hc.mono ?_; rintro e w' (⟨v, rfl, h⟩ | ⟨c, rfl, h⟩)
 ·exact hK _ _ h
 ·exact h
end
def Rd.on {α : Type} (R : Rd α) : Prop := ∀ s x s', R s = some (x, s') -> s'.l <:+ s.l
theorem go_on (s : QS) : s.go.l <:+ s.l := List.drop_suffix 1 s.l
theorem some_pair {α β : Type} {a a' : α} {b b' : β} (h : some (a, b) = some (a', b')) : a = a' /\ b = b' := by simpa using h
section
variable {txt : List UInt8} {E S : Int -> Rd Xpr} {α : Type}
theorem rWhole_on (s : QS) : (rWhole txt s).2.2.l <:+ s.l := by
 unfold rWhole
 split
 ·split
  ·exact List.suffix_refl _
  ·exact go_on s
 ·exact List.suffix_refl _
theorem rListF_on {x : List UInt8} {item : Rd α} (hi : item.on) : ∀ n, (rListF x item n).on
 | 0 => fun s y s' h => by simp [rListF] at h
 | n + 1 => fun s y s' h => by
  unfold rListF at h
  split at h
  ·cases h
  ·rename_i a s1 h1
   have h2 := hi _ _ _ h1
   split at h
   ·split at h
    ·cases h
    ·rename_i l s2 h3
     have h4 := rListF_on hi n _ _ _ h3; obtain ⟨_, rfl⟩ := some_pair h; exact (h4.trans (go_on s1)).trans h2
   ·obtain ⟨_, rfl⟩ := some_pair h; exact h2
theorem rList_on {x : List UInt8} {item : Rd α} (hi : item.on) : Rd.on (rList x item) := fun s y s' h => rListF_on hi _ s y s' h
theorem rNeed_on {x : List UInt8} {a : α} : Rd.on (rNeed x a) := fun s y s' h => by
 unfold rNeed at h
 split at h
 ·obtain ⟨_, rfl⟩ := some_pair h; exact go_on s
 ·cases h
theorem rSlice_on {n : Int} {b : Bool} : Rd.on (rSlice txt n b) := fun s y s' h => by
 unfold rSlice at h
 split at h
 ·simp only at h
  split at h
  ·obtain ⟨_, rfl⟩ := some_pair h; exact (rWhole_on _).trans ((go_on _).trans ((rWhole_on _).trans (go_on _)))
  ·obtain ⟨_, rfl⟩ := some_pair h; exact (rWhole_on _).trans (go_on _)
 ·cases h
theorem rSel_on (hE : ∀ d, (E d).on) (d : Int) : Rd.on (rSel txt E d) := fun s y s' h => by
 unfold rSel at h
 split at h
 ·obtain ⟨_, rfl⟩ := some_pair h; exact go_on s
 ·split at h
  ·obtain ⟨_, rfl⟩ := some_pair h; exact go_on s
  ·split at h
   ·split at h
    ·cases h
    ·rename_i e s1 h1
     have := hE _ _ _ _ h1; obtain ⟨_, rfl⟩ := some_pair h; exact this.trans (go_on s)
   ·simp only at h
    split at h
    ·exact (rSlice_on _ _ _ h).trans (rWhole_on _)
    ·split at h
     ·obtain ⟨_, rfl⟩ := some_pair h; exact rWhole_on _
     ·cases h
theorem rShort_on : Rd.on rShort := fun s y s' h => by
 unfold rShort at h
 split at h
 ·obtain ⟨_, rfl⟩ := some_pair h; exact go_on s
 ·split at h
  ·cases h
  ·split at h
   ·obtain ⟨_, rfl⟩ := some_pair h; exact go_on s
   ·cases h
theorem rBrackets_on (hE : ∀ d, (E d).on) (d : Int) : Rd.on (rBrackets txt E d) := fun s y s' h => by
 unfold rBrackets at h
 split at h
 ·cases h
 ·rename_i l s1 h1
  have := rList_on (rSel_on hE d) _ _ _ h1; exact (rNeed_on _ _ _ h).trans this
theorem rSegsF_on (hE : ∀ d, (E d).on) (d : Int) : ∀ n, Rd.on (rSegsF txt E d n)
 | 0 => fun s y s' h => by simp [rSegsF] at h
 | n + 1 => fun s y s' h => by
  unfold rSegsF at h
  simp only at h
  have h0 : (if s.next [46, 46] = true then s.go else s).l <:+ s.l := by
   split
   ·exact go_on s
   ·exact List.suffix_refl _
  generalize (if s.next [46, 46] = true then s.go else s) = s1 at *
  split at h
  ·split at h
   ·cases h
   ·rename_i l s2 h1
    have h2 := rBrackets_on hE d _ _ _ h1
    split at h
    ·cases h
    ·rename_i m s3 h3
     have h4 := rSegsF_on hE d n _ _ _ h3; obtain ⟨_, rfl⟩ := some_pair h; exact h4.trans (h2.trans ((go_on s1).trans h0))
  ·split at h
   ·split at h
    ·cases h
    ·rename_i l s2 h1
     split at h1
     ·cases h1
     ·rename_i x s4 h5
      obtain ⟨rfl, rfl⟩ := some_pair h1; have h2 := rShort_on _ _ _ h5
      split at h
      ·cases h
      ·rename_i m s3 h3
       have h4 := rSegsF_on hE d n _ _ _ h3; obtain ⟨_, rfl⟩ := some_pair h; exact h4.trans (h2.trans h0)
   ·split at h
    ·split at h
     ·cases h
     ·rename_i l s2 h1
      split at h1
      ·cases h1
      ·rename_i x s4 h5
       obtain ⟨rfl, rfl⟩ := some_pair h1; have h2 := rShort_on _ _ _ h5
       split at h
       ·cases h
       ·rename_i m s3 h3
        have h4 := rSegsF_on hE d n _ _ _ h3; obtain ⟨_, rfl⟩ := some_pair h; exact h4.trans (h2.trans ((go_on s1).trans h0))
    ·obtain ⟨_, rfl⟩ := some_pair h; exact h0
theorem rQuery_on (hE : ∀ d, (E d).on) (d : Int) (rel : Bool) : Rd.on (rQuery txt E d rel) := fun s y s' h => by
 unfold rQuery at h
 split at h
 ·cases h
 ·rename_i l s1 h1
  obtain ⟨_, rfl⟩ := some_pair h; exact rSegsF_on hE d _ _ _ _ h1
theorem rWord_on (hS : ∀ d, (S d).on) (d : Int) (x : List UInt8) : Rd.on (rWord S d x) := fun s y s' h => by
 unfold rWord at h
 split at h
 ·obtain ⟨_, rfl⟩ := some_pair h; exact List.suffix_refl _
 ·split at h
  ·obtain ⟨_, rfl⟩ := some_pair h; exact List.suffix_refl _
  ·split at h
   ·simp only at h
    split at h
    ·obtain ⟨_, rfl⟩ := some_pair h; exact (go_on _).trans (go_on s)
    ·split at h
     ·cases h
     ·rename_i l s1 h1
      have := rList_on (hS _) _ _ _ h1; exact (rNeed_on _ _ _ h).trans (this.trans (go_on s))
   ·cases h
theorem rSimple_on (hE : ∀ d, (E d).on) (hS : ∀ d, (S d).on) (d : Int) : Rd.on (rSimple txt E S d) := fun s y s' h => by
 unfold rSimple at h
 split at h
 ·cases h
 ·split at h
  ·obtain ⟨_, rfl⟩ := some_pair h; exact go_on s
  ·split at h
   ·obtain ⟨_, rfl⟩ := some_pair h; exact go_on s
   ·split at h
    ·exact (rWord_on hS d _ _ _ _ h).trans (go_on s)
    ·split at h
     ·split at h
      ·cases h
      ·rename_i q s1 h1
       obtain ⟨_, rfl⟩ := some_pair h; exact (rQuery_on hE d _ _ _ _ h1).trans (go_on s)
     ·cases h
theorem rParens_on (hE : ∀ d, (E d).on) (d : Int) : Rd.on (rParens E d) := fun s y s' h => by
 unfold rParens at h
 split at h
 ·cases h
 ·rename_i e s1 h1
  have := hE _ _ _ _ h1; exact (rNeed_on _ _ _ h).trans this
theorem rNot_on (hE : ∀ d, (E d).on) (hS : ∀ d, (S d).on) (d : Int) : Rd.on (rNot txt E S d) := fun s y s' h => by
 unfold rNot at h
 split at h
 ·split at h
  ·cases h
  ·rename_i e s1 h1
   obtain ⟨_, rfl⟩ := some_pair h; exact (rParens_on hE d _ _ _ h1).trans (go_on s)
 ·split at h
  ·cases h
  ·rename_i e s1 h1
   split at h
   ·obtain ⟨_, rfl⟩ := some_pair h; exact rSimple_on hE hS d _ _ _ h1
   ·cases h
theorem rTerm_on (hE : ∀ d, (E d).on) (hS : ∀ d, (S d).on) (d : Int) : Rd.on (rTerm txt E S d) := fun s y s' h => by
 unfold rTerm at h
 split at h
 ·exact (rNot_on hE hS d _ _ _ h).trans (go_on s)
 ·split at h
  ·exact (rParens_on hE d _ _ _ h).trans (go_on s)
  ·split at h
   ·cases h
   ·rename_i e s1 h1
    have h2 := rSimple_on hE hS d _ _ _ h1
    split at h
    ·split at h
     ·cases h
     ·rename_i f s2 h3
      have h4 := rSimple_on hE hS d _ _ _ h3; obtain ⟨_, rfl⟩ := some_pair h; exact h4.trans ((go_on s1).trans h2)
    ·obtain ⟨_, rfl⟩ := some_pair h; exact h2
theorem rBoth_on (hE : ∀ d, (E d).on) (hS : ∀ d, (S d).on) (d : Int) : Rd.on (rBoth txt E S d) := fun s y s' h => by
 unfold rBoth at h
 split at h
 ·cases h
 ·rename_i e s1 h1
  obtain ⟨_, rfl⟩ := some_pair h; exact rList_on (rTerm_on hE hS d) _ _ _ h1
theorem rEither_on (hE : ∀ d, (E d).on) (hS : ∀ d, (S d).on) (d : Int) : Rd.on (rEither txt E S d) := fun s y s' h => by
 unfold rEither at h
 split at h
 ·cases h
 ·rename_i e s1 h1
  obtain ⟨_, rfl⟩ := some_pair h; exact rList_on (rBoth_on hE hS d) _ _ _ h1
theorem rAll_on : ∀ n, (∀ d, ((rAll txt n).1 d).on) /\ (∀ d, ((rAll txt n).2 d).on)
 | 0 => ⟨fun d s x s' h => by simp [rAll] at h, fun d s x s' h => by simp [rAll] at h⟩
 | n + 1 => ⟨fun d => rEither_on (rAll_on n).1 (rAll_on n).2 d, fun d => rSimple_on (rAll_on n).1 (rAll_on n).2 d⟩
end
end
section
open Go.RowKit Go.Shelf
structure Glob (w : World) : Prop where
 tab : Lib.TabIs Tryz.prog w "internal/strconv.uint64pow10" .u64 Lib.pow10Tab
 syn : ∃ ev, w.cell? ⟨4, 0, none⟩ = some ev /\ (ev = .nilIface ∨ ∃ te pe, ev = .iface te pe)
 ran : ∃ ev, w.cell? ⟨5, 0, none⟩ = some ev /\ (ev = .nilIface ∨ ∃ te pe, ev = .iface te pe)
 len : ∃ m : Int, w.cell? ⟨0, 0, none⟩ = some (.int .i64 m)
theorem Glob.fr {S : List Nat} {w w' : World} (h : Glob w) (hf : Fr S w w') (hS : ∀ x ∈ S, 8 <= x) : Glob w' := by
 have hc : ∀ {g : Nat} {v : Value}, g < 8 -> w.cell? ⟨g, 0, none⟩ = some v -> w'.cell? ⟨g, 0, none⟩ = some v := fun {g v} hg hv => by
  rw [hf.cell (World.block_lt_of_cell? w _ hv) (fun hm => by have := hS g hm; omega)]; exact hv
 obtain ⟨e1, h1, h1'⟩ := h.syn; obtain ⟨e2, h2, h2'⟩ := h.ran; obtain ⟨m, h3⟩ := h.len; refine ⟨?_, ⟨e1, hc (by decide) h1, h1'⟩, ⟨e2, hc (by decide) h2, h2'⟩, ⟨m, hc (by decide) h3⟩⟩; have ht := h.tab; unfold Lib.TabIs World.var? at ht ⊢; have hg : Tryz.prog.globalNamed "internal/strconv.uint64pow10" = some 3 := by kernel_rfl
 rw [hg] at ht ⊢; simp only [Option.bind_some] at ht ⊢
 have hlt : 3 < w.heap.size := by
  rcases Nat.lt_or_ge 3 w.heap.size with h | h
  ·exact h
  ·rw [Array.getElem?_eq_none h] at ht; cases ht
 rw [hf.block _ hlt (fun hm => by have := hS _ hm; omega)]; exact ht
structure RdAt (w : World) (r gl : Nat) (txt : ByteArray) (d : Int) (s : QS) : Prop where
 glob : Glob w
 r16 : 8 <= r
 ne : 0 < s.l.length -> gl < r
 at_ : ∃ v, Blk w r 62 [.string txt, v, .int .i64 d, .int .i64 s.most] /\ SlAt w v s.l.length (toksC s.l) gl
 toks : ∀ t ∈ s.l, t.ok txt.size
 len : s.l.length <= 8192
 most : 0 <= s.most /\ s.most <= 100000
 deep : 0 <= d /\ d <= 100000
 size : txt.size <= 100000
 names : ∀ t ∈ s.l, t.kind = 1 -> t.s.length <= 100000
section
variable {w w' w1 : World} {r gl : Nat} {txt : ByteArray} {d : Int} {s s' : QS}
theorem RdAt.fr {S : List Nat} (h : RdAt w r gl txt d s) (hf : Fr S w w') (hS : ∀ x ∈ S, r < x) : RdAt w' r gl txt d s := by
 obtain ⟨v, hb, hs⟩ := h.at_; exact ⟨h.glob.fr hf (fun x hx => by have := hS x hx; have := h.r16; omega), h.r16, h.ne, ⟨v, hb.fr hf (fun hm => absurd (hS r hm) (by omega)), hs.fr hf (fun h0 hm => absurd (hS gl hm) (by have := h.ne h0; omega))⟩, h.toks, h.len, h.most, h.deep, h.size, h.names⟩
theorem RdAt.lt (h : RdAt w r gl txt d s) : r < w.heap.size := by obtain ⟨v, hb, _⟩ := h.at_; exact hb.lt
def badEntry : PanicEntry := { v := .iface 99 (.agg #[]), recovered := false }
def PRes {α : Type} (V : World -> α -> Value -> Prop) (w : World) (r gl : Nat) (txt : ByteArray) (d : Int) (x : Option (α × QS)) (e : Ending) (w' : World) : Prop :=
 match x with
 | none => e = .panicked [badEntry] /\ Fr [r] w w'
 | some (y, s) => ∃ v, e = .returned v /\ V w' y v /\ RdAt w' r gl txt d s /\ Fr [r] w w'
theorem pres_some {α : Type} {V : World -> α -> Value -> Prop} {x : Option (α × QS)} {y : α} {v : Value} (h : x = some (y, s)) (hv : V w' y v) (hr : RdAt w' r gl txt d s) (hf : Fr [r] w w') : PRes V w r gl txt d x (.returned v) w' := by
 subst h; exact ⟨v, rfl, hv, hr, hf⟩
theorem pres_none {α : Type} {V : World -> α -> Value -> Prop} {x : Option (α × QS)} (h : x = none) (hf : Fr [r] w w') : PRes V w r gl txt d x (.panicked [badEntry]) w' := by
 subst h; exact ⟨rfl, hf⟩
def RowV {α : Type} (c : α -> List Cl) (w : World) (w' : World) (x : α) (v : Value) : Prop := ∃ cs, v = .agg cs.toArray /\ RowAt w' (fun g => w.heap.size <= g) (c x) cs
theorem need_true (w : World) : Calls Tryz.prog 40 #[.bool true] w fun e w' => e = .returned (.tuple #[]) /\ w = w' := by
 go_enter Tryz.func40, Tryz.ntmps40
 go_wp2
 go_end0
 exact ⟨rfl, rfl⟩
theorem need_false (w : World) : Calls Tryz.prog 40 #[.bool false] w fun e w' => e = .panicked [badEntry] /\ w = w' := by
 go_enter Tryz.func40, Tryz.ntmps40
 go_wp2
 exact ⟨rfl, rfl, rfl⟩
theorem vals_shape (t : Tkn) : ∃ (sv dv : ByteArray), strBytes sv = t.s /\ strBytes dv = t.n.digits /\ t.vals = [.int .i64 (t.kind : Int), .string sv, .bool t.n.neg, .string dv, .int .i64 t.n.exp, .int .i64 (t.frm : Int), .int .i64 (t.til : Int)] :=
 ⟨⟨t.s.toArray⟩, ⟨t.n.digits.toArray⟩, by simp [strBytes], by simp [strBytes], rfl⟩
theorem QS.peek_nil (h : s.l = []) : s.peek = .zero := by unfold QS.peek; rw [h]
theorem QS.peek_cons {t : Tkn} {l : List Tkn} (h : s.l = t :: l) : s.peek = t := by unfold QS.peek; rw [h]
theorem ret_tok {fn : Func} {R : Ending -> World -> Prop} {tmps : Array Value} {k : Tmp} {g : Nat} {cs : List Value} (hr : fn.results = #[.cell k 95]) (ha : tmps.getD k undef = .pointer (some ⟨g, 0, none⟩)) (hb : Blk w g 95 cs) (hl : cs.length = 7) (h : R (.returned (.agg cs.toArray)) w) : bodyPost Tryz.prog fn R .ret ⟨tmps, []⟩ w :=
 ret_blk hr ha hb Tryz.underlying95 rfl (by rw [hl]; exact size_tok) h
theorem peek_any (h : RdAt w r gl txt d s) : Calls Tryz.prog 111 #[.pointer (some ⟨r, 0, none⟩)] w fun e w' => e = .returned (.agg s.peek.vals.toArray) /\ Fr [] w w' := by
 refine calls_post fun R HQ => ?_; obtain ⟨v, hb, A, c, off, rfl, hc, hs⟩ := h.at_; have b1 := hb.at_ (i := 1) rfl; have hrl := hb.lt; clear hb
 cases hl : s.l with
 | nil =>
  rw [QS.peek_nil hl] at HQ; rw [hl] at b1; clear hs hc hl
  go_enter Tryz.func111, Tryz.ntmps111
  go_wp2_with fail; exact ret_tok rfl rfl (Blk.new w 95 [.int .i64 0, .string { data := #[] }, .bool false, .string { data := #[] }, .int .i64 0, .int .i64 0, .int .i64 0]) rfl (HQ.out _ _ ⟨rfl, (Fr.refl [] w).alloc _⟩)
 | cons t l =>
  rw [QS.peek_cons hl] at HQ; rw [hl] at b1 hs hc; obtain ⟨sv, dv, -, -, hv⟩ := vals_shape t; obtain ⟨rfl, hx⟩ := hs (by simp)
  have hcl : ∀ (j : Nat) (u : Value), t.vals[j]? = some u -> w.cell? ⟨gl, off + j, none⟩ = some u := fun j u hu => hx j u (by
   show (t.vals ++ toksC l)[j]? = some u
   rw [List.getElem?_append_left (List.getElem?_eq_some_iff.1 hu).1]; exact hu)
  rw [hv] at hcl; have h0 := hcl 0 _ rfl; have h1 := hcl 1 _ rfl; have h2 := hcl 2 _ rfl; have h3 := hcl 3 _ rfl; have h4 := hcl 4 _ rfl; have h5 := hcl 5 _ rfl; have h6 := hcl 6 _ rfl; rw [Nat.add_zero] at h0; have hgl := World.block_lt_of_cell? w _ h0; have e0 : (((t :: l).length : Int) == 0) = false := by simp; omega
  have el : 0 < (t :: l).length := by simp
  rw [hv] at HQ; clear hx hs hcl hl hv; generalize (t :: l).length = n at *
  go_enter Tryz.func111, Tryz.ntmps111
  go_wp2_with fail; exact ret_tok rfl rfl (Blk.new w 95 [.int .i64 (t.kind : Int), .string sv, .bool t.n.neg, .string dv, .int .i64 t.n.exp, .int .i64 (t.frm : Int), .int .i64 (t.til : Int)]) rfl (HQ.out _ _ ⟨rfl, (Fr.refl [] w).alloc _⟩)
def QS.take (s : QS) : Option (Tkn × QS) := match s.l with | [] => none | t :: _ => some (t, s.go)
def TokV (_ : World) (t : Tkn) (v : Value) : Prop := v = .agg t.vals.toArray
theorem RdAt.step {gl off c n : Nat} {t : Tkn} {l : List Tkn} (h : RdAt w r gl txt d s) (hl : s.l = t :: l) (hn : s.l.length = n) (hb : Blk w r 62 [.string txt, .slice (some ⟨gl, off, none⟩) n c, .int .i64 d, .int .i64 s.most]) (A' : Option Addr) (hA : A' = if c = 1 then some ⟨gl, off, none⟩ else some ⟨gl, off + 7, none⟩) :
  RdAt (w.setCell ⟨r, 1, none⟩ (.slice A' (n - 1) (c - 1))) r gl txt d s.go := by
 have hpos : 0 < s.l.length := by rw [hl]; simp
 have hgr := h.ne hpos; have hf : Fr [r] w (w.setCell ⟨r, 1, none⟩ (.slice A' (n - 1) (c - 1))) := (Fr.refl [r] w).setCell (.inl (by simp)) _; obtain ⟨v, hb0, hs⟩ := h.at_; have hgo : s.go.l = l := by simp [QS.go, hl]
 have hln : s.l.length = l.length + 1 := by rw [hl]; simp
 have hv : v = .slice (some ⟨gl, off, none⟩) n c := by
  have h1 := hb0.at_ (i := 1) rfl; have h2 := hb.at_ (i := 1) rfl; rw [h1] at h2; injection h2
 subst hv; obtain ⟨A, c', off', hv, hc, hcell⟩ := hs; injection hv with e1 e2 e3; subst e3; obtain ⟨hA0, hx⟩ := hcell (by omega); rw [<- e1] at hA0; injection hA0 with hA0; injection hA0 with _ ho; subst ho; refine ⟨h.glob.fr hf (fun x hx => by have := h.r16; simp at hx; omega), h.r16, fun _ => hgr, ⟨_, hb.set_ 1 _, ?_⟩, fun t ht => h.toks t (by rw [hl]; rw [hgo] at ht; exact List.mem_cons_of_mem _ ht), by have := h.len; rw [hgo]; omega, h.most, h.deep, h.size, fun t ht => h.names t (by rw [hl]; rw [hgo] at ht; exact List.mem_cons_of_mem _ ht)⟩; refine ⟨A', c - 1, off + 7, by rw [hgo]; congr 1; omega, by rw [hgo]; omega, fun h0 => ?_⟩; rw [hgo] at h0; rw [if_neg (by omega)] at hA; refine ⟨hA, fun j u hj => ?_⟩; rw [hgo] at hj
 have h9 := hx (7 + j) u (by
  rw [hl]
  show (t.vals ++ toksC l)[7 + j]? = some u
  rw [List.getElem?_append_right (by show 7 <= _; omega)]; rw [show 7 + j - t.vals.length = j by show 7 + j - 7 = j; omega]; exact hj)
 rw [<- Nat.add_assoc] at h9; rw [hf.cell (World.block_lt_of_cell? w _ h9) (by simp; omega)]; exact h9
theorem take_any (h : RdAt w r gl txt d s) : Calls Tryz.prog 69 #[.pointer (some ⟨r, 0, none⟩)] w (PRes TokV w r gl txt d s.take) := by
 refine calls_post fun R HQ => ?_; have HH := lh h; obtain ⟨v, hb, A, c, off, rfl, hc, hs⟩ := h.at_; have b1 := hb.at_ (i := 1) rfl; have bf := hb.free 1; have hrl := hb.lt; have HB := lh hb; clear hb h
 cases hl : s.l with
 | nil =>
  have HE : Hid (s.take = none) := lh (by unfold QS.take; rw [hl]); rw [hl] at b1; clear hs hc hl
  go_enter Tryz.func69, Tryz.ntmps69
  go_wp2_with fail; refine (need_false _).mono ?_; rintro e w1 ⟨rfl, rfl⟩; exact ⟨rfl, HQ.out _ _ (pres_none HE.out ((Fr.refl [r] w).alloc _))⟩
 | cons t l =>
  have HE : Hid (s.take = some (t, s.go)) := lh (by unfold QS.take; rw [hl]); obtain ⟨sv, dv, -, -, hv⟩ := vals_shape t; obtain ⟨rfl, hx⟩ := hs (by rw [hl]; simp)
  have hcl : ∀ (j : Nat) (u : Value), t.vals[j]? = some u -> w.cell? ⟨gl, off + j, none⟩ = some u := fun j u hu => hx j u (by
   rw [hl]
   show (t.vals ++ toksC l)[j]? = some u
   rw [List.getElem?_append_left (List.getElem?_eq_some_iff.1 hu).1]; exact hu)
  rw [hv] at hcl; have h0 := hcl 0 _ rfl; have h1 := hcl 1 _ rfl; have h2 := hcl 2 _ rfl; have h3 := hcl 3 _ rfl; have h4 := hcl 4 _ rfl; have h5 := hcl 5 _ rfl; have h6 := hcl 6 _ rfl; rw [Nat.add_zero] at h0; have hgl := World.block_lt_of_cell? w _ h0; have hne : ¬ gl = r := by have := HH.out.ne (by rw [hl]; simp); omega
  have hpos : 0 < s.l.length := by rw [hl]; simp
  obtain ⟨n, hn⟩ : ∃ n, s.l.length = n := ⟨_, rfl⟩; rw [hn] at b1 hc hpos HB; have e1 : decide (0 < n) = true := by simpa using hpos
  have HL := lh hl; have HV := lh hv; have HN := lh hn; have HST : Hid (∀ A', (A' = if c = 1 then some ⟨gl, off, none⟩ else some ⟨gl, off + 7, none⟩) -> RdAt (w.setCell ⟨r, 1, none⟩ (.slice A' (n - 1) (c - 1))) r gl txt d s.go) := lh (HH.out.step hl hn HB.out); clear hx hs hcl hl hv hn
  by_cases hc1 : c = 1
  case' pos =>
   have HC := lh hc1; have HST1 : Hid (RdAt (w.setCell ⟨r, 1, none⟩ (.slice (some ⟨gl, off, none⟩) (n - 1) 0)) r gl txt d s.go) := lh (by have h9 := HST.out _ (by rw [if_pos hc1]); rw [hc1] at h9; exact h9)
   go_enter Tryz.func69, Tryz.ntmps69
   go_wp2_with fail; refine (need_true _).mono ?_; rintro e w1 ⟨rfl, rfl⟩; go_wp2_with fail; have hz : (w.setCell ⟨r, 1, none⟩ (.slice (some ⟨gl, off, none⟩) (n - 1) 0)).heap.size = w.heap.size := by simp
   have hf : Fr [r] w (w.setCell ⟨r, 1, none⟩ (.slice (some ⟨gl, off, none⟩) (n - 1) 0)) := (Fr.refl [r] w).setCell (.inl (by simp)) _; generalize w.setCell ⟨r, 1, none⟩ (.slice (some ⟨gl, off, none⟩) (n - 1) 0) = w2 at *
  case' neg =>
   have HC := lh hc1; have HST1 : Hid (RdAt (w.setCell ⟨r, 1, none⟩ (.slice (some ⟨gl, off + 7, none⟩) (n - 1) (c - 1))) r gl txt d s.go) := lh (HST.out _ (by rw [if_neg hc1]))
   go_enter Tryz.func69, Tryz.ntmps69
   go_wp2_with fail; refine (need_true _).mono ?_; rintro e w1 ⟨rfl, rfl⟩; go_wp2_with fail; have hz : (w.setCell ⟨r, 1, none⟩ (.slice (some ⟨gl, off + 7, none⟩) (n - 1) (c - 1))).heap.size = w.heap.size := by simp
   have hf : Fr [r] w (w.setCell ⟨r, 1, none⟩ (.slice (some ⟨gl, off + 7, none⟩) (n - 1) (c - 1))) := (Fr.refl [r] w).setCell (.inl (by simp)) _; generalize w.setCell ⟨r, 1, none⟩ (.slice (some ⟨gl, off + 7, none⟩) (n - 1) (c - 1)) = w2 at *
  all_goals
   have hb := (Blk.new w2 95 [.int .i64 (t.kind : Int), .string sv, .bool t.n.neg, .string dv, .int .i64 t.n.exp, .int .i64 (t.frm : Int), .int .i64 (t.til : Int)]).alloc (.cells #[.int .i64 (t.kind : Int), .string sv, .bool t.n.neg, .string dv, .int .i64 t.n.exp, .int .i64 (t.frm : Int), .int .i64 (t.til : Int)] 95); rw [hz] at hb; exact ret_tok rfl rfl hb rfl (HQ.out _ _ (pres_some HE.out (by unfold TokV; rw [HV.out]) (HST1.out.fr (((Fr.refl [] w2).alloc _).alloc _) (by simp)) ((hf.alloc _).alloc _)))
theorem str_beq (a b : ByteArray) : (a.toList == b.toList) = (strBytes a == strBytes b) := by rw [ByteArray.toList_eq, ByteArray.toList_eq]; rfl
theorem next_any' (h : RdAt w r gl txt d s) (x : ByteArray) : Calls Tryz.prog 68 #[.pointer (some ⟨r, 0, none⟩), .string x] w fun e w' => e = .returned (.bool (s.next (strBytes x))) /\ Fr [] w w' := by
 refine calls_post fun R HQ => ?_; have HP := lh (peek_any h); obtain ⟨sv, dv, hsv, -, hv⟩ := vals_shape s.peek; rw [hv] at HP; have HE : Hid (s.next (strBytes x) = (s.peek.kind == 4 && sv.toList == x.toList)) := lh (by rw [str_beq, hsv]; rfl); clear hv hsv h; obtain ⟨k, hk⟩ : ∃ k, s.peek.kind = k := ⟨_, rfl⟩; rw [hk] at HE HP; clear hk
 go_enter Tryz.func68, Tryz.ntmps68
 go_wp2_with fail; refine HP.out.mono ?_; rintro e w1 ⟨rfl, hf1⟩; have HF1 := lh hf1; clear hf1 HP
 by_cases hk4 : k = 4
 ·have d0 : ((k : Int) == 4) = true := by rw [hk4]; rfl
  have HE2 : Hid (s.next (strBytes x) = (sv.toList == x.toList)) := lh (by rw [HE.out, hk4]; simp); rw [HE2.out] at HQ; clear hk4; go_wp2_with fail; exact HQ.out _ _ ⟨rfl, HF1.out.alloc _⟩
 ·have d0 : ((k : Int) == 4) = false := by rw [beq_eq_false_iff_ne]; omega
  have HE2 : Hid (s.next (strBytes x) = false) := lh (by rw [HE.out, beq_eq_false_iff_ne.2 hk4]; rfl); rw [HE2.out] at HQ; clear hk4; go_wp2_with fail; exact HQ.out _ _ ⟨rfl, HF1.out.alloc _⟩
theorem next_take {x : List UInt8} (h : s.next x = true) : ∃ t, s.take = some (t, s.go) /\ s.l.length = s.go.l.length + 1 := by
 unfold QS.next QS.peek at h; unfold QS.take
 cases hl : s.l with
 | nil => rw [hl] at h; cases h
 | cons t l => exact ⟨t, rfl, by simp [QS.go, hl]⟩
theorem is_any (h : RdAt w r gl txt d s) (x : ByteArray) : Calls Tryz.prog 41 #[.pointer (some ⟨r, 0, none⟩), .string x] w fun e w' => e = .returned (.bool (s.next (strBytes x))) /\ RdAt w' r gl txt d (if s.next (strBytes x) = true then s.go else s) /\ Fr [r] w w' := by
 refine calls_post fun R HQ => ?_; have HH := lh h; have HN := lh (next_any' h x)
 cases hn : s.next (strBytes x) with
 | true =>
  obtain ⟨t, ht, _⟩ := next_take hn; have HT := lh ht; rw [hn] at HN HQ; rw [if_pos rfl] at HQ; clear h hn ht
  go_enter Tryz.func41, Tryz.ntmps41
  go_wp2_with fail; refine HN.out.mono ?_; rintro e w1 ⟨rfl, hf1⟩; have HTK := lh (take_any (HH.out.fr hf1 (by simp))); rw [HT.out] at HTK; have HF1 := lh hf1; clear hf1; go_wp2_with fail; refine HTK.out.mono ?_; rintro e w2 ⟨v, rfl, -, hr, hf⟩; have HR := lh hr; have HF := lh ((HF1.out.mono (by simp) : Fr [r] w w1).trans hf (fun x hx => .inl hx)); clear hr hf; go_wp2_with fail; exact HQ.out _ _ ⟨rfl, HR.out, HF.out⟩
 | false =>
  rw [hn] at HN HQ; rw [if_neg (by simp)] at HQ; clear h hn
  go_enter Tryz.func41, Tryz.ntmps41
  go_wp2_with fail; refine HN.out.mono ?_; rintro e w1 ⟨rfl, hf1⟩; have HF1 := lh hf1; clear hf1; go_wp2_with fail; exact HQ.out _ _ ⟨rfl, HH.out.fr HF1.out (by simp), HF1.out.mono (by simp)⟩
theorem is_yes (h : RdAt w r gl txt d s) (x : ByteArray) (hx : s.next (strBytes x) = true) : Calls Tryz.prog 41 #[.pointer (some ⟨r, 0, none⟩), .string x] w fun e w' => e = .returned (.bool true) /\ RdAt w' r gl txt d s.go /\ Fr [r] w w' := by
 have := is_any h x; rw [hx, if_pos rfl] at this; exact this
theorem is_no (h : RdAt w r gl txt d s) (x : ByteArray) (hx : s.next (strBytes x) = false) : Calls Tryz.prog 41 #[.pointer (some ⟨r, 0, none⟩), .string x] w fun e w' => e = .returned (.bool false) /\ RdAt w' r gl txt d s /\ Fr [r] w w' := by
 have := is_any h x; rw [hx, if_neg (by simp)] at this; exact this
end
end
end Go.Proofs.YtbggkiebfflcdaaGreatDoor
section
namespace Go
variable {H : Type} {enc : TypeId × Value -> H}
theorem returnsInHanded_of_laid_shaped {a : Assume} {C : Checked} {os : Os} {f : FuncId} {fn : Func} {s : ChangeSpec} {conds : List PathCond} {apart fresh handsOn again : Bool} {X : World -> Array Value -> Prop}
  (hX : ∀ (w w' : World) (args : Array Value), w.heap = w'.heap -> X w args -> X w' args)
  (own : ownKnob C.prog.godebug = none) (started : os.Started) (noInit : C.prog.inits.idxOf? f = none) (hfn : C.prog.funcs[f]? = some fn)
  (witness : ∃ (w : World) (tape : Tape) (i : Input), w.os = os /\ (w.forCall tape i).Shaped C.prog /\ i.vars = [] /\ Input.okWide C.prog (w.forCall tape i) .any w.heap.size f i /\
   ((s.pre enc C.prog fn conds apart (w.forCall tape i).memory i.args /\ X (w.forCall tape i).memory i.args) /\ sizedMet enc C.prog fn (OpenSpec.ofChange s) apart (w.forCall tape i).memory i.args) /\ a.holds C.prog (lone (Frame.enter C.prog f i.args .normal) [] (w.forCall tape i)))
  (contract : ∀ (W : World) (base : Nat) (args : Array Value) (ds gs : List (DataW H)) (before : List MemPlace),
   (∀ (j : Nat) t v, fn.params[j]? = some t -> args[j]? = some v -> Value.okWide C.prog W .any base t v) ->
   DataW.Whole enc C.prog fn.params.toList s.vars apart W args.toList ds gs before ->
   W.ShapedOpen C.prog -> X W args ->
   Calls C.prog f args W fun e W' => ∃ v, e = .returned v /\ s.post enc C.prog fn apart fresh handsOn again W args v W') :
  ReturnsInHanded a C os f .any (fun w args => (s.pre enc C.prog fn conds apart w args /\ X w args) /\ sizedMet enc C.prog fn (OpenSpec.ofChange s) apart w args) (s.post enc C.prog fn apart fresh handsOn again) := by
 refine returnsInHanded_of_calls own started noInit witness ?_; intro w tape i _ hsh _ hok hpre hholds; obtain ⟨_, _, _, fn', hfn', _, _, _, _, hval⟩ := hok; have e : fn' = fn := Option.some.inj (hfn'.symm.trans hfn); subst e; obtain ⟨⟨⟨ds, gs, before, hw, hc⟩, hx⟩, hz⟩ := hpre; have hw' := DataW.Whole.of_heap (w' := w.forCall tape i) (by rfl) hw; refine (contract (w.forCall tape i) w.heap.size i.args ds gs before hval hw' hsh (hX _ _ _ (by rfl) hx)).mono fun e W' ⟨v, he, hp⟩ => ?_; subst he; exact ChangeSpec.post_blind hp
end Go

end
namespace Go.Proofs.YtbggkiebfflcdaaGreatDoor
section
open Go.RowKit Go.Shelf Go.ChangeShapes
noncomputable def pathLaid : List (String × DataW Unit) := [("math/bits.deBruijn32tab", Rows.laid_math_bits_deBruijn32tab), ("math/bits.deBruijn64tab", Rows.laid_math_bits_deBruijn64tab), ("internal/strconv.uint64pow10", Rows.laid_internal_strconv_uint64pow10), ("unicode/utf8.acceptRanges", Rows.laid_unicode_utf8_acceptRanges), ("strconv.ErrRange", Rows.laid_strconv_ErrRange), ("strconv.ErrSyntax", Rows.laid_strconv_ErrSyntax), ("unicode/utf8.first", Rows.laid_unicode_utf8_first)]
theorem starE : "*" ++ "errors.errorString" = "*errors.errorString" := by decide
theorem rowErr (u : TypeId) (h : Tryz.prog.typeName? 3 u = some "*errors.errorString") : u = 273 :=
 typeName_ptr_named (nm := "errors.errorString") (by rw [starE]; kernel_rfl) (by kernel_rfl) (by decide) u (by rw [starE]; exact h)
theorem sent_cell {n : String} {g : Nat} {text : List UInt8} {r : List (String × DataW Unit)} {W : World}
  (h : laidMet Tryz.prog ((n, .iface "*errors.errorString" (.ptr (.agg [.lit (.string text)]))) :: r) W) (hg : Tryz.prog.globalNamed n = some g) (ht : (Tryz.prog.globals[g]?).map (·.type) = some 154) :
  ∃ ev, W.cell? ⟨g, 0, none⟩ = some ev /\ (ev = .nilIface ∨ ∃ te pe, ev = .iface te pe) := by
 obtain ⟨a0, s0, hv0, -, -, -⟩ := laid_sentinel h hg ht Tryz.underlying154 rowErr Tryz.underlying273 Tryz.underlying275 rfl rfl Tryz.underlying9 (by kernel_rfl) (by kernel_rfl); exact ⟨_, by have h0 := World.var?_cell hg hv0 0; simpa using h0, .inr ⟨_, _, rfl⟩⟩
theorem pow_data : (Rows.laid_internal_strconv_uint64pow10 : DataW Unit) = Lib.tabData .u64 Lib.pow10Tab := by kernel_rfl
theorem plainLaid : ∀ W, laidMetH Tryz.prog pathLaid W = laidMet Tryz.prog pathLaid W := fun W => MakeChecks.laidMetH_plain _ _ _ (by kernel_rfl)
theorem glob_of {W : World} (hL : laidMetH Tryz.prog pathLaid W) (hs : W.ShapedOpen Tryz.prog) : Glob W /\ 8 <= W.heap.size := by
 rw [plainLaid] at hL; have h3 := hL.tail.tail; rw [pow_data] at h3; have h5 := hL.tail.tail.tail.tail; have h6 := h5.tail; obtain ⟨m, hm⟩ := cell_of_shapedOpen_int (P := Tryz.prog) (g := 0) (t := 3) (zero := #[.int .i64 0]) (k := .i64) hs (of_decide_eq_true (by kernel_rfl)) (by kernel_rfl) rfl (by kernel_rfl) (by kernel_rfl) Tryz.underlying3
 refine ⟨⟨Lib.tabIs_of_head (g := 3) (t := 246) (e := 227) (n := 20) (by kernel_rfl) (by kernel_rfl) Tryz.underlying246 Tryz.underlying227 (by kernel_rfl) (by kernel_rfl) h3,
  sent_cell h6 (by kernel_rfl) (by kernel_rfl), sent_cell h5 (by kernel_rfl) (by kernel_rfl), m, hm⟩, ?_⟩
 obtain ⟨cs, hh, _⟩ := hs.1 7 _ _ (of_decide_eq_true (by kernel_rfl)) (show ((begin Tryz.prog (fun _ _ => 0) default).world.heap[7]?).bind Obj.row? = some (Array.replicate 64 (.int .u8 0), 267) by kernel_rfl); have := (Array.getElem?_eq_some_iff.1 hh).1; omega
end
section
open Go.RowKit
mutual
def Qry.wt : Qry -> Nat
 | .mk _ l => wtSegs l
 termination_by structural q => q
def wtSegs : List Sgm -> Nat
 | [] => 0
 | x :: l => x.wt + 1 + wtSegs l
 termination_by structural l => l
def Sgm.wt : Sgm -> Nat
 | .mk _ l => wtSels l
 termination_by structural q => q
def wtSels : List Slr -> Nat
 | [] => 0
 | x :: l => x.wt + 1 + wtSels l
 termination_by structural l => l
def Slr.wt : Slr -> Nat
 | .mk _ _ _ _ _ f => wtList f
 termination_by structural q => q
def Xpr.wt : Xpr -> Nat
 | .mk _ l op q _ => 1 + op.length + q.wt + wtList l
 termination_by structural e => e
def wtList : List Xpr -> Nat
 | [] => 0
 | x :: l => x.wt + wtList l
 termination_by structural l => l
end
theorem Xpr.wt_eq (e : Xpr) : e.wt = 1 + e.op.length + e.q.wt + wtList e.l := by obtain ⟨_, _, _, _, _⟩ := e; rfl
theorem Qry.wt_eq (q : Qry) : q.wt = wtSegs q.l := by obtain ⟨_, _⟩ := q; rfl
theorem Sgm.wt_eq (s : Sgm) : s.wt = wtSels s.l := by obtain ⟨_, _⟩ := s; rfl
theorem Slr.wt_eq (s : Slr) : s.wt = wtList s.f := by obtain ⟨_, _, _, _, _, _⟩ := s; rfl
theorem Xpr.wt_pos (e : Xpr) : 1 <= e.wt := by rw [e.wt_eq]; omega
theorem wtSegs_len : ∀ l : List Sgm, l.length <= wtSegs l
 | [] => Nat.le_refl _
 | x :: l => by have := wtSegs_len l; rw [wtSegs]; simp; omega
theorem wtSels_len : ∀ l : List Slr, l.length <= wtSels l
 | [] => Nat.le_refl _
 | x :: l => by have := wtSels_len l; rw [wtSels]; simp; omega
theorem wtList_len : ∀ l : List Xpr, l.length <= wtList l
 | [] => Nat.le_refl _
 | x :: l => by have := wtList_len l; have := x.wt_pos; rw [wtList]; simp; omega
theorem wtSegs_mem {x : Sgm} : ∀ {l : List Sgm}, x ∈ l -> x.wt + 1 <= wtSegs l
 | [], h => by simp at h
 | y :: l, h => by
  rw [wtSegs]; rcases List.mem_cons.1 h with rfl | h
  ·omega
  ·have := wtSegs_mem h; omega
theorem wtSels_mem {x : Slr} : ∀ {l : List Slr}, x ∈ l -> x.wt + 1 <= wtSels l
 | [], h => by simp at h
 | y :: l, h => by
  rw [wtSels]; rcases List.mem_cons.1 h with rfl | h
  ·omega
  ·have := wtSels_mem h; omega
theorem wtList_mem {x : Xpr} : ∀ {l : List Xpr}, x ∈ l -> x.wt <= wtList l
 | [], h => by simp at h
 | y :: l, h => by
  rw [wtList]; rcases List.mem_cons.1 h with rfl | h
  ·omega
  ·have := wtList_mem h; omega
theorem wtList_append : ∀ a b : List Xpr, wtList (a ++ b) = wtList a + wtList b
 | [], b => by simp [wtList]
 | x :: a, b => by rw [List.cons_append, wtList, wtList, wtList_append a b]; omega
def filSels (l : List Slr) : List Xpr := l.flatMap Slr.f
def filSegs (l : List Sgm) : List Xpr := l.flatMap fun s => filSels s.l
def Qry.fil (q : Qry) : List Xpr := filSegs q.l
theorem filSels_wt : ∀ l : List Slr, wtList (filSels l) + l.length <= wtSels l
 | [] => by simp [filSels, wtList, wtSels]
 | x :: l => by
  have := filSels_wt l; have e : filSels (x :: l) = x.f ++ filSels l := rfl; rw [e, wtList_append, wtSels, x.wt_eq]
  simp; omega
theorem filSegs_wt : ∀ l : List Sgm, wtList (filSegs l) + l.length <= wtSegs l
 | [] => by simp [filSegs, wtList, wtSegs]
 | x :: l => by
  have := filSegs_wt l; have := filSels_wt x.l; have e : filSegs (x :: l) = filSels x.l ++ filSegs l := rfl; rw [e, wtList_append, wtSegs, x.wt_eq]
  simp; omega
theorem Qry.fil_wt (q : Qry) : wtList q.fil + q.l.length <= q.wt := by rw [q.wt_eq]; exact filSegs_wt q.l
theorem Qry.fil_lt {q : Qry} {e : Xpr} (h : e ∈ q.fil) : e.wt < q.wt := by
 have h1 := wtList_mem h; have h2 := q.fil_wt
 have h3 : 0 < q.l.length := by
  unfold Qry.fil filSegs at h; obtain ⟨s, hs, _⟩ := List.mem_flatMap.1 h; exact List.length_pos_of_mem hs
 omega
theorem typedTruths_all : ∀ l : List Xpr, typedTruths l = l.all fun e => e.typed && e.truth
 | [] => rfl
 | x :: l => by rw [typedTruths, typedTruths_all l]; rfl
theorem typedSels_all : ∀ l : List Slr, typedSels l = (filSels l).all fun e => e.typed && e.truth
 | [] => rfl
 | x :: l => by
  obtain ⟨_, _, _, _, _, f⟩ := x; rw [typedSels, typedSels_all l, Slr.typed, typedTruths_all]
  show _ = (f ++ filSels l).all _
  rw [List.all_append]
theorem typedSegs_all : ∀ l : List Sgm, typedSegs l = (filSegs l).all fun e => e.typed && e.truth
 | [] => rfl
 | x :: l => by
  obtain ⟨_, sl⟩ := x; rw [typedSegs, typedSegs_all l, Sgm.typed, typedSels_all]
  show _ = (filSels sl ++ filSegs l).all _
  rw [List.all_append]
theorem Qry.typed_all (q : Qry) : q.typed = q.fil.all fun e => e.typed && e.truth := by obtain ⟨_, l⟩ := q; exact typedSegs_all l
theorem typedList_all : ∀ l : List Xpr, typedList l = l.all Xpr.typed
 | [] => rfl
 | x :: l => by rw [typedList, typedList_all l]; rfl
theorem Xpr.typed_eq (e : Xpr) : e.typed = (e.fits && e.q.typed && e.l.all Xpr.typed) := by
 obtain ⟨a, b, c, d, e⟩ := e; rw [Xpr.typed, typedList_all]; rfl
theorem partsList_append : ∀ a b : List Xpr, partsList (a ++ b) = partsList a + partsList b
 | [], b => by simp [partsList]
 | x :: a, b => by rw [List.cons_append, partsList, partsList, partsList_append a b]; omega
def selsOf : List Sgm -> Nat
 | [] => 0
 | x :: l => x.l.length + selsOf l
theorem partsSels_eq : ∀ l : List Slr, partsSels l = l.length + partsList (filSels l)
 | [] => rfl
 | x :: l => by
  obtain ⟨_, _, _, _, _, f⟩ := x; rw [partsSels, partsSels_eq l, Slr.parts]
  show _ = _ + partsList (f ++ filSels l)
  rw [partsList_append, List.length_cons]; omega
theorem partsSegs_eq : ∀ l : List Sgm, partsSegs l = l.length + selsOf l + partsList (filSegs l)
 | [] => rfl
 | x :: l => by
  obtain ⟨_, sl⟩ := x; rw [partsSegs, partsSegs_eq l, Sgm.parts, partsSels_eq]
  show _ = _ + selsOf (Sgm.mk _ sl :: l) + partsList (filSels sl ++ filSegs l)
  rw [partsList_append, List.length_cons, selsOf]
  show _ = _ + 1 + (sl.length + _) + _
  omega
theorem Qry.parts_eq (q : Qry) : q.parts = q.l.length + selsOf q.l + partsList q.fil := by obtain ⟨_, l⟩ := q; exact partsSegs_eq l
theorem Xpr.parts_eq (e : Xpr) : e.parts = 1 + e.q.parts + partsList e.l := by obtain ⟨_, _, _, _, _⟩ := e; rfl
theorem parts_wt : ∀ n : Nat, (∀ q : Qry, q.wt <= n -> q.parts <= q.wt) /\ (∀ e : Xpr, e.wt <= n -> e.parts <= e.wt) := by
 have hl : ∀ (n : Nat) (l : List Xpr), (∀ e ∈ l, e.parts <= e.wt) -> partsList l <= wtList l := by
  intro n l
  induction l with
  | nil => intro _; exact Nat.le_refl _
  | cons x l ih =>
   intro h; have h1 := h x (by simp); have h2 := ih (fun e he => h e (by simp [he])); rw [partsList, wtList]; omega
 have hs : ∀ l : List Sgm, selsOf l + l.length + wtList (filSegs l) <= wtSegs l := by
  have h9 : ∀ l : List Slr, l.length + wtList (filSels l) <= wtSels l := fun l => by have := filSels_wt l; omega
  intro l
  induction l with
  | nil => simp [selsOf, filSegs, wtList, wtSegs]
  | cons x l ih =>
   have := h9 x.l; have e : filSegs (x :: l) = filSels x.l ++ filSegs l := rfl; rw [e, wtList_append, wtSegs, x.wt_eq, selsOf]
   simp; omega
 intro n
 induction n with
 | zero =>
  refine ⟨fun q hq => ?_, fun e he => by have := e.wt_pos; omega⟩; have h1 := q.fil_wt; have h2 := hs q.l
  have h3 : q.fil = [] := by
   have := wtList_len q.fil; exact List.eq_nil_of_length_eq_zero (by omega)
  rw [q.parts_eq, h3, q.wt_eq]
  simp [partsList]; omega
 | succ n ih =>
  have hq : ∀ q : Qry, q.wt <= n + 1 -> q.parts <= q.wt := fun q hq => by
   have h1 := hl n q.fil (fun e he => ih.2 e (by have := Qry.fil_lt he; omega)); have h2 := hs q.l; rw [q.parts_eq, q.wt_eq]; unfold Qry.fil at h1 ⊢; omega
  refine ⟨hq, fun e he => ?_⟩; rw [e.wt_eq] at he; have h1 := hq e.q (by omega); have h2 := hl n e.l (fun y hy => ih.2 y (by have := wtList_mem hy; omega)); rw [e.parts_eq, e.wt_eq]; omega
theorem Qry.parts_le (q : Qry) : q.parts <= q.wt := (parts_wt q.wt).1 q (Nat.le_refl _)
theorem Xpr.parts_le (e : Xpr) : e.parts <= e.wt := (parts_wt e.wt).2 e (Nat.le_refl _)
theorem Qry.len_le (q : Qry) : q.l.length <= q.wt := by rw [q.wt_eq]; exact wtSegs_len q.l
theorem Qry.fil_len (q : Qry) : q.fil.length <= q.wt := by have := q.fil_wt; have := wtList_len q.fil; omega
theorem readT_name {l s : List UInt8} {k m : Nat} {n : Dcm} (h : readT l = .ok (k, s, n, m)) (hk : k = 1) : s.length <= l.length := by
 match l, h with
 | [], h => simp [readT] at h
 | c :: cs, h =>
  unfold readT at h
  simp only at h
  split at h
  ·split at h
   ·simp only [Except.ok.injEq, Prod.mk.injEq] at h; obtain ⟨rfl, rfl, rfl, rfl⟩ := h; exact takeWhile_le _ _
   ·cases h
  ·split at h
   ·split at h
    ·cases h
    ·simp only [Except.ok.injEq, Prod.mk.injEq] at h; exact absurd (h.1.trans hk) (by omega)
   ·split at h
    ·split at h
     ·cases h
     ·simp only [Except.ok.injEq, Prod.mk.injEq] at h; exact absurd (h.1.trans hk) (by omega)
    ·split at h
     ·cases h
     ·simp only [Except.ok.injEq, Prod.mk.injEq] at h; exact absurd (h.1.trans hk) (by omega)
theorem nextT_name {a : Nat} {l : List UInt8} {t : Tkn} (h : nextT a l = .ok t) (hk : t.kind = 1) : t.s.length <= l.length := by
 unfold nextT at h
 simp only at h
 have hd := dropWhile_le whiteB l
 split at h
 ·injection h with h; subst h
  simp at hk
 ·rename_i c cs he
  split at h
  ·cases h
  ·rename_i k s n m h1
   injection h with h; subst h; have h2 := readT_name h1 (by simpa using hk); exact Nat.le_trans h2 hd
theorem tokensF_names : ∀ {n a : Nat} {l : List UInt8} {ts : List Tkn}, tokensF n a l = .ok ts -> ∀ t ∈ ts, t.kind = 1 -> t.s.length <= l.length
 | 0, _, _, _, h => by simp [tokensF] at h
 | n + 1, a, l, ts, h => by
  unfold tokensF at h
  split at h
  ·cases h
  ·rename_i t h1
   split at h
   ·injection h with h; subst h; simp
   ·split at h
    ·cases h
    ·rename_i ts1 h3
     injection h with h; subst h; intro x hx hk; rcases List.mem_cons.1 hx with rfl | hx
     ·exact nextT_name h1 hk
     ·have := tokensF_names h3 x hx hk; rw [List.length_drop] at this; omega
theorem tokens_names {s : List UInt8} {ts : List Tkn} (h : tokens s = .ok ts) : ∀ t ∈ ts, t.kind = 1 -> t.s.length <= 8192 := by
 intro t ht hk; have h1 := (tokens_ok h).1; unfold tokens at h
 split at h
 ·cases h
 ·have := tokensF_names h t ht hk; omega
def Rd.wb {α : Type} (f : α -> Nat) (R : Rd α) : Prop := ∀ s x s', R s = some (x, s') -> f x + 8 * s'.l.length <= 8 * s.l.length
theorem next_len {s : QS} {x : List UInt8} (h : s.next x = true) : s.go.l.length + 1 = s.l.length := by
 obtain ⟨l, m⟩ := s
 cases l with
 | nil => simp [QS.next, QS.peek, Tkn.zero] at h
 | cons t l => simp [QS.go]
theorem kind_len {s : QS} (h : s.peek.kind ≠ 0) : s.go.l.length + 1 = s.l.length := by
 obtain ⟨l, m⟩ := s
 cases l with
 | nil => simp [QS.peek, Tkn.zero] at h
 | cons t l => simp [QS.go]
section
variable {txt : List UInt8} {E S : Int -> Rd Xpr} {α : Type}
theorem rWhole_len (s : QS) : (rWhole txt s).2.2.l.length + (if (rWhole txt s).2.1 = true then 1 else 0) <= s.l.length := by
 unfold rWhole
 split
 ·rename_i h
  have := kind_len (s := s) (by omega)
  split
  ·simp
  ·simp; omega
 ·simp
theorem rListF_wb {x : List UInt8} {item : Rd α} {f : α -> Nat} (hi : item.wb f) : ∀ n s l s', rListF x item n s = some (l, s') -> l ≠ [] /\ (l.map f).sum + 8 * l.length + 8 * s'.l.length <= 8 * s.l.length + 8
 | 0, s, y, s', h => by simp [rListF] at h
 | n + 1, s, y, s', h => by
  unfold rListF at h
  split at h
  ·cases h
  ·rename_i a s1 h1
   have h2 := hi _ _ _ h1
   split at h
   ·rename_i hn
    have hl := next_len hn
    split at h
    ·cases h
    ·rename_i l s2 h3
     have h4 := (rListF_wb hi n _ _ _ h3).2; obtain ⟨rfl, rfl⟩ := some_pair h; refine ⟨by simp, ?_⟩; simp only [List.map_cons, List.sum_cons, List.length_cons]; omega
   ·obtain ⟨rfl, rfl⟩ := some_pair h; refine ⟨by simp, ?_⟩; simp only [List.map_cons, List.sum_cons, List.length_cons, List.map_nil, List.sum_nil, List.length_nil]; omega
theorem rList_wb {x : List UInt8} {item : Rd α} {f : α -> Nat} (hi : item.wb f) {s : QS} {l : List α} {s' : QS} (h : rList x item s = some (l, s')) : l ≠ [] /\ (l.map f).sum + 8 * l.length + 8 * s'.l.length <= 8 * s.l.length + 8 := rListF_wb hi _ s l s' h
theorem rNeed_wb {x : List UInt8} {a b : α} {s s' : QS} (h : rNeed x a s = some (b, s')) : b = a /\ s'.l.length + 1 = s.l.length := by
 unfold rNeed at h
 split at h
 ·rename_i hn
  obtain ⟨rfl, rfl⟩ := some_pair h; exact ⟨rfl, next_len hn⟩
 ·cases h
theorem wtList_sum : ∀ l : List Xpr, wtList l = (l.map Xpr.wt).sum
 | [] => rfl
 | x :: l => by rw [wtList, wtList_sum l]; rfl
theorem wtSels_sum : ∀ l : List Slr, wtSels l = (l.map fun x => x.wt + 1).sum
 | [] => rfl
 | x :: l => by rw [wtSels, wtSels_sum l]; rfl
theorem rSlice_wb {n : Int} {b : Bool} {s s' : QS} {x : Slr} (h : rSlice txt n b s = some (x, s')) : x.wt = 0 /\ s'.l.length + 1 <= s.l.length := by
 unfold rSlice at h
 split at h
 ·rename_i hn
  have h1 := next_len hn
  simp only at h
  have h2 := rWhole_len (txt := txt) s.go
  split at h
  ·rename_i hm
   have h3 := next_len hm; have h4 := rWhole_len (txt := txt) (rWhole txt s.go).2.2.go; obtain ⟨rfl, rfl⟩ := some_pair h; exact ⟨rfl, by omega⟩
  ·obtain ⟨rfl, rfl⟩ := some_pair h; exact ⟨rfl, by omega⟩
 ·cases h
theorem rSel_wb (hE : ∀ d, (E d).wb Xpr.wt) (d : Int) : Rd.wb (fun x : Slr => x.wt + 1) (rSel txt E d) := fun s y s' h => by
 unfold rSel at h
 split at h
 ·rename_i hk
  have h1 := kind_len (s := s) (by omega); obtain ⟨rfl, rfl⟩ := some_pair h
  show 0 + 1 + _ <= _
  omega
 ·split at h
  ·rename_i hn
   have h1 := next_len hn; obtain ⟨rfl, rfl⟩ := some_pair h
   show 0 + 1 + _ <= _
   omega
  ·split at h
   ·rename_i hn
    have h1 := next_len hn
    split at h
    ·cases h
    ·rename_i e s1 h2
     have h3 := hE _ _ _ _ h2; obtain ⟨rfl, rfl⟩ := some_pair h
     show (e.wt + 0) + 1 + _ <= _
     simp only at h3
     omega
   ·simp only at h
    have h1 := rWhole_len (txt := txt) s
    split at h
    ·have h2 := rSlice_wb h
     simp only
     omega
    ·split at h
     ·rename_i ha
      rw [if_pos ha] at h1; obtain ⟨rfl, rfl⟩ := some_pair h
      show 0 + 1 + _ <= _
      omega
     ·cases h
theorem rShort_wb {s s' : QS} {x : Slr} (h : rShort s = some (x, s')) : x.wt = 0 /\ s'.l.length + 1 = s.l.length := by
 unfold rShort at h
 split at h
 ·rename_i hn
  obtain ⟨rfl, rfl⟩ := some_pair h; exact ⟨rfl, next_len hn⟩
 ·split at h
  ·cases h
  ·rename_i t l he
   split at h
   ·obtain ⟨rfl, rfl⟩ := some_pair h; refine ⟨rfl, ?_⟩
    simp [QS.go, he]
   ·cases h
theorem rBrackets_wb (hE : ∀ d, (E d).wb Xpr.wt) (d : Int) {s s' : QS} {l : List Slr} (h : rBrackets txt E d s = some (l, s')) : wtSels l + 8 * s'.l.length <= 8 * s.l.length := by
 unfold rBrackets at h
 split at h
 ·cases h
 ·rename_i l1 s1 h1
  have h2 := rList_wb (rSel_wb hE d) h1; obtain ⟨rfl, h3⟩ := rNeed_wb h; have h4 : 0 < l.length := List.length_pos_iff.2 h2.1; rw [wtSels_sum]; omega
theorem rSegsF_wb (hE : ∀ d, (E d).wb Xpr.wt) (d : Int) : ∀ n, Rd.wb wtSegs (rSegsF txt E d n)
 | 0 => fun s y s' h => by simp [rSegsF] at h
 | n + 1 => fun s y s' h => by
  unfold rSegsF at h
  simp only at h
  have h0 : (if s.next [46, 46] = true then s.go else s).l.length <= s.l.length := by
   split
   ·rename_i hn
    have := next_len hn; omega
   ·exact Nat.le_refl _
  generalize (if s.next [46, 46] = true then s.go else s) = s1 at *
  split at h
  ·rename_i hn
   have hl := next_len hn
   split at h
   ·cases h
   ·rename_i l s2 h1
    have h2 := rBrackets_wb hE d h1
    split at h
    ·cases h
    ·rename_i m s3 h3
     have h4 := rSegsF_wb hE d n _ _ _ h3; obtain ⟨rfl, rfl⟩ := some_pair h; rw [wtSegs, Sgm.wt_eq]
     show wtSels l + 1 + _ + _ <= _
     omega
  ·split at h
   ·split at h
    ·cases h
    ·rename_i l s2 h1
     split at h1
     ·cases h1
     ·rename_i x s4 h5
      obtain ⟨rfl, rfl⟩ := some_pair h1; have h2 := rShort_wb h5
      split at h
      ·cases h
      ·rename_i m s3 h3
       have h4 := rSegsF_wb hE d n _ _ _ h3; obtain ⟨rfl, rfl⟩ := some_pair h; rw [wtSegs, Sgm.wt_eq]
       show wtSels [x] + 1 + _ + _ <= _
       rw [wtSels, wtSels]; omega
   ·split at h
    ·rename_i hn
     have hl := next_len hn
     split at h
     ·cases h
     ·rename_i l s2 h1
      split at h1
      ·cases h1
      ·rename_i x s4 h5
       obtain ⟨rfl, rfl⟩ := some_pair h1; have h2 := rShort_wb h5
       split at h
       ·cases h
       ·rename_i m s3 h3
        have h4 := rSegsF_wb hE d n _ _ _ h3; obtain ⟨rfl, rfl⟩ := some_pair h; rw [wtSegs, Sgm.wt_eq]
        show wtSels [x] + 1 + _ + _ <= _
        rw [wtSels, wtSels]; omega
    ·obtain ⟨rfl, rfl⟩ := some_pair h; rw [wtSegs]; omega
theorem rQuery_wb (hE : ∀ d, (E d).wb Xpr.wt) (d : Int) (rel : Bool) : Rd.wb Qry.wt (rQuery txt E d rel) := fun s y s' h => by
 unfold rQuery at h
 split at h
 ·cases h
 ·rename_i l s1 h1
  have := rSegsF_wb hE d _ _ _ _ h1; obtain ⟨rfl, rfl⟩ := some_pair h; rw [Qry.wt_eq]; exact this
theorem callW_len {x : List UInt8} (h : x ∈ callW) : x.length <= 6 := by
 have : ∀ y ∈ callW, y.length <= 6 := by decide
 exact this x h
theorem opsW_len {x : List UInt8} (h : x ∈ opsW) : x.length <= 2 := by
 have : ∀ y ∈ opsW, y.length <= 2 := by decide
 exact this x h
theorem rWord_wb (hS : ∀ d, (S d).wb Xpr.wt) (d : Int) {x : List UInt8} {s s' : QS} {e : Xpr} (h : rWord S d x s = some (e, s')) : e.wt + 8 * s'.l.length <= 8 * s.l.length + 8 := by
 unfold rWord at h
 split at h
 ·obtain ⟨rfl, rfl⟩ := some_pair h; rw [Xpr.wt_eq]; show 1 + 0 + 0 + 0 + _ <= _; omega
 ·split at h
  ·obtain ⟨rfl, rfl⟩ := some_pair h; rw [Xpr.wt_eq]; show 1 + 0 + 0 + 0 + _ <= _; omega
  ·split at h
   ·rename_i hc
    have h6 := callW_len hc.1; have h7 := next_len hc.2
    simp only at h
    split at h
    ·rename_i hn
     have h8 := next_len hn; obtain ⟨rfl, rfl⟩ := some_pair h; rw [Xpr.wt_eq]; show 1 + x.length + 0 + 0 + _ <= _
     simp only at h8
     omega
    ·split at h
     ·cases h
     ·rename_i l s1 h1
      have h2 := rList_wb (hS _) h1; obtain ⟨rfl, h3⟩ := rNeed_wb h; have h4 : 0 < l.length := List.length_pos_iff.2 h2.1; rw [Xpr.wt_eq]; show 1 + x.length + 0 + wtList l + _ <= _; rw [wtList_sum]
      simp only at h2
      omega
   ·cases h
theorem rSimple_wb (hE : ∀ d, (E d).wb Xpr.wt) (hS : ∀ d, (S d).wb Xpr.wt) (d : Int) : Rd.wb Xpr.wt (rSimple txt E S d) := fun s y s' h => by
 unfold rSimple at h
 split at h
 ·cases h
 ·rename_i t l he
  have hl : s.go.l.length + 1 = s.l.length := by simp [QS.go, he]
  split at h
  ·obtain ⟨rfl, rfl⟩ := some_pair h; rw [Xpr.wt_eq]; show 1 + 0 + 0 + 0 + _ <= _; omega
  ·split at h
   ·obtain ⟨rfl, rfl⟩ := some_pair h; rw [Xpr.wt_eq]; show 1 + 0 + 0 + 0 + _ <= _; omega
   ·split at h
    ·have := rWord_wb hS d h; omega
    ·split at h
     ·split at h
      ·cases h
      ·rename_i q s1 h1
       have := rQuery_wb hE d _ _ _ _ h1; obtain ⟨rfl, rfl⟩ := some_pair h; rw [Xpr.wt_eq]; show 1 + 0 + q.wt + 0 + _ <= _; omega
     ·cases h
theorem rParens_wb (hE : ∀ d, (E d).wb Xpr.wt) (d : Int) : Rd.wb Xpr.wt (rParens E d) := fun s y s' h => by
 unfold rParens at h
 split at h
 ·cases h
 ·rename_i e s1 h1
  have h2 := hE _ _ _ _ h1; obtain ⟨rfl, h3⟩ := rNeed_wb h
  simp only at h2
  omega
theorem rNot_wb (hE : ∀ d, (E d).wb Xpr.wt) (hS : ∀ d, (S d).wb Xpr.wt) (d : Int) {s s' : QS} {e : Xpr} (h : rNot txt E S d s = some (e, s')) : e.wt + 8 * s'.l.length <= 8 * s.l.length + 8 := by
 unfold rNot at h
 split at h
 ·rename_i hn
  have hl := next_len hn
  split at h
  ·cases h
  ·rename_i e1 s1 h1
   have := rParens_wb hE d _ _ _ h1; obtain ⟨rfl, rfl⟩ := some_pair h; rw [Xpr.wt_eq]; show 1 + 0 + 0 + (e1.wt + 0) + _ <= _; omega
 ·split at h
  ·cases h
  ·rename_i e1 s1 h1
   have := rSimple_wb hE hS d _ _ _ h1
   split at h
   ·obtain ⟨rfl, rfl⟩ := some_pair h; rw [Xpr.wt_eq]; show 1 + 0 + 0 + (e1.wt + 0) + _ <= _; omega
   ·cases h
theorem rTerm_wb (hE : ∀ d, (E d).wb Xpr.wt) (hS : ∀ d, (S d).wb Xpr.wt) (d : Int) : Rd.wb Xpr.wt (rTerm txt E S d) := fun s y s' h => by
 unfold rTerm at h
 split at h
 ·rename_i hn
  have := next_len hn; have := rNot_wb hE hS d h; omega
 ·split at h
  ·rename_i hn
   have := next_len hn; have := rParens_wb hE d _ _ _ h; omega
  ·split at h
   ·cases h
   ·rename_i e s1 h1
    have h2 := rSimple_wb hE hS d _ _ _ h1
    split at h
    ·rename_i hk
     have h5 := kind_len (s := s1) (by omega); have h6 := opsW_len hk.2
     split at h
     ·cases h
     ·rename_i f s2 h3
      have h4 := rSimple_wb hE hS d _ _ _ h3; obtain ⟨rfl, rfl⟩ := some_pair h; rw [Xpr.wt_eq]; show 1 + s1.peek.s.length + 0 + (e.wt + (f.wt + 0)) + _ <= _; omega
    ·obtain ⟨rfl, rfl⟩ := some_pair h; exact h2
theorem many_wt (what : Int) {l : List Xpr} (h : l ≠ []) : (Xpr.many what l).wt + 8 <= wtList l + 8 * l.length := by
 match l, h with
 | [e], _ => show e.wt + 8 <= (e.wt + 0) + 8 * 1; omega
 | a :: b :: l, _ =>
  show (Xpr.of what (a :: b :: l) []).wt + 8 <= _
  rw [Xpr.wt_eq]
  show 1 + 0 + 0 + wtList (a :: b :: l) + 8 <= _
  simp only [List.length_cons]; omega
theorem rBoth_wb (hE : ∀ d, (E d).wb Xpr.wt) (hS : ∀ d, (S d).wb Xpr.wt) (d : Int) : Rd.wb Xpr.wt (rBoth txt E S d) := fun s y s' h => by
 unfold rBoth at h
 split at h
 ·cases h
 ·rename_i l s1 h1
  obtain ⟨rfl, rfl⟩ := some_pair h; have h2 := rList_wb (rTerm_wb hE hS d) h1; have h3 := many_wt 2 h2.1; rw [wtList_sum] at h3; omega
theorem rEither_wb (hE : ∀ d, (E d).wb Xpr.wt) (hS : ∀ d, (S d).wb Xpr.wt) (d : Int) : Rd.wb Xpr.wt (rEither txt E S d) := fun s y s' h => by
 unfold rEither at h
 split at h
 ·cases h
 ·rename_i l s1 h1
  obtain ⟨rfl, rfl⟩ := some_pair h; have h2 := rList_wb (rBoth_wb hE hS d) h1; have h3 := many_wt 1 h2.1; rw [wtList_sum] at h3; omega
theorem rAll_wb : ∀ n, (∀ d, ((rAll txt n).1 d).wb Xpr.wt) /\ (∀ d, ((rAll txt n).2 d).wb Xpr.wt)
 | 0 => ⟨fun d s x s' h => by simp [rAll] at h, fun d s x s' h => by simp [rAll] at h⟩
 | n + 1 => ⟨fun d => rEither_wb (rAll_wb n).1 (rAll_wb n).2 d, fun d => rSimple_wb (rAll_wb n).1 (rAll_wb n).2 d⟩
end
end
end Go.Proofs.YtbggkiebfflcdaaGreatDoor
