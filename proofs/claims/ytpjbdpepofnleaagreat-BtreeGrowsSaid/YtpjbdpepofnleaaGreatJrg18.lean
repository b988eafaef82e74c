/-
  Joined by join.py: Qk Ql Qm
-/
import Derived.Test.YtpjbdpepofnleaaGreatJrg17
section
namespace Go.Proofs.YtpjbdpepofnleaaGreat
open Go.RowKit Go.ChangeMaps Go.MapKept Go.Maps Go.Sort Go.Shelf
def endM (s : PS) (m : List (Nat × Nd)) : PS := m.foldl (fun s p => s.write p.1 p.2.written) s
def endF (s : PS) (m : List (Nat × Nat)) : PS := m.foldl (fun s p => s.write p.1 (b16 p.2)) s
def endS (s : PS) (c : CD) : PS := (endF (endM s c.M) c.S).write 0 (spaceB c)
structure SameS (s s' : PS) : Prop where
  br : s'.br = s.br
  n : s'.n = s.n
  D : s'.D = s.D
  l : s'.l = s.l
  held : s'.held = s.held
theorem SameS.refl (s : PS) : SameS s s := ⟨rfl, rfl, rfl, rfl, rfl⟩
theorem SameS.write {s s' : PS} (h : SameS s s') (k : Nat) (b : List UInt8) : SameS s (s'.write k b) := ⟨h.br, h.n, h.D, h.l, h.held⟩
theorem SameS.calm {s s' : PS} (h : SameS s s') (hc : Calm s) : Calm s' := ⟨by rw [h.D]; exact hc.dead, by rw [h.D]; exact hc.pend, by have := hc.fit; rw [h.D, h.n, h.l] <;> exact this⟩
theorem page_write (s : PS) (k j : Nat) (b : List UInt8) : (s.write k b).page j = if j = k then pad512 b else s.page j := by
  unfold PS.page PS.write
  simp only [getP_put]
  split <;> simp
theorem endM_same : ∀ (m : List (Nat × Nd)) {s s' : PS}, SameS s s' → SameS s (endM s' m)
  | [], _, _, h => h
  | _ :: m, _, _, h => endM_same m (h.write _ _)
theorem endF_same : ∀ (m : List (Nat × Nat)) {s s' : PS}, SameS s s' → SameS s (endF s' m)
  | [], _, _, h => h
  | _ :: m, _, _, h => endF_same m (h.write _ _)
theorem getA_first {α : Type} {p : Nat × α} {m : List (Nat × α)} (j : Nat) : getA (p :: m) j = if j = p.1 then some p.2 else getA m j := by
  unfold getA
  rw [List.find?_cons]
  by_cases h : j = p.1
  · rw [if_pos h, h]; simp
  · rw [if_neg h]
    have : ¬ p.1 = j := fun e => h e.symm
    simp [this]
theorem getA_none {α : Type} {m : List (Nat × α)} {j : Nat} (h : ∀ p ∈ m, j < p.1) : getA m j = none := by
  cases hg : getA m j with
  | none => rfl
  | some b => exact absurd (h _ (getA_mem hg)) (Nat.lt_irrefl _)
theorem endM_page : ∀ {m : List (Nat × Nd)} (s : PS) (j : Nat), RiseA m → (endM s m).page j = match getA m j with | some n => pad512 n.written | none => s.page j
  | [], _, _, _ => rfl
  | p :: m, s, j, h => by
    obtain ⟨h1, h2⟩ := List.pairwise_cons.1 h
    show (endM (s.write p.1 p.2.written) m).page j = _
    rw [endM_page _ j h2, getA_first, page_write]
    by_cases hj : j = p.1
    · rw [if_pos hj, getA_none (fun q hq => by rw [hj]; exact h1 q hq), if_pos hj]
    · rw [if_neg hj, if_neg hj]
theorem endF_page : ∀ {m : List (Nat × Nat)} (s : PS) (j : Nat), RiseA m → (endF s m).page j = match getA m j with | some n => pad512 (b16 n) | none => s.page j
  | [], _, _, _ => rfl
  | p :: m, s, j, h => by
    obtain ⟨h1, h2⟩ := List.pairwise_cons.1 h
    show (endF (s.write p.1 (b16 p.2)) m).page j = _
    rw [endF_page _ j h2, getA_first, page_write]
    by_cases hj : j = p.1
    · rw [if_pos hj, getA_none (fun q hq => by rw [hj]; exact h1 q hq), if_pos hj]
    · rw [if_neg hj, if_neg hj]
theorem endS_page {s : PS} {c : CD} (hM : RiseA c.M) (hS : RiseA c.S) (hp : c.pg = s.page) (j : Nat) : (endS s c).page j = endPg c j := by
  unfold endS endPg
  rw [page_write]
  split
  · rfl
  · rw [endF_page _ j hS, endM_page _ j hM, hp]
    cases getA c.S j <;> rfl
theorem take_one {α : Type} {l : List α} {k : Nat} {x : α} (hx : l[k]? = some x) : l.take (k + 1) = l.take k ++ [x] := by rw [List.take_add_one, hx]; rfl
theorem endM_next {m : List (Nat × Nd)} {k : Nat} {p : Nat × Nd} (s : PS) (h : m[k]? = some p) : endM s (m.take (k + 1)) = (endM s (m.take k)).write p.1 p.2.written := by
  rw [take_one h]
  unfold endM
  rw [List.foldl_append]
  rfl
theorem endF_next {m : List (Nat × Nat)} {k : Nat} {p : Nat × Nat} (s : PS) (h : m[k]? = some p) : endF s (m.take (k + 1)) = (endF s (m.take k)).write p.1 (b16 p.2) := by
  rw [take_one h]
  unfold endF
  rw [List.foldl_append]
  rfl
theorem getA_at {α : Type} : ∀ {m : List (Nat × α)} {k : Nat} {p : Nat × α}, RiseA m → m[k]? = some p → getA m p.1 = some p.2
  | [], k, p, _, h => by simp at h
  | q :: m, 0, p, _, h => by
    simp only [List.getElem?_cons_zero, Option.some.injEq] at h
    rw [getA_first, h, if_pos rfl]
  | q :: m, k + 1, p, hr, h => by
    obtain ⟨h1, h2⟩ := List.pairwise_cons.1 hr
    simp only [List.getElem?_cons_succ] at h
    have hm := h1 p (List.mem_of_getElem? h)
    rw [getA_first, if_neg (by omega), getA_at h2 h]
theorem exec_look {o : Oper} {a : Act} {w : World} {t : TypeId} {x y : Operand} {v vx vy : Value} (ho : o.op = .lookup t x y false) (hx : a.eval x = vx) (hy : a.eval y = vy) (h : (Instr.lookup t vx vy false).run Tryz.prog w = .ok v w) : (execOp a.eval o).run Tryz.prog w = .ok (.value v) w := by
  subst hx hy
  simp [execOp, ho, h, Result.andThen]
theorem enter_ndwritten (vs : Array Value) (w : World) : (callFunc 67 vs).run Tryz.prog w = .ok (.enter 67 vs) w := by kernel_rfl
theorem enter_spwritten (vs : Array Value) (w : World) : (callFunc 70 vs).run Tryz.prog w = .ok (.enter 70 vs) w := by kernel_rfl
theorem enter_pgwrite (vs : Array Value) (w : World) : (callFunc 66 vs).run Tryz.prog w = .ok (.enter 66 vs) w := by kernel_rfl
theorem Kp.more {Y : Nat → Prop} {a b d : World} (h : Kp Y a b) (h' : Kp Y b d) : Kp Y a d := by
  obtain ⟨S, h1, h2⟩ := h
  obtain ⟨T, h3, h4⟩ := h'
  refine ⟨S ++ T, (h1.mono fun q hq => .inl (List.mem_append_left _ hq)).trans h3 fun q hq => .inl (List.mem_append_right _ hq), fun x hx => ?_⟩
  rcases List.mem_append.1 hx with hx | hx
  · exact h2 x hx
  · exact h4 x hx
theorem Kp.less {X Y : Nat → Prop} {a b : World} (h : Kp Y a b) (hx : ∀ q, X q → Y q) : Kp X a b := by
  obtain ⟨S, h1, h2⟩ := h
  exact ⟨S, h1, fun x hx' hX => h2 x hx' (hx x hX)⟩
theorem Kp.cell {Y : Nat → Prop} {a b : World} (h : Kp Y a b) {q j : Nat} {v : Value} (hc : a.cell? ⟨q, j, none⟩ = some v) (hq : Y q) : b.cell? ⟨q, j, none⟩ = some v := by
  obtain ⟨S, h1, h2⟩ := h
  exact fr_keepS h1 (fun hm => h2 _ hm hq) hc
def More (Y : Nat → Prop) (w w' : World) : Nat → Prop := fun q => Y q ∨ w.heap.size ≤ q ∧ q < w'.heap.size
structure EndK (w0 : World) (g bc bn bs dk : Nat) (c : CD) (vs ss : List (Nat × Value)) (Y : Nat → Prop) (s : PS) (w : World) : Prop where
  px : PgX w0 w dk g s Y
  blk : Blk w bc 84 (chC c g bn bs)
  nodes : VAt w bn vs
  spare : VAt w bs ss
  vals : Vals (fun v n => NdV (fun q => Y q ∨ w.heap.size ≤ q) w 0 v n) vs c.M
  yc : Y bc
  yn : Y bn
  ys : Y bs
section
variable {w0 wS w w1 w2 : World} {g bc bn bs dk : Nat} {Y D X : Nat → Prop} {c : CD} {vs ss : List (Nat × Value)} {s s' : PS}
theorem EndK.keep (h : EndK w0 g bc bn bs dk c vs ss Y s w1) (hp : PgX w0 w2 dk g s' Y) (hk : Kp Y w1 w2) : EndK w0 g bc bn bs dk c vs ss Y s' w2 := by
  obtain ⟨S, hf, hS⟩ := hk
  have hn : ∀ q, Y q → q ∉ S := fun q hq hm => hS q hm hq
  have hz := hf.size
  refine ⟨hp, h.blk.fr hf (hn _ h.yc), h.nodes.fr hf (hn _ h.yn), h.spare.fr hf (hn _ h.ys), h.vals.mono fun v n k _ hv => ?_, h.yc, h.yn, h.ys⟩
  have h1 : NdV (fun q => Y q ∨ w2.heap.size ≤ q) w1 0 v n := hv.re (fun q hq hl => .inl (by rcases hq with h | h; exact h; omega)) ⟨w2.heap.size, .inr (Nat.le_refl _), hz⟩
  exact h1.fr hf fun q hq hm => by
    rcases hq with hl | hl
    · exact absurd hl (hS q hm)
    · omega
theorem EndK.quiet (h : EndK w0 g bc bn bs dk c vs ss Y s w1) (hf : Fr [] w1 w2) : EndK w0 g bc bn bs dk c vs ss Y s w2 := h.keep (h.px.stay hf) (Kp.of hf)
theorem EndK.more (h : EndK w0 g bc bn bs dk c vs ss Y s w1) (hf : Fr [] w1 w2) : EndK w0 g bc bn bs dk c vs ss (More Y w1 w2) s w2 := by
  refine ⟨h.px.fr hf, h.blk.fr hf (by simp), h.nodes.fr hf (by simp), h.spare.fr hf (by simp), h.vals.mono fun v n k _ hv => ?_, .inl h.yc, .inl h.yn, .inl h.ys⟩
  refine (hv.fr hf (by simp)).weak fun q hq => ?_
  rcases hq with hq | hq
  · exact .inl (.inl hq)
  · rcases Nat.lt_or_ge q w2.heap.size with hl | hl
    · exact .inl (.inr ⟨hq, hl⟩)
    · exact .inr hl
theorem EndK.start (hp : PgC w0 wS dk g s X c) (h : ChAt wS w g bc bn bs D c) (hD : ∀ q, D q → X q ∨ wS.heap.size ≤ q) : ∃ vs ss, EndK w0 g bc bn bs dk c vs ss (More X wS w) s w ∧ Vals (fun v n => v = .int .i64 ((n : Nat) : Int)) ss c.S := by
  obtain ⟨vs, v1, v2⟩ := h.nodes
  obtain ⟨ss, s1, s2⟩ := h.spare
  refine ⟨vs, ss, ⟨hp.px.fr h.fr, h.blk, v1, s1, v2.mono fun v n k _ hv => ?_, .inr ⟨h.l1, h.blk.lt⟩, .inr ⟨h.l2, v1.lt⟩, .inr ⟨h.l3, s1.lt⟩⟩, s2⟩
  refine hv.re (fun q hq hl => .inl ?_) ⟨w.heap.size, .inr (Nat.le_refl _), Nat.le_refl _⟩
  rcases hD q hq with h1 | h1
  · exact .inl h1
  · exact .inr ⟨h1, hl⟩
theorem rise_vals {α : Type} {R : Value → α → Prop} {vs : List (Nat × Value)} {m : List (Nat × α)} (h : Vals R vs m) (hm : RiseA m) : RiseA vs := by
  have e := h.keys
  have h1 : (m.map fun p => p.1).Pairwise (· < ·) := List.pairwise_map.2 hm
  rw [← e] at h1
  exact List.pairwise_map.1 h1
theorem spC_at (c : CD) (g bn bs : Nat) {j : Nat} {v : Value} (h : (spC c)[j]? = some v) : (chC c g bn bs)[j]? = some v := by
  have hj : j < 10 := by
    have := (List.getElem?_eq_some_iff.1 h).1
    exact this
  match j, hj with
  | 0, _ | 1, _ | 2, _ | 3, _ | 4, _ | 5, _ | 6, _ | 7, _ | 8, _ | 9, _ => exact h
set_option maxRecDepth 100000 in
set_option maxHeartbeats 1000000 in
/-- A change with an error is not laid down. -/
theorem end_err (h : ChAt wS w g bc bn bs D c) (he : c.e ≠ 0) : Calls Tryz.prog 35 #[.pointer (some ⟨bc, 0, none⟩)] w fun e w' => e = .returned (.int .i64 (c.e : Int)) ∧ w = w' := by
  have c13 := h.blk.at_ (i := 13) rfl
  have he' : ¬ ((c.e : Nat) : Int) = 0 := by omega
  refine calls_post fun R HQ => ?_
  have HX := Lib.hid (HQ.out _ _ ⟨rfl, rfl⟩)
  have HE := Lib.hid he
  clear he h
  go_enter Tryz.func35, Tryz.ntmps35
  go_wp2_with fail
  exact HX.out
set_option maxRecDepth 100000 in
set_option maxHeartbeats 8000000 in
/-- A change laid down. -/
theorem end_ch (hp : PgC w0 wS dk g s X c) (h : ChAt wS w g bc bn bs D c) (hD : ∀ q, D q → X q ∨ wS.heap.size ≤ q) (he : c.e = 0) (h0 : 0 < c.n) :
    Calls Tryz.prog 35 #[.pointer (some ⟨bc, 0, none⟩)] w fun e w' => e = .returned (.int .i64 0) ∧ PgX w0 w' dk g (endS s c) X ∧ Kp X w w' := by
  obtain ⟨vs, ss, hE, hss⟩ := EndK.start hp h hD
  have hwf := h.wf
  have hcn := hp.n
  have hfm := hwf.fewM; have hfs := hwf.fewS
  have hl1 := hE.vals.len; have hl2 := hss.len
  have hr1 := rise_vals hE.vals hwf.rM; have hr2 := rise_vals hss hwf.rS
  have hbr := hp.br
  have c11 := hE.blk.at_ (i := 11) rfl
  have c13 := hE.blk.at_ (i := 13) rfl
  rw [he] at c13
  have HWF := Lib.hid hwf; have HCN := Lib.hid hcn; have HE0 := Lib.hid hE; have HSS := Lib.hid hss; have HL1 := Lib.hid hl1; have HL2 := Lib.hid hl2; have HR1 := Lib.hid hr1; have HR2 := Lib.hid hr2; have HBR := Lib.hid hbr; have H0 := Lib.hid h0; have HN4 := Lib.hid hwf.n
  have HFM := Lib.hid hfm; have HFS := Lib.hid hfs
  clear hwf hcn hE hss hl1 hl2 hr1 hr2 hbr h0 he h hp hD hfm hfs
  refine calls_post fun R HQ => ?_
  go_enter Tryz.func35, Tryz.ntmps35
  go_wp2_with fail
  refine (keysN_any bn _).mono ?_
  rintro e w1 ⟨rfl, hw1⟩
  have HSO := Lib.hid (sortedN_any HE0.out.nodes HR1.out (by have := HL1.out; have := HFM.out; omega) w1 hw1)
  have HF1 : Hid (Fr [] w w1) := Lib.hid (by rw [hw1]; exact (Fr.refl [] w).alloc _)
  clear hw1 c11 c13
  go_wp2_with fail
  refine HSO.out.mono ?_
  rintro e wE ⟨rv, rfl, hrow, hfE⟩
  obtain ⟨A, ca, rfl, hca⟩ := own_shape hrow
  have HROW := Lib.hid hrow
  have HE1 := Lib.hid (HE0.out.more (HF1.out.trans hfE (by simp)))
  have HFE := Lib.hid (HF1.out.trans hfE (by simp))
  clear hrow hfE HSO HE0
  obtain ⟨Y1, hY1⟩ : ∃ Y1, Y1 = More (More X wS w) w wE := ⟨_, rfl⟩
  rw [← hY1] at HE1
  have HY1 := Lib.hid hY1
  clear hY1
  have hvl : vs.length = c.M.length := HL1.out
  have HVL := Lib.hid hvl
  clear hvl
  go_wp2_with fail
  go_loopw [25] (fun v wr => ∃ k : Nat, k ≤ vs.length ∧ v = .int .i64 (k : Int) ∧ EndK w0 g bc bn bs dk c vs ss Y1 (endM s (c.M.take k)) wr ∧ Kp Y1 wE wr) (fun v _ => vs.length - (intOf v).toNat)
  case atStart => exact ⟨0, Nat.zero_le _, rfl, HE1.out, Kp.of (Fr.refl _ _)⟩
  case round =>
    obtain ⟨k, hk, rfl, hek, hkp⟩ := hrel
    have HKP := Lib.hid hkp
    have HEK0 := Lib.hid hek
    have HEK := Lib.hid (hek.quiet ((Fr.refl [] wr).drew))
    clear hek hkp
    by_cases hkn : k < vs.length
    · have hkM : k < c.M.length := by have := HVL.out; omega
      obtain ⟨p, hpk⟩ : ∃ p, c.M[k]? = some p := ⟨_, List.getElem?_eq_getElem hkM⟩
      obtain ⟨po1, po2, po3⟩ := HWF.out.mM p (List.mem_of_getElem? hpk)
      have hga := getA_at HWF.out.rM hpk
      obtain ⟨nv, hnv, hN⟩ : ∃ nv, getA vs p.1 = some nv ∧ NdV (fun q => Y1 q ∨ wr.drew.heap.size ≤ q) wr.drew 0 nv p.2 := by
        rcases Vals.get p.1 HEK.out.vals with ⟨h1, _⟩ | ⟨n', v, h1, h2, h3⟩
        · rw [hga] at h1; cases h1
        · rw [hga] at h1
          obtain rfl := Option.some.inj h1
          exact ⟨v, h2, h3⟩
      obtain ⟨gr, hA, hcell⟩ := own_cell HROW.out (show 0 < vs.length by omega)
      have hgr : Y1 gr := by rw [HY1.out]; exact .inr ⟨by have := (HROW.out.lt gr (by rw [hA]; rfl)).1; have := HF1.out.size; omega, own_lt HROW.out _ (by rw [hA]; rfl)⟩
      have cr := HKP.out.cell (hcell k (.int .i64 (p.1 : Int)) (by
        have := HE1.out.vals.kcells
        unfold kcellsA at this ⊢
        rw [this, List.getElem?_map, hpk]; rfl)) hgr
      subst hA
      have c10 := HEK.out.blk.at_ (i := 10) rfl
      have c11 := HEK.out.blk.at_ (i := 11) rfl
      have HNV := Lib.hid hnv; have HPK := Lib.hid hpk; have HPN := Lib.hid po1
      have HWR := Lib.hid (written_nd hN po2 (by omega))
      have HP3 := Lib.hid po3
      have HNX := Lib.hid (endM_next s hpk)
      have hpb : p.1 ≤ 9223372036854775807 := by have := HN4.out; omega
      clear hcell hgr hga hN po2 po3 hpk hkM hnv po1
      go_upto_region 6 with fail
      refine wp_region_K (fun W => W.cell? ⟨bc, 10, none⟩ = some (.pointer (some ⟨g, 0, none⟩)) ∧ W.cell? ⟨bc, 11, none⟩ = some (.map (some bn)) ∧ VAt W bn vs) [0, 1, 2, 3, 4, 5, 6, 7, 8, 9, 10] (by kernel_rfl) ?_
      refine wpAnyK_take (i := 0) (some 29) ?vq1_0 rfl rfl (by kernel_rfl) (fun _ _ _ h => h) ⟨c10, c11, HEK.out.nodes⟩ (.inl ⟨rfl, fun W hW => ?yq1_0⟩) ?_
      case yq1_0 => (obtain ⟨q0, q1, _⟩ := hW; go_simp) <;> with_reducible rfl
      simp only [nrm]
      refine wpAnyK_take (i := 1) (some 30) ?vq1_1 rfl rfl (by kernel_rfl) (fun _ _ _ h => h) ⟨c10, c11, HEK.out.nodes⟩ (.inl ⟨rfl, fun W hW => ?yq1_1⟩) ?_
      case yq1_1 => (obtain ⟨q0, q1, _⟩ := hW; go_simp) <;> with_reducible rfl
      simp only [nrm]
      refine wpAnyK_take (i := 2) (some 31) ?vq1_2 rfl rfl (by kernel_rfl) (fun _ _ _ h => h) ⟨c10, c11, HEK.out.nodes⟩ (.inl ⟨rfl, fun W hW => ?yq1_2⟩) ?_
      case yq1_2 => (obtain ⟨q0, q1, _⟩ := hW; go_simp) <;> with_reducible rfl
      simp only [nrm]
      refine wpAnyK_take (i := 3) (some 32) ?vq1_3 rfl rfl (by kernel_rfl) (fun _ _ _ h => h) ⟨c10, c11, HEK.out.nodes⟩ (.inl ⟨rfl, fun W hW => ?yq1_3⟩) ?_
      case yq1_3 => (obtain ⟨q0, q1, _⟩ := hW; go_simp) <;> with_reducible rfl
      simp only [nrm]
      refine wpAnyK_take (i := 4) (some 33) ?vq1_4 rfl rfl (by kernel_rfl) (fun _ _ _ h => h) ⟨c10, c11, HEK.out.nodes⟩ (.inl ⟨rfl, fun W hW => ?yq1_4⟩) ?_
      case yq1_4 => (obtain ⟨q0, q1, _⟩ := hW; go_simp) <;> with_reducible rfl
      simp only [nrm]
      refine wpAnyK_take (i := 5) (some 34) ?vq1_5 rfl rfl (by kernel_rfl) (fun _ _ _ h => h) ⟨c10, c11, HEK.out.nodes⟩ (.inl ⟨rfl, fun W hW => ?yq1_5⟩) ?_
      case yq1_5 => (obtain ⟨q0, q1, _⟩ := hW; go_simp) <;> with_reducible rfl
      simp only [nrm]
      refine wpAnyK_take (i := 6) (some 35) ?vq1_6 rfl rfl (by kernel_rfl) (fun _ _ _ h => h) ⟨c10, c11, HEK.out.nodes⟩ (.inl ⟨rfl, fun W hW => ?yq1_6⟩) ?_
      case yq1_6 => (obtain ⟨q0, q1, _⟩ := hW; go_simp) <;> with_reducible rfl
      simp only [nrm]
      refine wpAnyK_take (i := 7) (some 36) ?vq1_7 rfl rfl (by kernel_rfl) (fun _ _ _ h => h) ⟨c10, c11, HEK.out.nodes⟩ (.inl ⟨rfl, fun W hW => ?yq1_7⟩) ?_
      case yq1_7 => (obtain ⟨q0, q1, _⟩ := hW; go_simp) <;> with_reducible rfl
      simp only [nrm]
      refine wpAnyK_take (i := 8) (some 37) ?vq1_8 rfl rfl (by kernel_rfl) (fun _ _ _ h => h) ⟨c10, c11, HEK.out.nodes⟩ (.inl ⟨rfl, fun W hW => ?yq1_8⟩) ?_
      case yq1_8 => (obtain ⟨q0, q1, _⟩ := hW; go_simp) <;> with_reducible rfl
      simp only [nrm]
      refine wpAnyK_take (i := 9) (some 38) ?vq1_9 rfl rfl (by kernel_rfl) (fun _ _ _ h => h) ⟨c10, c11, HEK.out.nodes⟩ (.inl ⟨rfl, fun W hW => ?yq1_9⟩) ?_
      case yq1_9 => (obtain ⟨q0, q1, _⟩ := hW; go_simp) <;> with_reducible rfl
      simp only [nrm]
      refine wpAnyK_take (i := 10) (some 39) (nv) rfl rfl (by kernel_rfl) (fun _ _ _ h => h) ⟨c10, c11, HEK.out.nodes⟩ (.inl ⟨rfl, fun W hW => exec_look rfl rfl rfl (by have := hW.2.2.look Tryz.underlying81 (zero_node W) (k := p.1) hpb; rw [HNV.out] at this; exact this)⟩) ?_
      simp only [nrm]
      refine wpAnyK_step (j := 11) (some 40) rfl rfl (by kernel_rfl) rfl fun K hK => ?_
      refine wp_call_f (l := [.tmp 39]) rfl [nv] rfl (enter_ndwritten _) (HWR.out.mono ?_)
      rintro e w5 ⟨v5, rfl, ⟨g5, hb5, hz5⟩, hf5⟩
      have HE5 := Lib.hid (HEK.out.quiet hf5)
      refine ⟨_, rfl, hK _ _ (fun _ => ⟨HE5.out.blk.at_ (i := 10) rfl, HE5.out.blk.at_ (i := 11) rfl, HE5.out.nodes⟩) ?_⟩
      simp only [nrm]
      clear hK
      have HSM : Hid (SameS s (endM s (c.M.take k))) := Lib.hid (endM_same _ (SameS.refl s))
      have HPW := Lib.hid (write_Y HE5.out.px (by rw [HSM.out.br]; exact HBR.out) p.1 (by rw [HSM.out.n, ← HCN.out]; exact HPN.out) v5 p.2.written g5 hb5 (by rw [Nd.written_len]; exact HP3.out))
      refine wpAnyK_step (j := 12) (some 41) rfl rfl (by kernel_rfl) rfl fun K hK => ?_
      refine wp_call_f (l := [.tmp 32, .tmp 33, .tmp 40]) rfl [.pointer (some ⟨g, 0, none⟩), .int .i64 (p.1 : Int), v5] rfl (enter_pgwrite _) (HPW.out.mono ?_)
      rintro e w6 ⟨rfl, hpx6, hkp6⟩
      have HE6 := Lib.hid (HE5.out.keep hpx6 hkp6)
      refine ⟨_, rfl, hK _ _ (fun _ => ⟨HE6.out.blk.at_ (i := 10) rfl, HE6.out.blk.at_ (i := 11) rfl, HE6.out.nodes⟩) ?_⟩
      simp only [nrm]
      clear hK
      refine wpAnyK_step (j := 13) (some 5) rfl rfl (by kernel_rfl) rfl fun K hK => ?_
      refine wp_run_same (v := ?aq1_13) ?yq1_13 (hK _ _ (fun _ => ⟨HE6.out.blk.at_ (i := 10) rfl, HE6.out.blk.at_ (i := 11) rfl, HE6.out.nodes⟩) ?_)
      case yq1_13 => go_simp <;> with_reducible rfl
      simp only [nrm]
      refine wpAnyK_done (by kernel_rfl) ?_ _
      have HX : Hid (∃ j : Nat, j ≤ vs.length ∧ Value.int .i64 ((k : Int) + 1) = .int .i64 (j : Int) ∧ EndK w0 g bc bn bs dk c vs ss Y1 (endM s (c.M.take j)) w6 ∧ Kp Y1 wE w6) := Lib.hid ⟨k + 1, hkn, rfl, by rw [HNX.out]; exact HE6.out, ((HKP.out.more (Kp.of ((Fr.refl [] wr).drew))).more (Kp.of hf5)).more hkp6⟩
      clear c10 c11 cr HE5 HE6 hpx6 hkp6 hb5 hz5 hf5
      have hw1 : IntKind.i64.wrap ((k : Int) + 1) = (k : Int) + 1 := by have := HFM.out; have := HVL.out; have := HN4.out; rw [IntKind.wrap_i64]; omega
      go_wp2_with fail
      go_roundw
      case rel => exact HX.out
      case measure => simp [intOf]; omega
    · obtain rfl : k = vs.length := by omega
      have HEQ : Hid (c.M.take vs.length = c.M) := Lib.hid (by rw [HVL.out]; exact List.take_length)
      clear HEK
      have HEK := HEK0
      clear HEK0
      rw [HEQ.out] at HEK
      have HF0' : Hid (SameS s (endM s c.M)) := Lib.hid (endM_same _ (SameS.refl s))
      obtain ⟨s1, hs1⟩ : ∃ s1, s1 = endM s c.M := ⟨_, rfl⟩
      rw [← hs1] at HEK HF0'
      have HS1 := Lib.hid hs1
      have hkpw : Kp (More X wS w) w wr := (Kp.of HFE.out).more (HKP.out.less fun q hq => by rw [HY1.out]; exact .inl hq)
      have HKW := Lib.hid hkpw
      have HYY : Hid (∀ q, More X wS w q → Y1 q) := Lib.hid (by rw [HY1.out]; exact fun q hq => .inl hq)
      clear hkpw hs1 HKP HE1 HROW
      have c12 := HEK.out.blk.at_ (i := 12) rfl
      go_wp2_with fail
      refine (keysI_any bs _).mono ?_
      rintro e w2 ⟨rfl, hw2⟩
      have HSO := Lib.hid (sortedI_any HEK.out.spare HR2.out (by have := HL2.out; have := HFS.out; omega) w2 hw2)
      have HF2 : Hid (Fr [] wr w2) := Lib.hid (by rw [hw2]; exact (Fr.refl [] wr).alloc _)
      clear hw2 c12
      go_wp2_with fail
      refine HSO.out.mono ?_
      rintro e wG ⟨rv2, rfl, hrow, hfG⟩
      obtain ⟨A2, ca2, rfl, hca2⟩ := own_shape hrow
      have HROW := Lib.hid hrow
      have HE1 := Lib.hid (HEK.out.more (HF2.out.trans hfG (by simp)))
      have HKG : Hid (Kp (More X wS w) w wG) := Lib.hid (HKW.out.more (Kp.of (HF2.out.trans hfG (by simp))))
      clear hrow hfG HSO HKW
      obtain ⟨Y2, hY2⟩ : ∃ Y2, Y2 = More Y1 wr wG := ⟨_, rfl⟩
      rw [← hY2] at HE1
      have HY2 := Lib.hid hY2
      have HYZ : Hid (∀ q, More X wS w q → Y2 q) := Lib.hid (by rw [hY2]; exact fun q hq => .inl (HYY.out q hq))
      clear hY2 HYY
      have hsl : ss.length = c.S.length := HL2.out
      have HSL := Lib.hid hsl
      clear hsl HEK HY1 HVL
      go_wp2_with fail
      go_loopw [53] (fun v wr => ∃ k : Nat, k ≤ ss.length ∧ v = .int .i64 (k : Int) ∧ EndK w0 g bc bn bs dk c vs ss Y2 (endF s1 (c.S.take k)) wr ∧ Kp Y2 wG wr) (fun v _ => ss.length - (intOf v).toNat)
      case atStart => exact ⟨0, Nat.zero_le _, rfl, HE1.out, Kp.of (Fr.refl _ _)⟩
      case round =>
        obtain ⟨k, hk, rfl, hek, hkp⟩ := hrel
        have HKP := Lib.hid hkp
        have HEK0 := Lib.hid hek
        have HEK := Lib.hid (hek.quiet ((Fr.refl [] wr).drew))
        clear hek hkp
        by_cases hkn : k < ss.length
        · have hkM : k < c.S.length := by have := HSL.out; omega
          obtain ⟨p, hpk⟩ : ∃ p, c.S[k]? = some p := ⟨_, List.getElem?_eq_getElem hkM⟩
          obtain ⟨po1, po2⟩ := HWF.out.mS p (List.mem_of_getElem? hpk)
          have hga := getA_at HWF.out.rS hpk
          have hnv : getA ss p.1 = some (.int .i64 (p.2 : Int)) := by
            rcases Vals.get p.1 HSS.out with ⟨h1, _⟩ | ⟨n', v, h1, h2, h3⟩
            · rw [hga] at h1; cases h1
            · rw [hga] at h1
              obtain rfl := Option.some.inj h1
              rw [h2, h3]
          obtain ⟨gr, hA, hcell⟩ := own_cell HROW.out (show 0 < ss.length by omega)
          have hgr : Y2 gr := by rw [HY2.out]; exact .inr ⟨by have := (HROW.out.lt gr (by rw [hA]; rfl)).1; have := HF2.out.size; omega, own_lt HROW.out _ (by rw [hA]; rfl)⟩
          have cr := HKP.out.cell (hcell k (.int .i64 (p.1 : Int)) (by
            have := HSS.out.kcells
            unfold kcellsA at this ⊢
            rw [this, List.getElem?_map, hpk]; rfl)) hgr
          subst hA
          have c10 := HEK.out.blk.at_ (i := 10) rfl
          have c12 := HEK.out.blk.at_ (i := 12) rfl
          have HNV := Lib.hid hnv; have HPK := Lib.hid hpk; have HPN := Lib.hid po1
          have hnil : Buf wr.drew wr.drew.heap.size (.slice none 0 0) [] := own_nil _ _ _ _
          have HWR := Lib.hid (put16_any hnil p.2 po2 (by simp) (Nat.le_refl _))
          have HNX := Lib.hid (endF_next s1 hpk)
          have hpb : p.1 ≤ 9223372036854775807 := by have := HN4.out; omega
          clear hcell hgr hga po2 hpk hkM hnv po1
          go_upto_region 13 with fail
          refine wp_region_K (fun W => W.cell? ⟨bc, 10, none⟩ = some (.pointer (some ⟨g, 0, none⟩)) ∧ W.cell? ⟨bc, 12, none⟩ = some (.map (some bs)) ∧ VAt W bs ss) [0, 1, 2, 3, 4, 5, 6, 7, 8, 9, 10] (by kernel_rfl) ?_
          refine wpAnyK_take (i := 0) (some 57) ?vq2_0 rfl rfl (by kernel_rfl) (fun _ _ _ h => h) ⟨c10, c12, HEK.out.spare⟩ (.inl ⟨rfl, fun W hW => ?yq2_0⟩) ?_
          case yq2_0 => (obtain ⟨q0, q1, _⟩ := hW; go_simp) <;> with_reducible rfl
          simp only [nrm]
          refine wpAnyK_take (i := 1) (some 58) ?vq2_1 rfl rfl (by kernel_rfl) (fun _ _ _ h => h) ⟨c10, c12, HEK.out.spare⟩ (.inl ⟨rfl, fun W hW => ?yq2_1⟩) ?_
          case yq2_1 => (obtain ⟨q0, q1, _⟩ := hW; go_simp) <;> with_reducible rfl
          simp only [nrm]
          refine wpAnyK_take (i := 2) (some 59) ?vq2_2 rfl rfl (by kernel_rfl) (fun _ _ _ h => h) ⟨c10, c12, HEK.out.spare⟩ (.inl ⟨rfl, fun W hW => ?yq2_2⟩) ?_
          case yq2_2 => (obtain ⟨q0, q1, _⟩ := hW; go_simp) <;> with_reducible rfl
          simp only [nrm]
          refine wpAnyK_take (i := 3) (some 60) ?vq2_3 rfl rfl (by kernel_rfl) (fun _ _ _ h => h) ⟨c10, c12, HEK.out.spare⟩ (.inl ⟨rfl, fun W hW => ?yq2_3⟩) ?_
          case yq2_3 => (obtain ⟨q0, q1, _⟩ := hW; go_simp) <;> with_reducible rfl
          simp only [nrm]
          refine wpAnyK_take (i := 4) (some 61) ?vq2_4 rfl rfl (by kernel_rfl) (fun _ _ _ h => h) ⟨c10, c12, HEK.out.spare⟩ (.inl ⟨rfl, fun W hW => ?yq2_4⟩) ?_
          case yq2_4 => (obtain ⟨q0, q1, _⟩ := hW; go_simp) <;> with_reducible rfl
          simp only [nrm]
          refine wpAnyK_take (i := 5) (some 62) ?vq2_5 rfl rfl (by kernel_rfl) (fun _ _ _ h => h) ⟨c10, c12, HEK.out.spare⟩ (.inl ⟨rfl, fun W hW => ?yq2_5⟩) ?_
          case yq2_5 => (obtain ⟨q0, q1, _⟩ := hW; go_simp) <;> with_reducible rfl
          simp only [nrm]
          refine wpAnyK_take (i := 6) (some 63) ?vq2_6 rfl rfl (by kernel_rfl) (fun _ _ _ h => h) ⟨c10, c12, HEK.out.spare⟩ (.inl ⟨rfl, fun W hW => ?yq2_6⟩) ?_
          case yq2_6 => (obtain ⟨q0, q1, _⟩ := hW; go_simp) <;> with_reducible rfl
          simp only [nrm]
          refine wpAnyK_take (i := 7) (some 64) ?vq2_7 rfl rfl (by kernel_rfl) (fun _ _ _ h => h) ⟨c10, c12, HEK.out.spare⟩ (.inl ⟨rfl, fun W hW => ?yq2_7⟩) ?_
          case yq2_7 => (obtain ⟨q0, q1, _⟩ := hW; go_simp) <;> with_reducible rfl
          simp only [nrm]
          refine wpAnyK_take (i := 8) (some 65) ?vq2_8 rfl rfl (by kernel_rfl) (fun _ _ _ h => h) ⟨c10, c12, HEK.out.spare⟩ (.inl ⟨rfl, fun W hW => ?yq2_8⟩) ?_
          case yq2_8 => (obtain ⟨q0, q1, _⟩ := hW; go_simp) <;> with_reducible rfl
          simp only [nrm]
          refine wpAnyK_take (i := 9) (some 66) ?vq2_9 rfl rfl (by kernel_rfl) (fun _ _ _ h => h) ⟨c10, c12, HEK.out.spare⟩ (.inl ⟨rfl, fun W hW => ?yq2_9⟩) ?_
          case yq2_9 => (obtain ⟨q0, q1, _⟩ := hW; go_simp) <;> with_reducible rfl
          simp only [nrm]
          refine wpAnyK_take (i := 10) (some 67) (.int .i64 (p.2 : Int)) rfl rfl (by kernel_rfl) (fun _ _ _ h => h) ⟨c10, c12, HEK.out.spare⟩ (.inl ⟨rfl, fun W hW => exec_look rfl rfl rfl (by have := hW.2.2.look Tryz.underlying82 (zero_int W) (k := p.1) hpb; rw [HNV.out] at this; exact this)⟩) ?_
          simp only [nrm]
          refine wpAnyK_step (j := 11) (some 68) rfl rfl (by kernel_rfl) rfl fun K hK => ?_
          refine wp_call_f (l := [.const (.slice none 0 0), .tmp 67]) rfl [.slice none 0 0, .int .i64 (p.2 : Int)] rfl (enter_put16 _) (HWR.out.mono ?_)
          rintro e w5 ⟨v5, rfl, hap⟩
          have hf5 : Fr [] wr.drew w5 := hap.fr
          obtain ⟨g5, hb5, hz5⟩ := BytesAt.of_row rfl hap.buf hf5.size
          have HE5 := Lib.hid (HEK.out.quiet hf5)
          refine ⟨_, rfl, hK _ _ (fun _ => ⟨HE5.out.blk.at_ (i := 10) rfl, HE5.out.blk.at_ (i := 12) rfl, HE5.out.spare⟩) ?_⟩
          simp only [nrm]
          clear hK
          have HSM : Hid (SameS s (endF s1 (c.S.take k))) := Lib.hid (endF_same _ HF0'.out)
          have HPW := Lib.hid (write_Y HE5.out.px (by rw [HSM.out.br]; exact HBR.out) p.1 (by rw [HSM.out.n, ← HCN.out]; exact HPN.out) v5 (b16 p.2) g5 hb5 (by show 2 ≤ 512; omega))
          refine wpAnyK_step (j := 12) (some 69) rfl rfl (by kernel_rfl) rfl fun K hK => ?_
          refine wp_call_f (l := [.tmp 60, .tmp 61, .tmp 68]) rfl [.pointer (some ⟨g, 0, none⟩), .int .i64 (p.1 : Int), v5] rfl (enter_pgwrite _) (HPW.out.mono ?_)
          rintro e w6 ⟨rfl, hpx6, hkp6⟩
          have HE6 := Lib.hid (HE5.out.keep hpx6 hkp6)
          refine ⟨_, rfl, hK _ _ (fun _ => ⟨HE6.out.blk.at_ (i := 10) rfl, HE6.out.blk.at_ (i := 12) rfl, HE6.out.spare⟩) ?_⟩
          simp only [nrm]
          clear hK
          refine wpAnyK_step (j := 13) (some 8) rfl rfl (by kernel_rfl) rfl fun K hK => ?_
          refine wp_run_same (v := ?aq2_13) ?yq2_13 (hK _ _ (fun _ => ⟨HE6.out.blk.at_ (i := 10) rfl, HE6.out.blk.at_ (i := 12) rfl, HE6.out.spare⟩) ?_)
          case yq2_13 => go_simp <;> with_reducible rfl
          simp only [nrm]
          refine wpAnyK_done (by kernel_rfl) ?_ _
          have HX : Hid (∃ j : Nat, j ≤ ss.length ∧ Value.int .i64 ((k : Int) + 1) = .int .i64 (j : Int) ∧ EndK w0 g bc bn bs dk c vs ss Y2 (endF s1 (c.S.take j)) w6 ∧ Kp Y2 wG w6) := Lib.hid ⟨k + 1, hkn, rfl, by rw [HNX.out]; exact HE6.out, ((HKP.out.more (Kp.of ((Fr.refl [] _).drew))).more (Kp.of hf5)).more hkp6⟩
          clear c10 c12 cr HE5 HE6 hpx6 hkp6 hb5 hz5 hf5 hap
          have hw1 : IntKind.i64.wrap ((k : Int) + 1) = (k : Int) + 1 := by have := HFS.out; have := HSL.out; have := HN4.out; rw [IntKind.wrap_i64]; omega
          go_wp2_with fail
          go_roundw
          case rel => exact HX.out
          case measure => simp [intOf]; omega
        · obtain rfl : k = ss.length := by omega
          have HEQ2 : Hid (c.S.take ss.length = c.S) := Lib.hid (by rw [HSL.out]; exact List.take_length)
          rw [HEQ2.out] at HEK
          have HSM : Hid (SameS s (endF s1 c.S)) := Lib.hid (endF_same _ HF0'.out)
          have HKE := Lib.hid ((HKG.out.more (HKP.out.less HYZ.out)).more (Kp.of ((Fr.refl [] _).drew)))
          have c10 := HEK.out.blk.at_ (i := 10) rfl
          have hnx := HWF.out.next; have hn4 := HN4.out
          have HWS := fun W => written_sp c (w := W) (by omega) HWF.out.head HWF.out.roots
          go_upto_region 17 with fail
          refine wp_region_K (fun W => W.cell? ⟨bc, 10, none⟩ = some (.pointer (some ⟨g, 0, none⟩)) ∧ Blk W bc 84 (chC c g bn bs)) [0, 1, 2, 3, 4, 5, 6, 7] (by kernel_rfl) ?_
          refine wpAnyK_take (i := 0) (some 74) ?vq3_0 rfl rfl (by kernel_rfl) (fun _ _ _ h => h) ⟨c10, HEK.out.blk⟩ (.inl ⟨rfl, fun W hW => ?yq3_0⟩) ?_
          case yq3_0 => (obtain ⟨q0, _⟩ := hW; go_simp) <;> with_reducible rfl
          simp only [nrm]
          refine wpAnyK_take (i := 1) (some 75) ?vq3_1 rfl rfl (by kernel_rfl) (fun _ _ _ h => h) ⟨c10, HEK.out.blk⟩ (.inl ⟨rfl, fun W hW => ?yq3_1⟩) ?_
          case yq3_1 => (obtain ⟨q0, _⟩ := hW; go_simp) <;> with_reducible rfl
          simp only [nrm]
          refine wpAnyK_take (i := 2) (some 76) ?vq3_2 rfl rfl (by kernel_rfl) (fun _ _ _ h => h) ⟨c10, HEK.out.blk⟩ (.inl ⟨rfl, fun W hW => ?yq3_2⟩) ?_
          case yq3_2 => (obtain ⟨q0, _⟩ := hW; go_simp) <;> with_reducible rfl
          simp only [nrm]
          refine wpAnyK_take (i := 3) (some 77) ?vq3_3 rfl rfl (by kernel_rfl) (fun _ _ _ h => h) ⟨c10, HEK.out.blk⟩ (.inl ⟨rfl, fun W hW => ?yq3_3⟩) ?_
          case yq3_3 => (obtain ⟨q0, _⟩ := hW; go_simp) <;> with_reducible rfl
          simp only [nrm]
          refine wpAnyK_take (i := 4) (some 78) ?vq3_4 rfl rfl (by kernel_rfl) (fun _ _ _ h => h) ⟨c10, HEK.out.blk⟩ (.inl ⟨rfl, fun W hW => ?yq3_4⟩) ?_
          case yq3_4 => (obtain ⟨q0, _⟩ := hW; go_simp) <;> with_reducible rfl
          simp only [nrm]
          refine wpAnyK_take (i := 5) (some 79) ?vq3_5 rfl rfl (by kernel_rfl) (fun _ _ _ h => h) ⟨c10, HEK.out.blk⟩ (.inl ⟨rfl, fun W hW => ?yq3_5⟩) ?_
          case yq3_5 => (obtain ⟨q0, _⟩ := hW; go_simp) <;> with_reducible rfl
          simp only [nrm]
          refine wpAnyK_take (i := 6) (some 80) ?vq3_6 rfl rfl (by kernel_rfl) (fun _ _ _ h => h) ⟨c10, HEK.out.blk⟩ (.inl ⟨rfl, fun W hW => ?yq3_6⟩) ?_
          case yq3_6 => (obtain ⟨q0, _⟩ := hW; go_simp) <;> with_reducible rfl
          simp only [nrm]
          refine wpAnyK_take (i := 7) (some 81) (.agg (spC c).toArray) rfl rfl (by kernel_rfl) (fun _ _ _ h => h) ⟨c10, HEK.out.blk⟩ (yieldsIf_load_mid rfl 80 (.tmp 80) rfl bc 0 rfl (spC c) _ (fun W hW j v hj => by rw [Nat.zero_add]; exact hW.2.at_ (spC_at c g bn bs hj)) Tryz.underlying80 rfl (by kernel_rfl)) ?_
          simp only [nrm]
          refine wpAnyK_step (j := 8) (some 82) rfl rfl (by kernel_rfl) rfl fun K hK => ?_
          refine wp_call_f (l := [.tmp 81]) rfl [.agg (spC c).toArray] rfl (enter_spwritten _) ((HWS _).mono ?_)
          rintro e w5 ⟨v5, rfl, ⟨g5, hb5, hz5⟩, hf5⟩
          have HE5 := Lib.hid (HEK.out.quiet hf5)
          refine ⟨_, rfl, hK _ _ (fun _ => ⟨HE5.out.blk.at_ (i := 10) rfl, HE5.out.blk⟩) ?_⟩
          simp only [nrm]
          clear hK
          have HPW := Lib.hid (write_Y HE5.out.px (by rw [HSM.out.br]; exact HBR.out) 0 (by rw [HSM.out.n, ← HCN.out]; exact H0.out) v5 (spaceB c) g5 hb5 (by rw [spaceB_len]; omega))
          refine wpAnyK_step (j := 9) (some 83) rfl rfl (by kernel_rfl) rfl fun K hK => ?_
          refine wp_call_f (l := [.tmp 77, .const (.int .i64 0), .tmp 82]) rfl [.pointer (some ⟨g, 0, none⟩), .int .i64 0, v5] rfl (enter_pgwrite _) (HPW.out.mono ?_)
          rintro e w6 ⟨rfl, hpx6, hkp6⟩
          have HE6 := Lib.hid (HE5.out.keep hpx6 hkp6)
          refine ⟨_, rfl, hK _ _ (fun _ => ⟨HE6.out.blk.at_ (i := 10) rfl, HE6.out.blk⟩) ?_⟩
          simp only [nrm]
          clear hK
          refine wpAnyK_step (j := 10) (some 2) rfl rfl (by kernel_rfl) rfl fun K hK => ?_
          refine wp_run_same (v := ?aq3_10) ?yq3_10 (hK _ _ (fun _ => ⟨HE6.out.blk.at_ (i := 10) rfl, HE6.out.blk⟩) ?_)
          case yq3_10 => go_simp <;> with_reducible rfl
          simp only [nrm]
          refine wpAnyK_done (by kernel_rfl) ?_ _
          have HX := Lib.hid (HQ.out _ _ ⟨rfl, (show PgX w0 w6 dk g (endS s c) X by
            unfold endS
            rw [← HS1.out]
            exact HE6.out.px.weak fun q hq => HYZ.out q (.inl hq)), ((HKE.out.more (Kp.of hf5)).more (hkp6.less HYZ.out)).less fun q hq => .inl hq⟩)
          clear c10 HE5 HE6 hpx6 hkp6 hb5 hz5 hf5
          go_wp2_with fail
          exact HX.out
end
end Go.Proofs.YtpjbdpepofnleaaGreat
end
section
namespace Go.Proofs.YtpjbdpepofnleaaGreat
open Go.RowKit Go.ChangeMaps Go.MapKept Go.Maps Go.Sort Go.Shelf
def rdZ (pg : Nat → List UInt8) (n : Nat) : CD := { pg := pg, n := n, next := 0, head := 0, roots := fun _ => 0, M := [], S := [], e := 0 }
def rdK (pg : Nat → List UInt8) (n : Nat) (b : List UInt8) (k : Nat) : CD := { pg := pg, n := n, next := r16 (b.drop 2), head := r16 (b.drop 4), roots := fun t => if t < k then r16 (b.drop (6 + 2 * t)) else 0, M := [], S := [], e := 0 }
def rdC (pg : Nat → List UInt8) (n : Nat) (b : List UInt8) : CD :=
  if b = zpage then { pg := pg, n := n, next := 1, head := 0, roots := fun _ => 0, M := [], S := [], e := 0 }
  else { pg := pg, n := n, next := r16 (b.drop 2), head := r16 (b.drop 4), roots := fun t => r16 (b.drop (6 + 2 * t)), M := [], S := [], e := 0 }
theorem rdC_begin (pg : Nat → List UInt8) (n : Nat) : rdC pg n (pg 0) = beginC pg n := rfl
theorem rdK_root (pg : Nat → List UInt8) (n : Nat) (b : List UInt8) (k : Nat) : (rdK pg n b k).root k (r16 (b.drop (6 + 2 * k))) = rdK pg n b (k + 1) := by
  unfold rdK CD.root
  simp only [CD.mk.injEq, true_and, and_true]
  funext j
  unfold setR
  by_cases hj : j = k
  · rw [if_pos hj, hj, if_pos (by omega)]
  · rw [if_neg hj]
    by_cases h2 : j < k
    · show (if j < k then _ else _) = _
      rw [if_pos h2, if_pos (by omega)]
    · show (if j < k then _ else _) = _
      rw [if_neg h2, if_neg (by omega)]
theorem make512b (w : World) : (Instr.makeSlice 23 (.int .i64 512) (.int .i64 512)).run Tryz.prog w = .ok (.slice (some ⟨w.heap.size, 0, none⟩) 512 512) (w.alloc (.cells (bcells zpage).toArray 5)) := by
  obtain ⟨i, hi, hz, hs, hb⟩ := info_parts info_u8z
  have h := run_makeSlice (P := Tryz.prog) w 23 5 i _ Tryz.underlying23 hi hz .i64 .i64 512 512 (by omega) (by omega) (by rw [hs]; decide) (by rw [hb]; decide) (by omega)
  have e : madeCells #[Value.int .u8 0] 512 = (bcells zpage).toArray := by
    have := made_zero 8
    have e1 : (DM.new 8).S.flatten = List.replicate (8 * 64) 0 := List.flatten_replicate_replicate
    rw [e1] at this
    rw [show zpage = List.replicate (8 * 64) 0 from rfl, ← this]
  rw [hs] at h
  exact h.trans (by rw [← e]; rfl)
theorem enter_h16 (vs : Array Value) (w : World) : (callFunc 85 vs).run Tryz.prog w = .ok (.enter 85 vs) w := by kernel_rfl
theorem getD_at {b : List UInt8} {j : Nat} {x : UInt8} (h : b.getD j 0 = x) (hj : j < b.length) : b[j]? = some x := by
  rw [List.getD_eq_getElem?_getD, List.getElem?_eq_getElem hj] at h
  rw [List.getElem?_eq_getElem hj]
  exact congrArg some h
theorem zpage_len' : zpage.length = 512 := by unfold zpage; rw [List.length_replicate]
set_option maxRecDepth 100000 in
set_option maxHeartbeats 8000000 in
/-- Page 0 read into a change. -/
theorem read_sp {w : World} {g bc bn bs gb n : Nat} {pg : Nat → List UInt8} {v : Value} {b : List UInt8} (hb : Blk w bc 84 (chC (rdZ pg n) g bn bs)) (hv : BytesAt w v b gb) (hg : gb ≠ bc) (hl : b.length = 512)
    (hm : b = zpage ∨ (b ≠ zpage ∧ b.getD 0 0 = 79 ∧ b.getD 1 0 = 82)) (h1 : 1 ≤ (rdC pg n b).next) :
    Calls Tryz.prog 61 #[.pointer (some ⟨bc, 0, none⟩), v] w fun e w' => e = .returned (.bool true) ∧ Blk w' bc 84 (chC (rdC pg n b) g bn bs) ∧ Fr [bc] w w' := by
  obtain ⟨w1, hw1⟩ : ∃ w1, w1 = w.alloc (.cells (bcells zpage).toArray 5) := ⟨_, rfl⟩
  have hf1 : Fr [] w w1 := by rw [hw1]; exact (Fr.refl [] w).alloc _
  have hb1 : BytesAt w1 (.slice (some ⟨w.heap.size, 0, none⟩) 512 512) zpage w.heap.size := by
    rw [hw1]
    have h := BytesAt.of_blk (Blk.new w 5 (bcells zpage)) 512 (by rw [zpage_len']; exact Nat.le_refl _)
    rw [zpage_len'] at h
    exact h
  have HEQ := Lib.hid (bytes_equal (hv.fr hf1 (by simp)) hb1)
  have hmk := make512b w
  rw [← hw1] at hmk
  obtain ⟨A, ca, off, rfl, hca, hcell⟩ := hv
  obtain ⟨rfl, hc'⟩ := hcell (by omega)
  clear hc'
  rw [hl] at hca HEQ ⊢
  have hvl : BytesAt w (.slice (some ⟨gb, off, none⟩) 512 ca) b gb := ⟨_, ca, off, by rw [hl], by omega, hcell⟩
  have HV := Lib.hid hvl; have HB := Lib.hid (hb.fr hf1 (by simp)); have HL := Lib.hid hl; have HM := Lib.hid hm; have H1 := Lib.hid h1; have HF1 := Lib.hid hf1
  have HG := Lib.hid hg; have HCELL := Lib.hid hcell
  clear hb1 hb hl hm h1 hg hf1 hw1 hvl hcell
  refine calls_post fun R HQ => ?_
  go_enter Tryz.func61, Tryz.ntmps61
  go_wp2_with fail
  refine HEQ.out.mono ?_
  rintro e w2 ⟨rfl, rfl⟩
  by_cases hz : b = zpage
  · rw [decide_eq_true hz]
    have hfz := HB.out.free 0
    have hlt := HB.out.lt
    have hc0 := HB.out.at_ (i := 0) rfl
    have HX : Hid (R (.returned (.bool true)) (w1.setCell ⟨bc, 0, none⟩ (.int .i64 1))) := Lib.hid (HQ.out _ _ ⟨rfl, by
      have h := HB.out.set_ 0 (.int .i64 1)
      unfold rdC
      rw [if_pos hz]
      exact h, (HF1.out.mono (by simp)).trans ((Fr.refl [bc] w1).setCell (.inl (by simp)) _) (fun q hq => .inl hq)⟩)
    have HZ := Lib.hid hz
    clear hz
    go_wp2_with fail
    exact HX.out
  · rw [decide_eq_false hz]
    obtain ⟨hm0, hm1⟩ : b.getD 0 0 = 79 ∧ b.getD 1 0 = 82 := by
      rcases HM.out with h | ⟨_, h1, h2⟩
      · exact absurd h hz
      · exact ⟨h1, h2⟩
    have en : rdC pg n b = { pg := pg, n := n, next := r16 (b.drop 2), head := r16 (b.drop 4), roots := fun t => r16 (b.drop (6 + 2 * t)), M := [], S := [], e := 0 } := if_neg hz
    have hnx : 1 ≤ r16 (b.drop 2) := by have := H1.out; rw [en] at this; exact this
    have HEN := Lib.hid en
    have HCC := (HCELL.out (by have := HL.out; omega)).2
    have hbl := HL.out
    have x0 := fr_keep HF1.out (HCC 0 (.int .u8 79) (by rw [bcells_at, getD_at hm0 (by omega)]; rfl))
    have x1 := fr_keep HF1.out (HCC 1 (.int .u8 82) (by rw [bcells_at, getD_at hm1 (by omega)]; rfl))
    rw [Nat.add_zero] at x0
    have HX0 := Lib.hid x0; have HX1 := Lib.hid x1; have HZ := Lib.hid hz; have HNX := Lib.hid hnx; have HVW := Lib.hid (HV.out.fr HF1.out (by simp))
    clear hm0 hm1 en hnx HCC x0 x1 hz hbl
    have hs2 : ∀ w, _ := fun w => slice_run_from (P := Tryz.prog) Tryz.underlying23 rfl (some ⟨gb, off, none⟩) 512 ca 2 .i64 (by omega) w
    have hs4 : ∀ w, _ := fun w => slice_run_from (P := Tryz.prog) Tryz.underlying23 rfl (some ⟨gb, off, none⟩) 512 ca 4 .i64 (by omega) w
    rw [if_neg (by omega)] at hs2 hs4
    simp only [Option.map_some, Addr.add_mid] at hs2 hs4
    have hv2 := HVW.out.from_ 2 (by have := HL.out; omega)
    have hv4 := HVW.out.from_ 4 (by have := HL.out; omega)
    rw [if_neg (by omega), HL.out] at hv2 hv4
    simp only [Option.map_some, Addr.add_mid] at hv2 hv4
    have HH2 := Lib.hid (half16_any (hv2.fr (w' := w1.drew) ((Fr.refl [] w1).drew) (by simp)) (by rw [List.length_drop]; have := HL.out; omega))
    have HV4 := Lib.hid hv4
    have HB2 := Lib.hid (HB.out.fr ((Fr.refl [] w1).drew) (by simp))
    clear hv2 hv4
    go_upto_region 4 with fail
    refine wp_region_K (fun _ => True) [0, 1, 2, 3, 5, 6, 8, 9, 11, 12] (by kernel_rfl) ?_
    refine wpAnyK_take (i := 0) (some 12) ?vq1_0 rfl rfl (by kernel_rfl) (fun _ _ _ h => h) trivial (.inl ⟨rfl, fun W hW => ?yq1_0⟩) ?_
    case yq1_0 => go_simp <;> with_reducible rfl
    simp only [nrm]
    refine wpAnyK_take (i := 1) (some 13) ?vq1_1 rfl rfl (by kernel_rfl) (fun _ _ _ h => h) trivial (.inl ⟨rfl, fun W hW => ?yq1_1⟩) ?_
    case yq1_1 => go_simp <;> with_reducible rfl
    simp only [nrm]
    refine wpAnyK_take (i := 2) (some 14) ?vq1_2 rfl rfl (by kernel_rfl) (fun _ _ _ h => h) trivial (.inl ⟨rfl, fun W hW => ?yq1_2⟩) ?_
    case yq1_2 => go_simp <;> with_reducible rfl
    simp only [nrm]
    refine wpAnyK_take (i := 3) (some 15) (.slice (some ⟨gb, off + 2, none⟩) 510 (ca - 2)) rfl rfl (by kernel_rfl) (fun _ _ _ h => h) trivial (.inl ⟨rfl, fun W _ => exec_slice rfl rfl rfl rfl (hs2 W)⟩) ?_
    simp only [nrm]
    refine wpAnyK_take (i := 5) (some 17) ?vq1_5 rfl rfl (by kernel_rfl) (fun _ _ _ h => h) trivial (.inl ⟨rfl, fun W hW => ?yq1_5⟩) ?_
    case yq1_5 => go_simp <;> with_reducible rfl
    simp only [nrm]
    refine wpAnyK_take (i := 6) (some 18) (.slice (some ⟨gb, off + 4, none⟩) 508 (ca - 4)) rfl rfl (by kernel_rfl) (fun _ _ _ h => h) trivial (.inl ⟨rfl, fun W _ => exec_slice rfl rfl rfl rfl (hs4 W)⟩) ?_
    simp only [nrm]
    refine wpAnyK_step (j := 4) (some 16) rfl rfl (by kernel_rfl) rfl fun K hK => ?_
    refine wp_call_f (l := [.tmp 15]) rfl [.slice (some ⟨gb, off + 2, none⟩) 510 (ca - 2)] rfl (enter_h16 _) (HH2.out.mono ?_)
    rintro e w3 ⟨rfl, q3, rfl⟩
    refine ⟨_, rfl, hK _ _ (fun _ => trivial) ?_⟩
    simp only [nrm]
    clear hK HH2
    have hf3 : Fr [] w1 (w1.drew.drewN q3) := ((Fr.refl [] w1).drew).drewN q3
    generalize w1.drew.drewN q3 = w3 at *
    have HH4 := Lib.hid (half16_any (HV4.out.fr hf3 (by simp)) (by rw [List.length_drop]; have := HL.out; omega))
    refine wpAnyK_step (j := 7) (some 19) rfl rfl (by kernel_rfl) rfl fun K hK => ?_
    refine wp_call_f (l := [.tmp 18]) rfl [.slice (some ⟨gb, off + 4, none⟩) 508 (ca - 4)] rfl (enter_h16 _) (HH4.out.mono ?_)
    rintro e w4 ⟨rfl, q4, rfl⟩
    refine ⟨_, rfl, hK _ _ (fun _ => trivial) ?_⟩
    simp only [nrm]
    clear hK HH4
    have hf4 : Fr [] w1 (w3.drewN q4) := hf3.drewN q4
    generalize w3.drewN q4 = w4 at *
    have HB4 := Lib.hid (HB.out.fr hf4 (by simp))
    have HF4 := Lib.hid hf4
    clear hf4 hf3 HB2
    have hfz := HB4.out.free 0
    have hlt := HB4.out.lt
    have hc0 := HB4.out.at_ (i := 0) rfl
    refine wpAnyK_take (i := 8) (some 20) ?vq1_8 rfl rfl (by kernel_rfl) (fun _ _ _ h => h) trivial (.inl ⟨rfl, fun W hW => ?yq1_8⟩) ?_
    case yq1_8 => go_simp <;> with_reducible rfl
    simp only [nrm]
    refine wpAnyK_take (i := 9) (some 21) ?vq1_9 rfl rfl (by kernel_rfl) (fun _ _ _ h => h) trivial (.inl ⟨rfl, fun W hW => ?yq1_9⟩) ?_
    case yq1_9 => go_simp <;> with_reducible rfl
    simp only [nrm]
    refine wpAnyK_step (j := 10) none rfl rfl (by kernel_rfl) rfl fun K hK => ?_
    refine wp_run_skip (w' := w4.setCell ⟨bc, 0, none⟩ (.int .i64 ((r16 (b.drop 2) : Nat) : Int))) (by go_simp) (hK _ _ (fun _ => trivial) ?_)
    simp only [Act.put]
    clear hK
    have HB5 := Lib.hid (HB4.out.set_ 0 (.int .i64 ((r16 (b.drop 2) : Nat) : Int)))
    have HF5 : Hid (Fr [bc] w1 (w4.setCell ⟨bc, 0, none⟩ (.int .i64 ((r16 (b.drop 2) : Nat) : Int)))) := Lib.hid ((HF4.out.mono (by simp)).setCell (.inl (by simp)) _)
    clear hfz hlt hc0
    generalize w4.setCell ⟨bc, 0, none⟩ (.int .i64 ((r16 (b.drop 2) : Nat) : Int)) = w5 at *
    have hfz := HB5.out.free 1
    have hlt := HB5.out.lt
    have hc1 := HB5.out.at_ (i := 1) (v := .int .i64 0) rfl
    refine wpAnyK_take (i := 11) (some 22) ?vq1_11 rfl rfl (by kernel_rfl) (fun _ _ _ h => h) trivial (.inl ⟨rfl, fun W hW => ?yq1_11⟩) ?_
    case yq1_11 => go_simp <;> with_reducible rfl
    simp only [nrm]
    refine wpAnyK_take (i := 12) (some 23) ?vq1_12 rfl rfl (by kernel_rfl) (fun _ _ _ h => h) trivial (.inl ⟨rfl, fun W hW => ?yq1_12⟩) ?_
    case yq1_12 => go_simp <;> with_reducible rfl
    simp only [nrm]
    refine wpAnyK_step (j := 13) none rfl rfl (by kernel_rfl) rfl fun K hK => ?_
    refine wp_run_skip (w' := w5.setCell ⟨bc, 1, none⟩ (.int .i64 ((r16 (b.drop 4) : Nat) : Int))) (by go_simp) (hK _ _ (fun _ => trivial) ?_)
    simp only [Act.put]
    clear hK
    refine wpAnyK_done (by kernel_rfl) ?_ _
    have HB6 : Hid (Blk (w5.setCell ⟨bc, 1, none⟩ (.int .i64 ((r16 (b.drop 4) : Nat) : Int))) bc 84 (chC (rdK pg n b 0) g bn bs)) := Lib.hid (HB5.out.set_ 1 (.int .i64 ((r16 (b.drop 4) : Nat) : Int)))
    have HF6 : Hid (Fr [bc] w1 (w5.setCell ⟨bc, 1, none⟩ (.int .i64 ((r16 (b.drop 4) : Nat) : Int)))) := Lib.hid (HF5.out.setCell (.inl (by simp)) _)
    clear hfz hlt hc1 HB5 HF5 HB4 HF4
    generalize w5.setCell ⟨bc, 1, none⟩ (.int .i64 ((r16 (b.drop 4) : Nat) : Int)) = w6 at *
    go_wp2_with fail
    go_loopw [24] (fun v wr => ∃ k : Nat, k ≤ 8 ∧ v = .int .i64 (k : Int) ∧ Blk wr bc 84 (chC (rdK pg n b k) g bn bs) ∧ Fr [bc] w1 wr) (fun v _ => 8 - (intOf v).toNat)
    case atStart => exact ⟨0, by omega, rfl, HB6.out, HF6.out⟩
    case round =>
      obtain ⟨k, hk, rfl, hbk, hfk⟩ := hrel
      have HBK := Lib.hid hbk; have HFK := Lib.hid hfk
      clear hbk hfk
      by_cases hk8 : k < 8
      · have hm1 : IntKind.i64.wrap (2 * (k : Int)) = 2 * (k : Int) := by rw [IntKind.wrap_i64]; omega
        have hm2 : IntKind.i64.wrap (6 + 2 * (k : Int)) = 6 + 2 * (k : Int) := by rw [IntKind.wrap_i64]; omega
        have hm3 : IntKind.i64.wrap ((k : Int) + 1) = (k : Int) + 1 := by rw [IntKind.wrap_i64]; omega
        have hsk : ∀ w, _ := fun w => slice_run_from (P := Tryz.prog) Tryz.underlying23 rfl (some ⟨gb, off, none⟩) 512 ca (6 + 2 * k) .i64 (by omega) w
        have hck : ((6 + 2 * k : Nat) : Int) = 6 + 2 * (k : Int) := by omega
        rw [if_neg (by omega), hck] at hsk
        simp only [Option.map_some, Addr.add_mid] at hsk
        clear hck
        have HSK : Hid (∀ w, (Instr.sliceAt 23 (.slice (some ⟨gb, off, none⟩) 512 ca) (some (.int .i64 (6 + 2 * (k : Int)))) none none).run Tryz.prog w = .ok (.slice (some ⟨gb, off + (6 + 2 * k), none⟩) (512 - (6 + 2 * k)) (ca - (6 + 2 * k))) w) := Lib.hid hsk
        have hvk := HVW.out.from_ (6 + 2 * k) (by have := HL.out; omega)
        rw [if_neg (by omega), HL.out] at hvk
        simp only [Option.map_some, Addr.add_mid] at hvk
        have hfd : Fr [bc] w1 wr.drew := HFK.out.drew
        have HHK := Lib.hid (half16_any (hvk.fr hfd (by have := HG.out; simpa using this)) (by rw [List.length_drop]; have := HL.out; omega))
        clear hvk hfd
        go_upto_region 8 with fail
        refine wp_region_K (fun _ => True) [0, 1, 2, 3, 4, 5, 6, 8, 9, 10] (by kernel_rfl) ?_
        refine wpAnyK_take (i := 0) (some 27) ?vq2_0 rfl rfl (by kernel_rfl) (fun _ _ _ h => h) trivial (.inl ⟨rfl, fun W hW => ?yq2_0⟩) ?_
        case yq2_0 => go_simp <;> with_reducible rfl
        simp only [nrm]
        refine wpAnyK_take (i := 1) (some 28) ?vq2_1 rfl rfl (by kernel_rfl) (fun _ _ _ h => h) trivial (.inl ⟨rfl, fun W hW => ?yq2_1⟩) ?_
        case yq2_1 => go_simp <;> with_reducible rfl
        simp only [nrm]
        refine wpAnyK_take (i := 2) (some 29) ?vq2_2 rfl rfl (by kernel_rfl) (fun _ _ _ h => h) trivial (.inl ⟨rfl, fun W hW => ?yq2_2⟩) ?_
        case yq2_2 => go_simp <;> with_reducible rfl
        simp only [nrm]
        refine wpAnyK_take (i := 3) (some 30) ?vq2_3 rfl rfl (by kernel_rfl) (fun _ _ _ h => h) trivial (.inl ⟨rfl, fun W hW => ?yq2_3⟩) ?_
        case yq2_3 => go_simp <;> with_reducible rfl
        simp only [nrm]
        refine wpAnyK_take (i := 4) (some 31) ?vq2_4 rfl rfl (by kernel_rfl) (fun _ _ _ h => h) trivial (.inl ⟨rfl, fun W hW => ?yq2_4⟩) ?_
        case yq2_4 => go_simp <;> with_reducible rfl
        simp only [nrm]
        refine wpAnyK_take (i := 5) (some 32) ?vq2_5 rfl rfl (by kernel_rfl) (fun _ _ _ h => h) trivial (.inl ⟨rfl, fun W hW => ?yq2_5⟩) ?_
        case yq2_5 => go_simp <;> with_reducible rfl
        simp only [nrm]
        refine wpAnyK_take (i := 6) (some 33) (.slice (some ⟨gb, off + (6 + 2 * k), none⟩) (512 - (6 + 2 * k)) (ca - (6 + 2 * k))) rfl rfl (by kernel_rfl) (fun _ _ _ h => h) trivial (.inl ⟨rfl, fun W _ => exec_slice rfl rfl rfl rfl (HSK.out W)⟩) ?_
        simp only [nrm]
        refine wpAnyK_take (i := 8) (some 35) ?vq2_8 rfl rfl (by kernel_rfl) (fun _ _ _ h => h) trivial (.inl ⟨rfl, fun W hW => ?yq2_8⟩) ?_
        case yq2_8 => go_simp <;> with_reducible rfl
        simp only [nrm]
        refine wpAnyK_take (i := 9) (some 36) ?vq2_9 rfl rfl (by kernel_rfl) (fun _ _ _ h => h) trivial (.inl ⟨rfl, fun W hW => ?yq2_9⟩) ?_
        case yq2_9 => go_simp <;> with_reducible rfl
        simp only [nrm]
        refine wpAnyK_step (j := 7) (some 34) rfl rfl (by kernel_rfl) rfl fun K hK => ?_
        refine wp_call_f (l := [.tmp 33]) rfl [.slice (some ⟨gb, off + (6 + 2 * k), none⟩) (512 - (6 + 2 * k)) (ca - (6 + 2 * k))] rfl (enter_h16 _) (HHK.out.mono ?_)
        rintro e w7 ⟨rfl, q7, rfl⟩
        refine ⟨_, rfl, hK _ _ (fun _ => trivial) ?_⟩
        simp only [nrm]
        clear hK HHK
        have HB7 := Lib.hid (HBK.out.fr (((Fr.refl [] wr).drew).drewN q7) (by simp))
        have HF7 := Lib.hid (HFK.out.drew.drewN q7)
        generalize wr.drew.drewN q7 = w7 at *
        have hfz := HB7.out.free (2 + k)
        have hlt := HB7.out.lt
        have hck := HB7.out.at_ (chC_root _ g bn bs hk8)
        refine wpAnyK_take (i := 10) (some 37) ?vq2_10 rfl rfl (by kernel_rfl) (fun _ _ _ h => h) trivial (.inl ⟨rfl, fun W hW => ?yq2_10⟩) ?_
        case yq2_10 => go_simp <;> with_reducible rfl
        simp only [nrm]
        refine wpAnyK_step (j := 11) none rfl rfl (by kernel_rfl) rfl fun K hK => ?_
        refine wp_run_skip (w' := w7.setCell ⟨bc, 2 + k, none⟩ (.int .i64 ((r16 (b.drop (6 + 2 * k)) : Nat) : Int))) (by go_simp) (hK _ _ (fun _ => trivial) ?_)
        simp only [Act.put]
        clear hK
        refine wpAnyK_done (by kernel_rfl) ?_ _
        have HX : Hid (∃ j : Nat, j ≤ 8 ∧ Value.int .i64 ((k : Int) + 1) = .int .i64 (j : Int) ∧ Blk (w7.setCell ⟨bc, 2 + k, none⟩ (.int .i64 ((r16 (b.drop (6 + 2 * k)) : Nat) : Int))) bc 84 (chC (rdK pg n b j) g bn bs) ∧ Fr [bc] w1 (w7.setCell ⟨bc, 2 + k, none⟩ (.int .i64 ((r16 (b.drop (6 + 2 * k)) : Nat) : Int)))) := Lib.hid ⟨k + 1, hk8, rfl, by
          have h := HB7.out.set_ (2 + k) (.int .i64 ((r16 (b.drop (6 + 2 * k)) : Nat) : Int))
          rw [chC_set _ g bn bs hk8, rdK_root] at h
          exact h, HF7.out.setCell (.inl (by simp)) _⟩
        clear hfz hlt hck HB7 HF7
        go_wp2_with fail
        go_roundw
        case rel => exact HX.out
        case measure => simp [intOf]; omega
      · obtain rfl : k = 8 := by omega
        have y0 := fr_keepS HFK.out (by have := HG.out; simpa using this) HX0.out
        have y1 := fr_keepS HFK.out (by have := HG.out; simpa using this) HX1.out
        have c0 := HBK.out.at_ (i := 0) (v := .int .i64 ((r16 (b.drop 2) : Nat) : Int)) rfl
        have hpos : (0 : Int) < ((r16 (b.drop 2) : Nat) : Int) := by have := HNX.out; omega
        have hposn : 0 < r16 (b.drop 2) := by have := HNX.out; omega
        have HX : Hid (R (.returned (.bool true)) wr) := Lib.hid (HQ.out _ _ ⟨rfl, by
          rw [HEN.out]
          exact HBK.out, (HF1.out.mono (by simp)).trans HFK.out (fun q hq => .inl hq)⟩)
        go_wp2_with fail
        exact HX.out
end Go.Proofs.YtpjbdpepofnleaaGreat
end
section
namespace Go.Proofs.YtpjbdpepofnleaaGreat
open Go.RowKit Go.ChangeMaps Go.MapKept Go.Maps Go.Sort Go.Shelf
section
variable {P : Program} {md : Region.Mode} {ops : Array Oper} {Q : Exit → Act → World → Prop} {S1 S2 : World → Prop} {I : List Nat}
theorem wpAnyK_strong (hS : ∀ W, S1 W → S2 W) : ∀ (fuel : Nat) {listed : Array Bool} {a : Act} {w : World}, wpAnyK P md ops Q S1 I fuel listed a w → wpAnyK P md ops Q S2 I fuel listed a w
  | 0, _, _, _, h => h
  | fuel + 1, _listed, _a, _w, h => ⟨h.1, fun i hi => wpOp_mono (fun _ _ h' => ⟨fun hc => hS _ (h'.1 hc), wpAnyK_strong hS fuel h'.2⟩) (h.2 i hi)⟩
end
theorem cell_lt {w : World} {g j : Nat} {v : Value} (h : w.cell? ⟨g, j, none⟩ = some v) : g < w.heap.size := by
  rcases Nat.lt_or_ge g w.heap.size with h1 | h1
  · exact h1
  · have : w.cell? ⟨g, j, none⟩ = none := by simp [World.cell?, Array.getElem?_eq_none h1]
    rw [h] at this; cases this
theorem at_blk_lt {w : World} {v : Value} {bs : List UInt8} {g : Nat} (h : BytesAt w v bs g) (h0 : 0 < bs.length) : g < w.heap.size := by
  obtain ⟨A, c, off, _, _, hc⟩ := h
  exact cell_lt ((hc h0).2 0 (B8 bs[0]) (by rw [bcells_at, List.getElem?_eq_getElem h0]; rfl))
def Dm_ (X : Nat → Prop) (w : World) (bc bn bs : Nat) : Nat → Prop := fun q => (X q ∨ w.heap.size ≤ q) ∧ q ≠ bc ∧ q ≠ bn ∧ q ≠ bs
theorem begin_wf {pg : Nat → List UInt8} {n : Nat} {E : Nat → En} (h : Store pg n E) : WfW (beginC pg n) := by
  obtain ⟨_, hp, P, F, hF⟩ := h
  obtain ⟨e1, e2, e3, e4, e5⟩ := begin_pg pg n
  refine ⟨hF.acc.few, hF.acc.next2, hF.acc.head, ?_, hF.acc.wf.rM, hF.acc.wf.rS, ?_, ?_, fun t => ?_⟩
  · rw [e1, e2]; exact hp
  · rw [e3]; simp
  · rw [e4]; simp
  · unfold beginC
    split
    · show 0 < 65536; omega
    · exact r16_lt _
theorem enter_spread (vs : Array Value) (w : World) : (callFunc 61 vs).run Tryz.prog w = .ok (.enter 61 vs) w := by kernel_rfl
theorem enter_pages (vs : Array Value) (w : World) : (callFunc 62 vs).run Tryz.prog w = .ok (.enter 62 vs) w := by kernel_rfl
section
variable {w0 w : World} {dk g st : Nat} {s : PS} {X : Nat → Prop} {E : Nat → En}
set_option maxRecDepth 100000 in
set_option maxHeartbeats 4000000 in
/-- A change of nothing yet. -/
theorem begin_st (hp : PgX w0 w dk g s X) (hbr : s.br = false) (hcalm : Calm s) (hst : w.cell? ⟨st, 0, none⟩ = some (.pointer (some ⟨g, 0, none⟩))) (hS : Store s.page s.n E) :
    Calls Tryz.prog 31 #[.pointer (some ⟨st, 0, none⟩)] w fun e w' => ∃ bc bn bs, e = .returned (.tuple #[.pointer (some ⟨bc, 0, none⟩), .int .i64 0]) ∧ ChAt w w' g bc bn bs (Dm_ X w bc bn bs) (beginC s.page s.n) := by
  have hwf := begin_wf hS
  obtain ⟨hmk, hpl, P, F, hF⟩ := hS
  have hn1 : 1 ≤ s.n := by have := hF.acc.next1; have := hF.acc.next2; have := (begin_pg s.page s.n).2.1; omega
  have hnx1 := hF.acc.next1
  have hnx2 := hF.acc.next2
  rw [(begin_pg s.page s.n).2.1] at hnx2
  have HRD := Lib.hid (read_Y hp hbr hcalm 0 hn1)
  have HPL := Lib.hid (hpl 0 hn1)
  have HMK := Lib.hid hmk; have HWF := Lib.hid hwf; have HP := Lib.hid hp; have HN1 := Lib.hid hnx1; have HN2 := Lib.hid hnx2; have HN4 := Lib.hid hwf.n
  clear hp hbr hcalm hwf hmk hpl hF hn1 hnx1 hnx2
  have hmm := @run_makeMap Tryz.prog
  refine calls_post fun R HQ => ?_
  go_enter Tryz.func31, Tryz.ntmps31
  go_wp2_with fail
  refine HRD.out.mono ?_
  rintro e w1 ⟨v, gb, rfl, hv, hgb, hf1⟩
  have hst1 := fr_keep hf1 hst
  have HV := Lib.hid hv; have HF1 := Lib.hid hf1; have HGB := Lib.hid hgb
  clear hv hf1 hgb hst
  go_upto_region 7 with fail
  have hfw : Fr [] w1 (((w1.alloc (.map #[] 0)).alloc (.map #[] 0)).alloc (.cells (chC (rdZ s.page s.n) g w1.heap.size (w1.heap.size + 1)).toArray 84)) := (((Fr.refl [] w1).alloc _).alloc _).alloc _
  have hm1 : VAt (((w1.alloc (.map #[] 0)).alloc (.map #[] 0)).alloc (.cells (chC (rdZ s.page s.n) g w1.heap.size (w1.heap.size + 1)).toArray 84)) w1.heap.size [] := (VAt.new w1).fr (((Fr.refl [] _).alloc _).alloc _) (by simp)
  have hm2 : VAt (((w1.alloc (.map #[] 0)).alloc (.map #[] 0)).alloc (.cells (chC (rdZ s.page s.n) g w1.heap.size (w1.heap.size + 1)).toArray 84)) (w1.heap.size + 1) [] := by
    have := (VAt.new (w1.alloc (.map #[] 0))).fr ((Fr.refl [] _).alloc (.cells (chC (rdZ s.page s.n) g w1.heap.size (w1.heap.size + 1)).toArray 84)) (by simp)
    rwa [World.size_alloc] at this
  have hb1 : Blk (((w1.alloc (.map #[] 0)).alloc (.map #[] 0)).alloc (.cells (chC (rdZ s.page s.n) g w1.heap.size (w1.heap.size + 1)).toArray 84)) (w1.heap.size + 1 + 1) 84 (chC (rdZ s.page s.n) g w1.heap.size (w1.heap.size + 1)) := by
    have := Blk.new ((w1.alloc (.map #[] 0)).alloc (.map #[] 0)) 84 (chC (rdZ s.page s.n) g w1.heap.size (w1.heap.size + 1))
    rwa [World.size_alloc, World.size_alloc] at this
  have hz1 := HF1.out.size
  show Code.wp _ _ _ _ (((w1.alloc (.map #[] 0)).alloc (.map #[] 0)).alloc (.cells (chC (rdZ s.page s.n) g w1.heap.size (w1.heap.size + 1)).toArray 84))
  generalize ((w1.alloc (.map #[] 0)).alloc (.map #[] 0)).alloc (.cells (chC (rdZ s.page s.n) g w1.heap.size (w1.heap.size + 1)).toArray 84) = w2 at *
  obtain ⟨bn, hbn⟩ : ∃ bn, bn = w1.heap.size := ⟨_, rfl⟩
  rw [← hbn] at hm1 hm2 hb1 hz1 ⊢
  have hlt2 := hb1.lt
  have hgb2 : gb ≠ bn + 1 + 1 := fun e => by
    have := at_blk_lt HV.out (by rw [HPL.out]; omega)
    omega
  have hge := HGB.out
  have HLT := Lib.hid hlt2; have HZ1 := Lib.hid hz1
  have HM1 := Lib.hid hm1; have HM2 := Lib.hid hm2; have HFW := Lib.hid hfw
  have hb1' := hb1.fr (w' := w2.drew) ((Fr.refl [] w2).drew) (by simp)
  have HRS := Lib.hid (read_sp hb1' (HV.out.fr (hfw.trans ((Fr.refl [] w2).drew) (by simp)) (by simp)) hgb2 HPL.out (by
    rcases HMK.out with h | h
    · exact .inl h
    · exact .inr h) (by rw [rdC_begin]; exact HN1.out))
  have hst2 : w2.drew.cell? ⟨st, 0, none⟩ = some (.pointer (some ⟨g, 0, none⟩)) := fr_keep ((Fr.refl [] w2).drew) (fr_keep hfw hst1)
  have hstn : st ≠ bn + 1 + 1 := fun e => by
    have h1 : st < w1.heap.size := cell_lt hst1
    omega
  have HSTN := Lib.hid hstn; have HBN := Lib.hid hbn
  clear hm1 hm2 hb1 hfw hgb2 hge hst1 hstn hlt2 hz1 hb1' hbn hmm
  refine wp_region_K (fun W => W.cell? ⟨st, 0, none⟩ = some (.pointer (some ⟨g, 0, none⟩)) ∧ True) [0, 1, 2, 3, 5, 6, 7, 8, 9, 10, 11, 12, 13, 14, 15, 17, 18] (by kernel_rfl) ?_
  refine wpAnyK_take (i := 0) (some 35) ?vq1_0 rfl rfl (by kernel_rfl) (fun _ _ _ h => h) ⟨hst2, trivial⟩ (.inl ⟨rfl, fun W hW => ?yq1_0⟩) ?_
  case yq1_0 => (obtain ⟨q0, _⟩ := hW; go_simp) <;> with_reducible rfl
  simp only [nrm]
  refine wpAnyK_take (i := 1) (some 36) ?vq1_1 rfl rfl (by kernel_rfl) (fun _ _ _ h => h) ⟨hst2, trivial⟩ (.inl ⟨rfl, fun W hW => ?yq1_1⟩) ?_
  case yq1_1 => (obtain ⟨q0, _⟩ := hW; go_simp) <;> with_reducible rfl
  simp only [nrm]
  refine wpAnyK_take (i := 2) (some 37) ?vq1_2 rfl rfl (by kernel_rfl) (fun _ _ _ h => h) ⟨hst2, trivial⟩ (.inl ⟨rfl, fun W hW => ?yq1_2⟩) ?_
  case yq1_2 => (obtain ⟨q0, _⟩ := hW; go_simp) <;> with_reducible rfl
  simp only [nrm]
  refine wpAnyK_take (i := 3) (some 38) ?vq1_3 rfl rfl (by kernel_rfl) (fun _ _ _ h => h) ⟨hst2, trivial⟩ (.inl ⟨rfl, fun W hW => ?yq1_3⟩) ?_
  case yq1_3 => (obtain ⟨q0, _⟩ := hW; go_simp) <;> with_reducible rfl
  simp only [nrm]
  refine wpAnyK_strong (S1 := fun W => W.cell? ⟨st, 0, none⟩ = some (.pointer (some ⟨g, 0, none⟩)) ∧ W.cell? ⟨bn + 1 + 1, 0, none⟩ = some (.int .i64 (((beginC s.page s.n).next : Nat) : Int))) (fun W h => ⟨h.1, trivial⟩) _ ?_
  refine wpAnyK_step (j := 4) (some 39) rfl rfl (by kernel_rfl) rfl fun K hK => ?_
  refine wp_call_f (l := [.tmp 37, .tmp 38]) rfl [.pointer (some ⟨bn + 1 + 1, 0, none⟩), v] rfl (enter_spread _) (HRS.out.mono ?_)
  rintro e w3 ⟨rfl, hb3, hf3⟩
  rw [rdC_begin] at hb3
  have hst3 := fr_keepS hf3 (by simpa using HSTN.out) hst2
  have hn3 := hb3.at_ (i := 0) (v := .int .i64 (((beginC s.page s.n).next : Nat) : Int)) rfl
  refine ⟨_, rfl, hK _ _ (fun _ => ⟨hst3, hn3⟩) ?_⟩
  simp only [nrm]
  clear hK HRS
  refine wpAnyK_take (i := 5) (some 40) ?vq1_5 rfl rfl (by kernel_rfl) (fun _ _ _ h => h) ⟨hst3, hn3⟩ (.inl ⟨rfl, fun W hW => ?yq1_5⟩) ?_
  case yq1_5 => (obtain ⟨q0, q1⟩ := hW; go_simp) <;> with_reducible rfl
  simp only [nrm]
  refine wpAnyK_take (i := 6) (some 41) ?vq1_6 rfl rfl (by kernel_rfl) (fun _ _ _ h => h) ⟨hst3, hn3⟩ (.inl ⟨rfl, fun W hW => ?yq1_6⟩) ?_
  case yq1_6 => (obtain ⟨q0, q1⟩ := hW; go_simp) <;> with_reducible rfl
  simp only [nrm]
  refine wpAnyK_take (i := 7) (some 42) ?vq1_7 rfl rfl (by kernel_rfl) (fun _ _ _ h => h) ⟨hst3, hn3⟩ (.inl ⟨rfl, fun W hW => ?yq1_7⟩) ?_
  case yq1_7 => (obtain ⟨q0, q1⟩ := hW; go_simp) <;> with_reducible rfl
  simp only [nrm]
  refine wpAnyK_take (i := 8) (some 43) ?vq1_8 rfl rfl (by kernel_rfl) (fun _ _ _ h => h) ⟨hst3, hn3⟩ (.inl ⟨rfl, fun W hW => ?yq1_8⟩) ?_
  case yq1_8 => (obtain ⟨q0, q1⟩ := hW; go_simp) <;> with_reducible rfl
  simp only [nrm]
  refine wpAnyK_take (i := 9) (some 44) ?vq1_9 rfl rfl (by kernel_rfl) (fun _ _ _ h => h) ⟨hst3, hn3⟩ (.inl ⟨rfl, fun W hW => ?yq1_9⟩) ?_
  case yq1_9 => (obtain ⟨q0, q1⟩ := hW; go_simp) <;> with_reducible rfl
  simp only [nrm]
  refine wpAnyK_take (i := 10) (some 45) ?vq1_10 rfl rfl (by kernel_rfl) (fun _ _ _ h => h) ⟨hst3, hn3⟩ (.inl ⟨rfl, fun W hW => ?yq1_10⟩) ?_
  case yq1_10 => (obtain ⟨q0, q1⟩ := hW; go_simp) <;> with_reducible rfl
  simp only [nrm]
  refine wpAnyK_take (i := 11) (some 46) ?vq1_11 rfl rfl (by kernel_rfl) (fun _ _ _ h => h) ⟨hst3, hn3⟩ (.inl ⟨rfl, fun W hW => ?yq1_11⟩) ?_
  case yq1_11 => (obtain ⟨q0, q1⟩ := hW; go_simp) <;> with_reducible rfl
  simp only [nrm]
  refine wpAnyK_take (i := 12) (some 47) ?vq1_12 rfl rfl (by kernel_rfl) (fun _ _ _ h => h) ⟨hst3, hn3⟩ (.inl ⟨rfl, fun W hW => ?yq1_12⟩) ?_
  case yq1_12 => (obtain ⟨q0, q1⟩ := hW; go_simp) <;> with_reducible rfl
  simp only [nrm]
  refine wpAnyK_take (i := 13) (some 48) ?vq1_13 rfl rfl (by kernel_rfl) (fun _ _ _ h => h) ⟨hst3, hn3⟩ (.inl ⟨rfl, fun W hW => ?yq1_13⟩) ?_
  case yq1_13 => (obtain ⟨q0, q1⟩ := hW; go_simp) <;> with_reducible rfl
  simp only [nrm]
  refine wpAnyK_take (i := 14) (some 49) ?vq1_14 rfl rfl (by kernel_rfl) (fun _ _ _ h => h) ⟨hst3, hn3⟩ (.inl ⟨rfl, fun W hW => ?yq1_14⟩) ?_
  case yq1_14 => (obtain ⟨q0, q1⟩ := hW; go_simp) <;> with_reducible rfl
  simp only [nrm]
  refine wpAnyK_take (i := 15) (some 50) ?vq1_15 rfl rfl (by kernel_rfl) (fun _ _ _ h => h) ⟨hst3, hn3⟩ (.inl ⟨rfl, fun W hW => ?yq1_15⟩) ?_
  case yq1_15 => (obtain ⟨q0, q1⟩ := hW; go_simp) <;> with_reducible rfl
  simp only [nrm]
  have hf3' : Fr [] w w3 := by
    have h1 := (HF1.out.trans HFW.out (by simp)).drew
    refine h1.trans hf3 fun q hq => .inr ?_
    obtain rfl := List.mem_singleton.1 hq
    have := HZ1.out
    omega
  refine wpAnyK_stepg (j := 16) (some 51) rfl rfl (by kernel_rfl) rfl fun K hK => ?_
  refine wp_call_f (l := [.tmp 50]) rfl [.pointer (some ⟨g, 0, none⟩)] rfl (enter_pages _) ((pages_Y (HP.out.stay hf3')).mono ?_)
  rintro e w4 ⟨rfl, rfl⟩
  refine ⟨_, rfl, hK _ _ (fun _ => ⟨hst3, hn3⟩) ?_⟩
  simp only [nrm]
  clear hK
  have hle : ¬ ((s.n : Nat) : Int) < (((beginC s.page s.n).next : Nat) : Int) := by have := HN2.out; omega
  refine wpAnyK_take (i := 17) (some 52) ?vq1_17 rfl rfl (by kernel_rfl) (fun _ _ _ h => h) ⟨hst3, hn3⟩ (.inl ⟨rfl, fun W hW => ?yq1_17⟩) ?_
  case yq1_17 => (obtain ⟨q0, q1⟩ := hW; go_simp) <;> with_reducible rfl
  simp only [nrm]
  refine wpAnyK_take (i := 18) (some 53) ?vq1_18 rfl rfl (by kernel_rfl) (fun _ _ _ h => h) ⟨hst3, hn3⟩ (.inl ⟨rfl, fun W hW => ?yq1_18⟩) ?_
  case yq1_18 => (obtain ⟨q0, q1⟩ := hW; go_simp) <;> with_reducible rfl
  simp only [nrm]
  refine wpAnyK_done (by kernel_rfl) ?_ _
  have hz3 := hf3.size
  have HX := Lib.hid (HQ.out _ _ ⟨bn + 1 + 1, bn, bn + 1, rfl, ⟨hf3', by have := HZ1.out; omega, HZ1.out, by have := HZ1.out; omega, by omega, hb3, ⟨[], (HM1.out.fr ((Fr.refl [] _).drew) (by simp)).fr hf3 (by simp; omega), by rw [(begin_pg s.page s.n).2.2.1]; trivial⟩, ⟨[], (HM2.out.fr ((Fr.refl [] _).drew) (by simp)).fr hf3 (by simp), by rw [(begin_pg s.page s.n).2.2.2.1]; trivial⟩, fun q hq => hq.2, HWF.out⟩⟩)
  clear hst3 hn3 hb3 hf3 hf3' hst2
  go_wp2_with fail
  exact HX.out
end
end Go.Proofs.YtpjbdpepofnleaaGreat
end
