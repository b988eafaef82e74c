/-
  Joined by join.py: Oa Ob
-/
import Derived.Lib.Bytealg
import Derived.Lib.BytesEntry
import Derived.Laws.Externs
import Derived.Lib.LazyBuf
import Derived.Shelf.Spec.SlicesInsertGrow
import Derived.Test.YtpjbdpepofnleaaGreatJrg7
section
namespace Go.Proofs.YtpjbdpepofnleaaGreat
open Go.RowKit Go.Sort Go.Shelf
theorem bytesOf_at {w : World} {v : Value} {bs : List UInt8} {g : Nat} (h : BytesAt w v bs g) : (Extern.Bytes.bytesOf v).run Tryz.prog w = .ok ⟨bs.toArray⟩ w := by
  obtain ⟨A, c, off, rfl, hc, hb⟩ := h
  have load : ∀ (l : List UInt8) (a : Addr) (acc : ByteArray), (∀ j x, l[j]? = some x → w.cell? (a.add j) = some (B8 x)) → (Extern.Bytes.loadBytes a l.length acc).run Tryz.prog w = .ok ⟨acc.data ++ l.toArray⟩ w := by
    intro l
    induction l with
    | nil => intro a acc _; simp [Extern.Bytes.loadBytes, Sem.run_pure]
    | cons x l ih =>
      intro a acc h
      have h0 := h 0 x rfl
      rw [show a.add 0 = a from by cases a; simp [Addr.add]] at h0
      have hx : (UInt8.ofNat x.toNat) = x := by simp
      have ih' := ih (a.add 1) (acc.push x) (fun j y hj => by
        have := h (j + 1) y (by simpa using hj)
        rwa [show a.add (j + 1) = (a.add 1).add j by rw [Addr.add_add, Nat.add_comm]] at this)
      unfold B8 at h0
      simp only [List.length_cons, Extern.Bytes.loadBytes, Sem.run_bind, run_load, h0, Result.andThen, Int.toNat_natCast]
      rw [show x.toNat.toUInt8 = x from hx, ih']
      simp [ByteArray.push]
  cases A with
  | none =>
    have h0 : bs = [] := by
      cases bs with
      | nil => rfl
      | cons x xs => have := (hb (by simp)).1; cases this
    subst h0
    rfl
  | some a =>
    have := load bs a .empty (fun j x hj => by
      have h0 : 0 < bs.length := by have := (List.getElem?_eq_some_iff.1 hj).1; omega
      obtain ⟨ha, hcell⟩ := hb h0
      injection ha with ha
      subst ha
      rw [Addr.add_mid]
      exact hcell j (B8 x) (by rw [bcells_at, hj]; rfl))
    show (Extern.Bytes.loadBytes a bs.length .empty).run Tryz.prog w = _
    rw [this]
    have e : ByteArray.empty.data = #[] := rfl
    rw [e, Array.empty_append]
theorem run_compare {w : World} {va vb : Value} {a b : List UInt8} {ga gb : Nat} (ha : BytesAt w va a ga) (hb : BytesAt w vb b gb) :
    (Extern.BytealgCompare.compare #[va, vb]).run Tryz.prog w = .ok (.int .i64 (Lib.compareBytes a b)) w := by
  change Sem.run Tryz.prog (do pure (goInt (Extern.BytealgCompare.cmp (← Extern.Bytes.bytesOf va) (← Extern.Bytes.bytesOf vb)))) w = _
  simp only [Sem.run_bind, bytesOf_at ha, bytesOf_at hb, Sem.run_pure, Result.andThen]
  rw [Lib.cmp_eq]
  rfl
set_option maxRecDepth 100000 in
theorem bytes_equal {w : World} {va vb : Value} {a b : List UInt8} {ga gb : Nat} (ha : BytesAt w va a ga) (hb : BytesAt w vb b gb) :
    Calls Tryz.prog 79 #[va, vb] w fun e w' => e = .returned (.bool (decide (a = b))) ∧ w = w' := by
  have c1 := run_string_of (P := Tryz.prog) (src := 23) (dst := 9) Tryz.underlying23 Tryz.underlying5 Tryz.underlying9 ha
  have c2 := run_string_of (P := Tryz.prog) (src := 23) (dst := 9) Tryz.underlying23 Tryz.underlying5 Tryz.underlying9 hb
  have e : decide (a = b) = (a == b) := by rw [Bool.eq_iff_iff]; simp
  clear ha hb
  go_enter Tryz.func79, Tryz.ntmps79
  go_wp2
  go_ret
  exact ⟨by rw [e]; rfl, rfl⟩
set_option maxRecDepth 100000 in
theorem bytes_compare {w : World} {va vb : Value} {a b : List UInt8} {ga gb : Nat} (ha : BytesAt w va a ga) (hb : BytesAt w vb b gb) :
    Calls Tryz.prog 78 #[va, vb] w fun e w' => e = .returned (.int .i64 (Lib.compareBytes a b)) ∧ w = w' := by
  have HA := Lib.hid ha; have HB := Lib.hid hb
  clear ha hb
  go_enter Tryz.func78, Tryz.ntmps78
  go_wp2
  rw [run_callFunc_extern Tryz.func105 (by kernel_rfl) (by kernel_rfl) (by kernel_rfl) (e := Extern.BytealgCompare.compare) (by kernel_rfl), run_compare HA.out HB.out]
  simp only [Result.andThen]
  rw [Oper.upon_value]
  go_wp2
  go_ret
  exact ⟨rfl, rfl⟩
theorem fr_keep {w w' : World} (h : Fr [] w w') {p : Addr} {v : Value} (hc : w.cell? p = some v) : w'.cell? p = some v := by
  rw [h.cell (World.block_lt_of_cell? w _ hc) (by simp)]
  exact hc
theorem BytesAt.of_row {w : World} {b : Nat} {e : TypeId} {v : Value} {bs : List UInt8} {n : Nat} (hn : n = bs.length) (h : w.ownsRow b e 1 v n (bcells bs)) (hb : b ≤ w.heap.size) : ∃ g, BytesAt w v bs g ∧ b ≤ g := by
  subst hn
  rcases h.2 with ⟨rfl, h0⟩ | ⟨g, cap, cur, rfl, hg, hh, hn, hc, hs, ht⟩
  · have : bs = [] := List.length_eq_zero_iff.1 h0
    subst this
    exact ⟨w.heap.size, BytesAt.nil _ _, hb⟩
  · refine ⟨g, ⟨_, cap, 0, rfl, hn, fun _ => ⟨rfl, fun j u hj => ?_⟩⟩, hg⟩
    rw [Nat.zero_add]
    have := World.ownsRow.cells h (g := g) rfl j u hj
    rwa [Addr.add_mid, Nat.zero_add] at this
theorem info_u8z : (Tryz.prog.info? 5).map (fun i => (i.zero, i.size, i.bytes)) = some (some (.int .u8 0), 1, 1) := by kernel_rfl
theorem info_it : (Tryz.prog.info? 77).map (fun i => (i.zero, i.size, i.bytes)) = some (some (.agg #[.slice none 0 0, .slice none 0 0, .int .i64 0]), 3, 56) := by kernel_rfl
theorem info_get {i : Option TypeInfo} {z : Option Value} {s b : Nat} (h : i.map (fun i => (i.zero, i.size, i.bytes)) = some (z, s, b)) : ∃ t, i = some t ∧ t.zero = z ∧ t.size = s ∧ t.bytes = b := by
  obtain ⟨t, h1, h2⟩ := Option.map_eq_some_iff.1 h
  simp only [Prod.mk.injEq] at h2
  exact ⟨t, h1, h2.1, h2.2.1, h2.2.2⟩
set_option maxRecDepth 100000 in
set_option maxHeartbeats 1000000 in
/-- bytes.Clone: the same bytes in a new block. -/
theorem bytes_clone {w : World} {v : Value} {bs : List UInt8} {g : Nat} (h : BytesAt w v bs g) (hbig : bs.length ≤ 1099511627776) :
    Calls Tryz.prog 32 #[v] w fun e w' => ∃ v', e = .returned v' ∧ (∃ g', BytesAt w' v' bs g' ∧ w.heap.size ≤ g') ∧ Fr [] w w' := by
  have hn : ∀ (w : World) (a : Option Addr) (n c : Nat), (binOp .eql 23 (.slice a n c) (.slice none 0 0)).run Tryz.prog w = .ok (.bool a.isNone) w := fun w a n c => Lib.run_eql_slice_nil w _ _ a n c 0 0 Tryz.underlying23
  obtain ⟨A, c, off, rfl, hc, hb⟩ := h
  have HB := Lib.hid hb; clear hb
  obtain ⟨ti, hti, hz, hs, hby⟩ := info_get info_u8z
  cases A with
  | none =>
    have h0 : bs = [] := by
      cases bs with
      | nil => rfl
      | cons x xs => have := (HB.out (by simp)).1; cases this
    subst h0
    go_enter Tryz.func32, Tryz.ntmps32
    go_wp2
    go_ret
    exact ⟨_, rfl, ⟨w.heap.size, BytesAt.nil _ _, Nat.le_refl _⟩, Fr.refl _ _⟩
  | some ad =>
    have hcells : ∀ j u, (bcells bs)[j]? = some u → w.cell? (ad.add j) = some u := fun j u hj => by
      have h0 : 0 < bs.length := by have := (List.getElem?_eq_some_iff.1 hj).1; rw [bcells_len] at this; omega
      obtain ⟨ha, hcell⟩ := HB.out h0
      injection ha with ha
      subst ha
      rw [Addr.add_mid]
      exact hcell j u hj
    have hlt : ∀ j u, (bcells bs)[j]? = some u → (ad.add j).block < w.heap.size := fun j u hj => World.block_lt_of_cell? w _ (hcells j u hj)
    have HC := Lib.hid hcells; have HL := Lib.hid hlt
    clear hcells hlt
    go_enter Tryz.func32, Tryz.ntmps32
    go_wp2_with ((at_builtin; refine wpList_append_own _ rfl _ _ 23 rfl w.heap.size 5 ti (.int .u8 0) 1 1 Tryz.underlying23 hti hz hs hby rfl (by omega) _ 0 [] rfl ?own ad bs.length c (bcells bs) rfl (by rw [bcells_len]; omega) (fun j u hj => fr_keep ((Fr.refl [] w).alloc _) (HC.out j u hj)) (fun u hu => bcells_one _ u hu) (by unfold maxLen; omega) (by omega) (by simp) ?_))
    case own => exact World.ownsRow_made w #[] 0 (Nat.le_refl _) (by unfold maxLen; omega) rfl
    intro v' w' h1 h2 h3
    have hf : Fr [] w w' := ((Fr.refl [] w).alloc _).grown h2 (fun g hg => .inr (by simp [Value.ownBlock] at hg; omega))
    have HR := Lib.hid (BytesAt.of_row (n := bs.length) (bs := bs) rfl h1 hf.size)
    have HF := Lib.hid hf
    clear h1 h2 h3 hf
    go_wp2
    go_ret
    exact ⟨_, rfl, HR.out, HF.out⟩
def Three (cs : List Value) : Prop := ∀ u ∈ cs, u.oneCell' = true
set_option maxRecDepth 100000 in
set_option maxHeartbeats 1000000 in
/-- slices.Clone of items: the same cells in a new block. -/
theorem items_clone {w : World} {n g : Nat} {v : Value} {cs : List Value} (h : SlAt w v n cs g) (hl : cs.length = n * 3) (h1 : Three cs) (hn : n ≤ 65536) :
    Calls Tryz.prog 83 #[v] w fun e w' => ∃ v', e = .returned v' ∧ w'.ownsRow w.heap.size 77 3 v' n cs ∧ Fr [] w w' := by
  have hq : ∀ (w : World) (a : Option Addr) (n c : Nat), (binOp .eql 86 (.slice a n c) (.slice none 0 0)).run Tryz.prog w = .ok (.bool a.isNone) w := fun w a n c => Lib.run_eql_slice_nil w _ _ a n c 0 0 Tryz.underlying86
  obtain ⟨ti, hti, hz, hs, hby⟩ := info_get info_it
  obtain ⟨A, c, off, rfl, hc, hcell⟩ := h
  have H1 := Lib.hid h1
  cases A with
  | none =>
    obtain rfl : n = 0 := by
      rcases Nat.eq_zero_or_pos n with h0 | h0
      · exact h0
      · have := (hcell h0).1; cases this
    have hcs0 : cs = [] := List.length_eq_zero_iff.1 (by omega)
    subst hcs0
    clear h1 hcell
    go_enter Tryz.func83, Tryz.ntmps83
    go_wp2
    go_ret
    exact ⟨_, rfl, own_nil _ _ _ _, Fr.refl _ _⟩
  | some ad =>
    have HC : Hid (∀ (j : Nat) (u : Value), cs[j]? = some u → w.cell? (ad.add j) = some u) := Lib.hid fun j u hj => by
      have h0 : 0 < n := by have := (List.getElem?_eq_some_iff.1 hj).1; omega
      obtain ⟨ha, hc2⟩ := hcell h0
      injection ha with ha
      subst ha
      rw [Addr.add_mid]
      exact hc2 j u hj
    clear h1 hcell
    go_enter Tryz.func83, Tryz.ntmps83
    go_wp2_with (at_builtin; refine wpList_append_own _ rfl _ _ 86 rfl w.heap.size 77 ti (.agg #[.slice none 0 0, .slice none 0 0, .int .i64 0]) 3 56 Tryz.underlying86 hti hz hs hby rfl (by omega) _ 0 [] rfl ?own ad n c cs rfl (by omega) (fun j u hj => fr_keep ((Fr.refl [] w).alloc _) (HC.out j u hj)) H1.out (by unfold maxLen; omega) (by omega) (by simp) ?_)
    case own => exact World.ownsRow_made w #[] 0 (Nat.le_refl _) (by unfold maxLen; omega) rfl
    intro v' w' h1 h2 h3
    have hf : Fr [] w w' := ((Fr.refl [] w).alloc _).grown h2 (fun g hg => .inr (by simp [Value.ownBlock] at hg; omega))
    have HR : Hid (w'.ownsRow w.heap.size 77 3 v' n cs) := Lib.hid (by simpa using h1)
    have HF := Lib.hid hf
    clear h1 h2 h3 hf
    go_wp2
    go_ret
    exact ⟨_, rfl, HR.out, HF.out⟩
theorem Fr.grow {S : List Nat} {w w' : World} (h : Fr S w w') (os : Array Obj) : Fr S w (grow w' os) :=
  ⟨h.os, h.tape, h.output, by show w.heap.size ≤ (w'.heap ++ os).size; rw [Array.size_append]; have := h.size; omega, fun k hk hn => by
    show (w'.heap ++ os)[k]? = _
    rw [Array.getElem?_append_left (by have := h.size; omega)]
    exact h.block k hk hn⟩
theorem search_fr {w : World} {g : Nat} {cb : Array Value} {n : Nat} (p : Nat → Bool) (eg : ∀ args w, (callFunc g args).run Tryz.prog w = .ok (.enter g args) w) (hn : n ≤ 65536)
    (hf : ∀ w' : World, Fr [] w w' → ∀ i, i < n → Calls Tryz.prog g (#[.int .i64 i] ++ cb) w' fun e w'' => e = .returned (.bool (p i)) ∧ ∃ q, w'' = w'.drewN q)
    (hm : ∀ a b, a ≤ b → b < n → p a = true → p b = true) :
    Calls Tryz.prog 76 #[.int .i64 n, .func (.func g) #[] cb] w fun e w' => e = .returned (.int .i64 ((List.range n).countP (fun i => !p i) : Nat)) ∧ Fr [] w w' := by
  have h := Any.sort_Search Tryz.searchA g cb n p w eg (by omega) (fun m os i hi => (hf _ (((Fr.refl [] w).drewN m).grow os) i hi).mono fun e w' ⟨he, q, hq⟩ => ⟨he, q, #[], by rw [hq, grow_empty]⟩) hm
  exact Calls.mono h fun e w' ⟨he, q, os, hq⟩ => ⟨he, by rw [hq]; exact ((Fr.refl [] w).drewN q).grow os⟩
end Go.Proofs.YtpjbdpepofnleaaGreat
end
section
namespace Go.Proofs.YtpjbdpepofnleaaGreat
open Go.RowKit Go.Sort Go.Shelf Go.Lib
section
variable {P : Program} {w : World}
theorem run_copy_k {dT sT ty elem t : TypeId} {k g off dLen dCap sLen sCap : Nat} {a : Addr} {cur cs : List Value} (hu : P.underlying dT = some (.slice elem)) (hk : (P.info? elem).map (·.size) = some k) (hg : Blk w g t cur)
    (hn : cs.length = Nat.min sLen dLen * k) (hsrc : ∀ j v, cs[j]? = some v → w.cell? (a.add j) = some v) (hfit : off + cs.length ≤ cur.length) (h1 : ∀ v ∈ cs, v.oneCell' = true) :
    (Builtin.copy_ #[dT, sT] ty #[.slice (some ⟨g, off, none⟩) dLen dCap, .slice (some a) sLen sCap]).run P w = .ok (goInt (Nat.min sLen dLen)) (w.setRow g (splice cur off cs).toArray) := by
  have hl := run_loadCells_list (P := P) w a cs hsrc
  have hst := run_storeCells_at P g off t cs 0 cur.toArray w hg (by simpa using hfit) h1
  cases hq : P.info? elem with
  | none => simp [hq] at hk
  | some i =>
    have hi : i.size = k := by simpa [hq] using hk
    rw [hn] at hl
    simp [Builtin.copy_, run_underlying hu, Builtin.lenOf, Builtin.firstCells, sizeOf, typeInfo, hq, hi, hl, hst, splice]
theorem run_clear_k {t ty elem bt : TypeId} {g off n c : Nat} {cur zs : List Value} {z : Value} (hu : P.underlying t = some (.slice elem)) (hz : (P.info? elem).map (·.zero) = some (some z)) (hg : Blk w g bt cur) (hn : 0 < n)
    (hzs : (Builtin.zeroCells z.cells n).toList = zs) (hfit : off + zs.length ≤ cur.length) (h1 : ∀ v ∈ zs, v.oneCell' = true) :
    (Builtin.clear_ #[t] ty #[.slice (some ⟨g, off, none⟩) n c]).run P w = .ok (.tuple #[]) (w.setRow g (splice cur off zs).toArray) := by
  have hst := run_storeCells_at P g off bt zs 0 cur.toArray w hg (by simpa using hfit) h1
  obtain ⟨m, rfl⟩ : ∃ m, n = m + 1 := ⟨n - 1, by omega⟩
  cases hq : P.info? elem with
  | none => simp [hq] at hz
  | some i =>
    have hi : i.zero = some z := by simpa [hq] using hz
    simp [Builtin.clear_, run_underlying hu, zeroValue, typeInfo, hq, hi, hzs, hst, splice, Result.andThen]
theorem step_append_run {ops : Array Oper} {o : Oper} {a : Act} {w : World} {K : Act → World → Prop} {Q : Exit → Act → World → Prop} {E : Prop}
    (hg : o.guard = none) (d x : Operand) (dT sT : TypeId) (hop : o.op = Op.call { callee := Callee.builtin Builtin.append, args := #[d, x], argTypes := #[dT, sT] })
    (v u : Value) (hd : a.eval d = v) (hx : a.eval x = u) {v' : Value} {w' : World} (hr : (Builtin.append_ #[dT, sT] o.type #[v, u]).run P w = .ok v' w') (hK : K (a.put o.dst v') w') :
    if Region.wanted o (yielded ops a.tmps) = true then Oper.wp P o a w K Q else E := by
  have hw : Region.wanted o (yielded ops a.tmps) = true := by simp [Region.wanted, hg]
  rw [if_pos hw]
  unfold Oper.wp
  simp [execOp, hop, resolve, invoke, builtin, hd, hx, hr, Result.andThen]
  exact hK
theorem wpList_clear_run {ops : Array Oper} {rest : List Oper} {o : Oper} {a : Act} {Q : Exit → Act → World → Prop} (hgd : o.guard = none) (d : Operand) (t : TypeId)
    (ho : o.op = .call { callee := .builtin .clear, args := #[d], argTypes := #[t] }) (v : Value) (hd : a.eval d = v) {v' : Value} {w' : World}
    (hr : (Builtin.clear_ #[t] o.type #[v]).run P w = .ok v' w') (h : wpList P ops Q rest (a.put o.dst v') w') : wpList P ops Q (o :: rest) a w := by
  refine wpList_plain hgd fun _ hK => ?_
  unfold Oper.wp execOp
  simp only [ho, resolve, invoke, builtin, Sem.run_bind, Sem.run_pure, Result.andThen_ok, List.map_toArray, List.map_cons, List.map_nil, hd, hr]
  exact hK _ _ h
end
theorem size_it : (Tryz.prog.info? 77).map (·.size) = some 3 := by kernel_rfl
theorem zero_it : (Tryz.prog.info? 77).map (·.zero) = some (some (.agg #[.slice none 0 0, .slice none 0 0, .int .i64 0])) := by kernel_rfl
def zit : List Value := [.slice none 0 0, .slice none 0 0, .int .i64 0]
theorem splice_len {cur cs : List Value} {off : Nat} (h : off + cs.length ≤ cur.length) : (splice cur off cs).length = cur.length := by unfold splice; simp; omega
theorem splice_take {cur cs : List Value} {off m : Nat} (h : m ≤ off) (h2 : off ≤ cur.length) : (splice cur off cs).take m = cur.take m := by
  unfold splice
  rw [List.take_append_of_le_length (by rw [List.length_take]; omega), List.take_take, Nat.min_eq_left h]
theorem splice_take2 {cur cs : List Value} {off : Nat} (h : off ≤ cur.length) : (splice cur off cs).take (off + cs.length) = cur.take off ++ cs := by
  unfold splice
  rw [← List.append_assoc, List.take_left' (by rw [List.length_append, List.length_take]; omega)]
set_option maxRecDepth 100000 in
set_option maxHeartbeats 2000000 in
/-- slices.Delete of one item. -/
theorem items_delete {w : World} {b n i : Nat} {v : Value} {cs : List Value} (h : w.ownsRow b 77 3 v n cs) (h1 : Three cs) (hn : n ≤ 65536) (hi : i < n) :
    Calls Tryz.prog 80 #[v, .int .i64 i, .int .i64 ((i : Int) + 1)] w fun e w' => ∃ v', e = .returned v' ∧ w'.ownsRow b 77 3 v' (n - 1) (cs.take (3 * i) ++ cs.drop (3 * i + 3)) ∧ v'.ownBlock = v.ownBlock ∧ Fr v.ownBlock.toList w w' := by
  rcases h.2 with ⟨rfl, h0⟩ | ⟨g, cap, cur, rfl, hg, hh, hnc, hcm, hcs, ht⟩
  · omega
  · obtain ⟨m, rfl⟩ : ∃ m, n = m + 1 := ⟨n - 1, by omega⟩
    have hl : cs.length = (m + 1) * 3 := h.1
    unfold maxLen at hcm
    have hB : Blk w g 77 cur.toList := hh
    have HB := Lib.hid hB
    clear h hh hB
    go_enter Tryz.func80, Tryz.ntmps80
    obtain ⟨ti, hti, hz, hs, hby⟩ := info_get info_it
    have hcur : cur.toList.length = cap * 3 := by simpa using hcs
    have hnews : ∀ (j : Nat) (u : Value), (cs.drop (3 * i + 3))[j]? = some u → cur.toList[(i + 1) * 3 + j]? = some u := fun j u hj => by
      rw [List.getElem?_drop, ← ht, List.getElem?_take] at hj
      split at hj
      · rwa [show 3 * i + 3 + j = (i + 1) * 3 + j by omega] at hj
      · cases hj
    have hap : ∀ (W : World) (ty : TypeId) (q : Nat), (m = i ∨ q = (i + 1) * 3) → Blk W g 77 cur.toList → (Builtin.append_ #[86, 86] ty #[.slice (some ⟨g, 0, none⟩) i cap, .slice (some ⟨g, q, none⟩) (m + 1 - (i + 1)) (cap - (i + 1))]).run Tryz.prog W = .ok (.slice (some ⟨g, 0, none⟩) m cap) (W.setRow g (splice cur.toList (i * 3) (cs.drop (3 * i + 3))).toArray) := fun W ty q hq hW => by
      have := run_append_room (P := Tryz.prog) (w := W) 86 ty 77 ti Tryz.underlying86 hti g i cap cur hW ⟨g, q, none⟩ (m + 1 - (i + 1)) (cap - (i + 1)) (cs.drop (3 * i + 3)) (by rw [hs, List.length_drop]; omega) (fun j u hj => by
        rcases hq with hq | rfl
        · rw [List.drop_of_length_le (by omega)] at hj; cases hj
        · rw [Addr.add_mid]; exact hW.at_ (hnews j u hj)) (fun u hu => h1 u (List.mem_of_mem_drop hu)) (by omega) (by rw [hs, List.length_drop]; simp at hcur; omega)
      rw [hs, show i + (m + 1 - (i + 1)) = m by omega] at this
      rw [this]
      unfold splice
      rw [List.append_assoc]
    obtain ⟨c2, hc2⟩ : ∃ c2, c2 = splice cur.toList (i * 3) (cs.drop (3 * i + 3)) := ⟨_, rfl⟩
    have hc2l : c2.length = cap * 3 := by rw [hc2, splice_len (by rw [List.length_drop]; omega)]; exact hcur
    have hc2t : c2.take (m * 3) = cs.take (3 * i) ++ cs.drop (3 * i + 3) := by
      have e := splice_take2 (cs := cs.drop (3 * i + 3)) (show i * 3 ≤ cur.toList.length by omega)
      rw [List.length_drop, show i * 3 + (cs.length - (3 * i + 3)) = m * 3 by omega] at e
      rw [hc2, e]
      congr 1
      rw [← ht, List.take_take, Nat.min_eq_left (by omega), Nat.mul_comm]
    rw [← hc2] at hap
    have hz3 : (Builtin.zeroCells (Value.agg #[.slice none 0 0, .slice none 0 0, .int .i64 0]).cells 1).toList = zit := by kernel_rfl
    have hcl : ∀ (W : World) (ty : TypeId) (c : Nat), Blk W g 77 c2 → (Builtin.clear_ #[86] ty #[.slice (some ⟨g, m * 3, none⟩) 1 c]).run Tryz.prog W = .ok (.tuple #[]) (W.setRow g (splice c2 (m * 3) zit).toArray) := fun W ty c hW =>
      run_clear_k Tryz.underlying86 zero_it hW (by omega) hz3 (by rw [hc2l]; show m * 3 + 3 ≤ _; omega) (by simp [zit, Value.oneCell'])
    have hfin : ∀ W : World, Fr [g] w W → Blk W g 77 (splice c2 (m * 3) zit) → W.ownsRow b 77 3 (.slice (some ⟨g, 0, none⟩) m cap) m (cs.take (3 * i) ++ cs.drop (3 * i + 3)) := fun W _ hW =>
      ⟨by rw [List.length_append, List.length_take, List.length_drop]; omega, .inr ⟨g, cap, (splice c2 (m * 3) zit).toArray, rfl, hg, hW, by omega, by unfold maxLen; omega, by rw [List.size_toArray, splice_len (by rw [hc2l]; show m * 3 + 3 ≤ _; omega), hc2l], by
        show (splice c2 (m * 3) zit).take (m * 3) = _
        rw [splice_take (Nat.le_refl _) (by omega), hc2t]⟩⟩
    have hic : i ≤ cap := by omega
    have hjn : ((i : Int) + 1).toNat = i + 1 := by omega
    have h01 : (0 : Int) ≤ (i : Int) + 1 := by omega
    have hjN : (i : Int) + 1 ≤ (m : Int) + 1 := by omega
    have mixed : Tryz.prog.follows Departure.mixedOrders = true := by kernel_rfl
    have hm1 : m ≤ m + 1 := by omega
    have hZ1 : (i : Int) ≤ (m : Int) := by omega
    have hZ2 : i ≤ m := by omega
    have hZ3 : (m : Int) ≤ (m : Int) + 1 := by omega
    have hmc : m + 1 ≤ cap := hnc
    have hmc2 : ¬ cap = m := by omega
    have hX := Lib.hid hap; have HCL := Lib.hid hcl; have HFIN := Lib.hid hfin
    have HR0 : Hid (Blk (w.drew.setRow g c2.toArray) g 77 c2) := Lib.hid (HB.out.drew.row_ c2)
    clear hap hnews hcl hfin hc2t hc2 hz3 hc2l hcur ht
    go_upto_region 5 with fail
    by_cases hlast : cap = i + 1
    · obtain rfl : m = i := by omega
      subst hlast
      go_region_law_o (refine step_append_run rfl _ _ 86 86 rfl _ _ (by simp [Act.eval, Act.put]) (by simp [Act.eval, Act.put]) (hX.out _ _ 0 (.inl rfl) HB.out.drew) ?_)
      go_wp2_with (refine wpList_clear_run rfl _ 86 rfl _ rfl (HCL.out _ _ _ HR0.out) ?_)
      go_ret
      exact ⟨_, rfl, HFIN.out _ (((Fr.refl [g] w).drew.setRow (.inl (by simp)) _).setRow (.inl (by simp)) _) (HR0.out.row_ _), rfl, by simpa [Value.ownBlock] using (((Fr.refl [g] w).drew.setRow (.inl (by simp)) _).setRow (.inl (by simp)) _)⟩
    · go_region_law_o (refine step_append_run rfl _ _ 86 86 rfl _ _ (by simp [Act.eval, Act.put]) (by simp [Act.eval, Act.put]) (hX.out _ _ ((i + 1) * 3) (.inr rfl) HB.out.drew) ?_)
      go_wp2_with (refine wpList_clear_run rfl _ 86 rfl _ rfl (HCL.out _ _ _ HR0.out) ?_)
      go_ret
      exact ⟨_, rfl, HFIN.out _ (((Fr.refl [g] w).drew.setRow (.inl (by simp)) _).setRow (.inl (by simp)) _) (HR0.out.row_ _), rfl, by simpa [Value.ownBlock] using (((Fr.refl [g] w).drew.setRow (.inl (by simp)) _).setRow (.inl (by simp)) _)⟩
theorem overlaps_apart {W : World} {vb g q lb cb : Nat} {xs cur : List Value} (hv : Blk W vb 77 xs) (hg : Blk W g 77 cur) (hne : vb ≠ g) (hc : cur ≠ []) :
    (callFunc 100 #[.slice (some ⟨vb, 0, none⟩) 1 1, .slice (some ⟨g, q, none⟩) lb cb]).run Tryz.prog W = .ok (.value (.bool false)) W := by
  have hz : ∀ w : World, (Go.sizeOf 77).run Tryz.prog w = .ok 3 w := fun w => by
    obtain ⟨i, hi1, hi2⟩ := Option.map_eq_some_iff.1 size_it
    simp [Go.sizeOf, typeInfo, go_sem, hi1, hi2]
  have hs1 : W.shape? vb = some (77, xs.length) := by
    unfold Blk at hv
    simp [World.shape?, hv]
  have hs2 : W.shape? g = some (77, cur.length) := by
    unfold Blk at hg
    simp [World.shape?, hg]
  rw [run_callFunc_extern Tryz.func100 (by kernel_rfl) (by kernel_rfl) (by kernel_rfl) (e := Extern.SlicesOverlaps.overlaps #[86, 86] #[4]) (by kernel_rfl),
    Lib.run_overlaps_apart W 86 4 77 Tryz.underlying86 3 hz ⟨vb, 0, none⟩ ⟨g, q, none⟩ 1 1 lb cb hne _ _ _ _ hs1 hs2 (by simpa using hc) (hv.free 0) (hv.free _)]
  rfl
set_option maxRecDepth 100000 in
set_option maxHeartbeats 4000000 in
/-- slices.Insert of one item. -/
theorem items_insert {w : World} {b n i vb : Nat} {v : Value} {cs xs : List Value} (h : w.ownsRow b 77 3 v n cs) (h1 : Three cs) (hn : n ≤ 65536) (hi : i ≤ n) (hb : b ≤ w.heap.size)
    (hx : Blk w vb 77 xs) (hx1 : Three xs) (hxl : xs.length = 3) (hne : v.ownBlock ≠ some vb) :
    Calls Tryz.prog 71 #[v, .int .i64 i, .slice (some ⟨vb, 0, none⟩) 1 1] w fun e w' => ∃ v', e = .returned v' ∧ w'.ownsRow b 77 3 v' (n + 1) (cs.take (3 * i) ++ (xs ++ cs.drop (3 * i))) ∧ Fr v.ownBlock.toList w w' ∧ (∀ q, v'.ownBlock = some q → v.ownBlock = some q ∨ w.heap.size ≤ q) := by
  obtain ⟨ti, hti, hz, hs, hby⟩ := info_get info_it
  have mixed : Tryz.prog.follows Departure.mixedOrders = true := by kernel_rfl
  have HH := Lib.hid h; have HX := Lib.hid hx; have HX1 := Lib.hid hx1
  have hcl : cs.length = n * 3 := h.1
  have hxc : ∀ (j : Nat) (u : Value), xs[j]? = some u → w.cell? ((⟨vb, 0, none⟩ : Addr).add j) = some u := fun j u hj => by
    rw [Addr.add_mid, Nat.zero_add]; exact hx.at_ hj
  have HXC := Lib.hid hxc
  clear hx hx1 hxc
  by_cases hin : i = n
  · subst hin
    have e : cs.take (3 * i) ++ (xs ++ cs.drop (3 * i)) = cs ++ xs := by rw [List.take_of_length_le (by omega), List.drop_of_length_le (by omega), List.append_nil]
    rw [e]
    obtain ⟨A, c, rfl, hc1, hc2⟩ := own_shape h
    clear h e
    go_enter Tryz.func71, Tryz.ntmps71
    go_wp2_with (at_builtin; refine wpList_append_lies _ rfl _ _ 86 rfl b 77 ti (.agg #[.slice none 0 0, .slice none 0 0, .int .i64 0]) 3 56 Tryz.underlying86 hti hz hs hby rfl (by omega) _ i cs rfl HH.out ⟨vb, 0, none⟩ 1 1 xs rfl (by omega) HXC.out HX1.out (by omega) (by unfold maxLen; omega) (by omega) hb w.heap.size rfl ?_)
    all_goals
      intro g cap w' k1 k2 k3 k4
      have HR := Lib.hid k1
      have HO : Hid (∀ q, (Value.slice (some ⟨g, 0, none⟩) (i + 1) cap).ownBlock = some q → (Value.slice A i c).ownBlock = some q ∨ w.heap.size ≤ q) := Lib.hid fun q hq => by
        obtain rfl : g = q := by simpa [Value.ownBlock] using hq
        rcases k3 with k3 | k3
        · exact .inl (by first | (rw [← k3]; done) | (cases A <;> simp_all [Value.ownBlock]))
        · exact .inr (by omega)
      have HF : Hid (Fr (Value.slice A i c).ownBlock.toList w w') := Lib.hid ((Fr.refl _ w).grown k2 (fun g hg => .inl (by
        have hg' : (Value.slice A i c).ownBlock = some g := by first | exact hg | (rw [← hg]; cases A <;> rfl)
        rw [hg']; simp)))
      clear k1 k2 k3 k4
      go_wp2
      go_ret
      exact ⟨_, rfl, HR.out, HF.out, HO.out⟩
  · rcases h.2 with ⟨rfl, h0⟩ | ⟨g, cap, cur, rfl, hg, hh, hnc, hcm, hcs, ht⟩
    · omega
    · unfold maxLen at hcm
      have hB : Blk w g 77 cur.toList := hh
      have hgv : vb ≠ g := fun e => hne (by rw [e]; rfl)
      have hcur : cur.toList.length = cap * 3 := by simpa using hcs
      have HB := Lib.hid hB
      have hlt := hB.lt
      have hold : ∀ (j : Nat) (u : Value), (cs.drop (3 * i))[j]? = some u → cur.toList[i * 3 + j]? = some u := fun j u hj => by
        rw [List.getElem?_drop, ← ht, List.getElem?_take] at hj
        split at hj
        · rwa [show 3 * i + j = i * 3 + j by omega] at hj
        · cases hj
      have htk : ∀ q, q ≤ n * 3 → cur.toList.take q = cs.take q := fun q hq => by rw [← ht, List.take_take, Nat.min_eq_left hq]
      clear h hh hB
      by_cases hroom : n + 1 ≤ cap
      · -- in place
        have hX1 : ∀ (W : World) (ty : TypeId) (sc dc : Nat), Blk W g 77 cur.toList → (Builtin.copy_ #[86, 86] ty #[.slice (some ⟨g, (i + 1) * 3, none⟩) (n - i) dc, .slice (some ⟨g, i * 3, none⟩) (n + 1 - i) sc]).run Tryz.prog W = .ok (goInt (Nat.min (n + 1 - i) (n - i))) (W.setRow g (splice cur.toList ((i + 1) * 3) (cs.drop (3 * i))).toArray) := fun W ty sc dc hW =>
          run_copy_k Tryz.underlying86 size_it hW (by show _ = min _ _ * 3; rw [List.length_drop, Nat.min_eq_right (by omega)]; omega) (fun j u hj => by rw [Addr.add_mid]; exact hW.at_ (hold j u hj)) (by rw [List.length_drop]; omega) (fun u hu => h1 u (List.mem_of_mem_drop hu))
        obtain ⟨c2, hc2⟩ : ∃ c2, c2 = splice cur.toList ((i + 1) * 3) (cs.drop (3 * i)) := ⟨_, rfl⟩
        have hc2l : c2.length = cap * 3 := by rw [hc2, splice_len (by rw [List.length_drop]; omega)]; exact hcur
        have hc2t : c2.take ((n + 1) * 3) = cur.toList.take ((i + 1) * 3) ++ cs.drop (3 * i) := by
          have e := splice_take2 (cs := cs.drop (3 * i)) (show (i + 1) * 3 ≤ cur.toList.length by omega)
          rw [List.length_drop, show (i + 1) * 3 + (cs.length - 3 * i) = (n + 1) * 3 by omega] at e
          rw [hc2, e]
        rw [← hc2] at hX1
        have hX2 : ∀ (W : World) (ty : TypeId) (l dc : Nat), 1 ≤ l → Blk W g 77 c2 → Blk W vb 77 xs → (Builtin.copy_ #[86, 86] ty #[.slice (some ⟨g, i * 3, none⟩) l dc, .slice (some ⟨vb, 0, none⟩) 1 1]).run Tryz.prog W = .ok (goInt (Nat.min 1 l)) (W.setRow g (splice c2 (i * 3) xs).toArray) := fun W ty l dc hl hW hV =>
          run_copy_k Tryz.underlying86 size_it hW (by show _ = min _ _ * 3; rw [Nat.min_eq_left hl]; omega) (fun j u hj => by rw [Addr.add_mid, Nat.zero_add]; exact hV.at_ hj) (by omega) HX1.out
        have hfin : ∀ W : World, Blk W g 77 (splice c2 (i * 3) xs) → W.ownsRow b 77 3 (.slice (some ⟨g, 0, none⟩) (n + 1) cap) (n + 1) (cs.take (3 * i) ++ (xs ++ cs.drop (3 * i))) := fun W hW =>
          ⟨by rw [List.length_append, List.length_append, List.length_take, List.length_drop]; omega, .inr ⟨g, cap, (splice c2 (i * 3) xs).toArray, rfl, hg, hW, hroom, by unfold maxLen; omega, by rw [List.size_toArray, splice_len (by omega), hc2l], by
            show (splice c2 (i * 3) xs).take ((n + 1) * 3) = _
            have e1 : c2.take (i * 3) = cs.take (3 * i) := by rw [hc2, splice_take (by omega) (by omega), htk _ (by omega), Nat.mul_comm]
            have e2 : c2.drop (i * 3 + xs.length) = cs.drop (3 * i) ++ cur.toList.drop ((i + 1) * 3 + (cs.drop (3 * i)).length) := by
              rw [hc2, hxl]
              unfold splice
              rw [List.drop_left' (by rw [List.length_take]; omega)]
            unfold splice
            rw [e1, e2, ← List.append_assoc, ← List.append_assoc, List.append_assoc (List.take (3 * i) cs) xs, List.take_left' (by rw [List.length_append, List.length_append, List.length_take, List.length_drop]; omega)]⟩⟩
        have HC1 := Lib.hid hX1; have HC2 := Lib.hid hX2; have HFIN := Lib.hid hfin
        have HR0 : Hid (Blk (w.drew.setRow g c2.toArray) g 77 c2) := Lib.hid (HB.out.drew.row_ c2)
        have HV0 : Hid (Blk (w.drew.setRow g c2.toArray) vb 77 xs) := Lib.hid (HX.out.drew.row_far hgv _)
        have hov : ∀ lb cb q, (callFunc 100 #[.slice (some ⟨vb, 0, none⟩) 1 1, .slice (some ⟨g, q, none⟩) lb cb]).run Tryz.prog w = .ok (.value (.bool false)) w := fun lb cb q => overlaps_apart HX.out HB.out hgv (fun e => by rw [e] at hcur; simp at hcur; omega)
        have hw1 : IntKind.i64.wrap ((i : Int) + 1) = (i : Int) + 1 := by rw [IntKind.wrap_i64]; omega
        have hi1 : (0 : Int) ≤ (i : Int) + 1 := by omega
        have hi2 : ((i : Int) + 1).toNat = i + 1 := by omega
        have hi3 : (i : Int) ≤ (n : Int) := by omega
        have hi4 : i ≤ n := hi
        have hi5 : ¬ (cap = i + 1) := by omega
        have hi6 : ¬ (cap = i) := by omega
        have hi7 : (i : Int) ≤ (n : Int) + 1 := by omega
        have hi8 : (n : Int) + 1 ≤ (cap : Int) := by omega
        have hi9 : (0 : Int) ≤ (n : Int) + 1 := by omega
        have hi10 : ((n : Int) + 1).toNat = n + 1 := by omega
        have hi11 : ¬ ((cap : Int) < (n : Int) + 1) := by omega
        have hi12 : ¬ ((i : Int) = (n : Int)) := by omega
        have hi13 : i ≤ n + 1 := by omega
        clear hX1 hX2 hfin hold htk hc2t hc2 hc2l hcur ht hcs hcl
        go_enter Tryz.func71, Tryz.ntmps71
        go_wp2_with (simp only [hov])
        go_region_law_o (refine step_copy_runI rfl _ _ 86 86 rfl _ _ (by simp [Act.eval, Act.put]) (by simp [Act.eval, Act.put]) (HC1.out _ _ (cap - i) (cap - (i + 1)) HB.out.drew) ?_)
        go_wp2_with (refine wpList_copy_runI _ rfl _ _ 86 86 rfl _ _ rfl rfl (HC2.out _ _ (n + 1 - i) (cap - i) (by omega) HR0.out HV0.out) ?_)
        go_ret
        exact ⟨_, rfl, HFIN.out _ (HR0.out.row_ _), by simpa [Value.ownBlock] using (((Fr.refl [g] w).drew.setRow (.inl (by simp)) _).setRow (.inl (by simp)) _), fun q hq => .inl hq⟩
      · obtain rfl : cap = n := by omega
        have hold0 : (Builtin.firstCells ti.size i (.slice (some ⟨g, 0, none⟩) i cap)).run Tryz.prog w.drew = .ok (cs.take (3 * i)).toArray w.drew := by
          rw [hs]
          refine run_firstCells_some w.drew 3 i ⟨g, 0, none⟩ i cap (cs.take (3 * i)) (by rw [List.length_take]; omega) (fun j u hj => ?_)
          rw [Addr.add_mid, Nat.zero_add]
          rw [List.getElem?_take] at hj
          split at hj
          · rw [← ht, List.getElem?_take] at hj
            split at hj
            · exact HB.out.drew.at_ hj
            · cases hj
          · cases hj
        obtain ⟨G, hG⟩ : ∃ G, G = grownCap w (cap + 1) cap 77 := ⟨_, rfl⟩
        obtain ⟨ROW, hROW⟩ : ∃ ROW : Array Value, ROW = (cs.take (3 * i)).toArray ++ Builtin.zeroCells (Value.agg #[.slice none 0 0, .slice none 0 0, .int .i64 0]).cells (cap + 1 - i) ++ Builtin.zeroCells (Value.agg #[.slice none 0 0, .slice none 0 0, .int .i64 0]).cells (G - (cap + 1)) := ⟨_, rfl⟩
        have hkk : (cap : Int) + 1 - (i : Int) = ((cap + 1 - i : Nat) : Int) := by omega
        have hrz : ∀ ty : TypeId, (Builtin.append_ #[86, 3] ty #[.slice (some ⟨g, 0, none⟩) i cap, .int .i64 ((cap : Int) + 1 - (i : Int))]).run Tryz.prog w = .ok (.slice (some ⟨w.heap.size, 0, none⟩) (cap + 1) G) (w.drew.alloc (.cells ROW 77)) := fun ty => by
          have hz' := Lib.run_append_grow_zeros (P := Tryz.prog) w 86 3 ty 77 ti (.agg #[.slice none 0 0, .slice none 0 0, .int .i64 0]) .i64 .i64 Tryz.underlying86 Tryz.underlying3 hti hz (some ⟨g, 0, none⟩) i cap (cs.take (3 * i)) hold0 (cap + 1 - i) (by omega) (by omega) (by omega) (by omega) (by rw [hby]; omega) (by rw [hby]; exact growslice_fits (by omega) (by omega))
          rw [show i + (cap + 1 - i) = cap + 1 by omega, ← hG, ← hROW] at hz'
          rw [hkk]
          exact hz'
        have hGn : cap + 1 ≤ G := by rw [hG]; exact grownCap_ge w _ _ _
        have hGm : G ≤ maxLen := by rw [hG]; exact grownCap_le_maxLen w _ _ _ (by unfold maxLen; omega)
        have hR : ROW.toList.length = G * 3 := by
          rw [hROW]
          simp only [Array.length_toList, Array.size_append, List.size_toArray, List.length_take, size_zeroCells]
          show _ + _ * 3 + _ * 3 = _
          omega
        have hRt : ROW.toList.take (i * 3) = cs.take (3 * i) := by
          rw [hROW, Array.toList_append, Array.toList_append, List.append_assoc, List.take_left' (by simp; omega)]
        obtain ⟨W1, hW1⟩ : ∃ W1, W1 = w.drew.alloc (.cells ROW 77) := ⟨_, rfl⟩
        have hb1 : Blk W1 w.heap.size 77 ROW.toList := by rw [hW1]; exact Blk.new w.drew _ ROW.toList
        have hf1 : Fr [] w W1 := by rw [hW1]; exact ((Fr.refl [] w).drew).alloc _
        have hv1 : Blk W1 vb 77 xs := HX.out.fr hf1 (by simp)
        have hg1 : Blk W1 g 77 cur.toList := HB.out.fr hf1 (by simp)
        have hvl := HX.out.lt
        have hsz1 : W1.heap.size = w.heap.size + 1 := by rw [hW1]; simp
        rw [← hW1] at hrz
        obtain ⟨c2, hc2⟩ : ∃ c2, c2 = splice ROW.toList (i * 3) xs := ⟨_, rfl⟩
        obtain ⟨c3, hc3⟩ : ∃ c3, c3 = splice c2 ((i + 1) * 3) (cs.drop (3 * i)) := ⟨_, rfl⟩
        have hc2l : c2.length = G * 3 := by rw [hc2, splice_len (by omega), hR]
        have hc3l : c3.length = G * 3 := by rw [hc3, splice_len (by rw [List.length_drop]; omega), hc2l]
        have hc3t : c3.take ((cap + 1) * 3) = cs.take (3 * i) ++ (xs ++ cs.drop (3 * i)) := by
          have e := splice_take2 (cs := cs.drop (3 * i)) (show (i + 1) * 3 ≤ c2.length by omega)
          rw [List.length_drop, show (i + 1) * 3 + (cs.length - 3 * i) = (cap + 1) * 3 by omega] at e
          have e2 := splice_take2 (cs := xs) (show i * 3 ≤ ROW.toList.length by omega)
          rw [hxl, show i * 3 + 3 = (i + 1) * 3 by omega, hRt] at e2
          rw [hc3, e, hc2, e2, List.append_assoc]
        have hX1 : ∀ (ty : TypeId), (Builtin.copy_ #[86, 86] ty #[.slice (some ⟨w.heap.size, i * 3, none⟩) (cap + 1 - i) (G - i), .slice (some ⟨vb, 0, none⟩) 1 1]).run Tryz.prog W1 = .ok (goInt (Nat.min 1 (cap + 1 - i))) (W1.setRow w.heap.size c2.toArray) := fun ty => by
          rw [hc2]
          exact run_copy_k Tryz.underlying86 size_it hb1 (by show _ = min _ _ * 3; rw [Nat.min_eq_left (by omega)]; omega) (fun j u hj => by rw [Addr.add_mid, Nat.zero_add]; exact hv1.at_ hj) (by omega) HX1.out
        obtain ⟨W2, hW2⟩ : ∃ W2, W2 = W1.setRow w.heap.size c2.toArray := ⟨_, rfl⟩
        have hb2 : Blk W2 w.heap.size 77 c2 := by rw [hW2]; exact hb1.row_ c2
        have hg2 : Blk W2 g 77 cur.toList := by rw [hW2]; exact hg1.row_far (by omega) _
        have hf2 : Fr [] w W2 := by rw [hW2]; exact hf1.setRow (.inr (Nat.le_refl _)) _
        rw [← hW2] at hX1
        have hX2 : ∀ (ty : TypeId), (Builtin.copy_ #[86, 86] ty #[.slice (some ⟨w.heap.size, (i + 1) * 3, none⟩) (cap - i) (G - (i + 1)), .slice (some ⟨g, i * 3, none⟩) (cap - i) (cap - i)]).run Tryz.prog W2.drew = .ok (goInt (Nat.min (cap - i) (cap - i))) (W2.drew.setRow w.heap.size c3.toArray) := fun ty => by
          rw [hc3]
          exact run_copy_k Tryz.underlying86 size_it hb2.drew (by show _ = min _ _ * 3; rw [List.length_drop, Nat.min_self]; omega) (fun j u hj => by rw [Addr.add_mid]; exact hg2.drew.at_ (hold j u hj)) (by rw [List.length_drop]; omega) (fun u hu => h1 u (List.mem_of_mem_drop hu))
        have hfin : (W2.drew.setRow w.heap.size c3.toArray).ownsRow b 77 3 (.slice (some ⟨w.heap.size, 0, none⟩) (cap + 1) G) (cap + 1) (cs.take (3 * i) ++ (xs ++ cs.drop (3 * i))) :=
          ⟨by rw [List.length_append, List.length_append, List.length_take, List.length_drop]; omega, .inr ⟨w.heap.size, G, c3.toArray, rfl, hb, hb2.drew.row_ c3, hGn, hGm, by rw [List.size_toArray, hc3l], hc3t⟩⟩
        have hff : Fr [] w (W2.drew.setRow w.heap.size c3.toArray) := hf2.drew.setRow (.inr (Nat.le_refl _)) _
        have HX1' := Lib.hid hX1; have HX2' := Lib.hid hX2; have HRZ := Lib.hid hrz; have HFIN := Lib.hid hfin; have HFF := Lib.hid hff
        unfold maxLen at hGm
        have hw1 : IntKind.i64.wrap ((i : Int) + 1) = (i : Int) + 1 := by rw [IntKind.wrap_i64]; omega
        have hi1 : (0 : Int) ≤ (i : Int) + 1 := by omega
        have hi2 : ((i : Int) + 1).toNat = i + 1 := by omega
        have hi3 : (i : Int) ≤ (cap : Int) := by omega
        have hi4 : i ≤ cap := hi
        have hi5 : ¬ (G = i + 1) := by omega
        have hi6 : ¬ (G = i) := by omega
        have hi6' : ¬ (cap = i) := by omega
        have hi7 : (i : Int) ≤ (cap : Int) + 1 := by omega
        have hi12 : ¬ ((i : Int) = (cap : Int)) := by omega
        have hi13 : i ≤ cap + 1 := by omega
        clear hX1 hX2 hrz hfin hff hold0 hold htk hcur ht hcs hcl hkk hG hROW hR hRt hb1 hf1 hv1 hg1 hvl hsz1 hb2 hg2 hf2 hc2 hc3 hc2l hc3l hc3t hW1 hW2
        go_enter Tryz.func71, Tryz.ntmps71
        go_wp2_with (first
          | (at_builtin; refine Lib.wpList_append_run _ rfl _ _ _ _ rfl _ _ rfl rfl _ _ (HRZ.out _) ?_)
          | (refine wpList_copy_runI _ rfl _ _ 86 86 rfl _ _ rfl rfl (HX1'.out _) ?_))
        go_region_law_o (refine step_copy_runI rfl _ _ 86 86 rfl _ _ (by simp [Act.eval, Act.put]) (by simp [Act.eval, Act.put]) (HX2'.out _) ?_)
        go_wp2
        go_ret
        exact ⟨_, rfl, HFIN.out, HFF.out.mono (by simp), fun q hq => .inr (Nat.le_of_eq (by simpa [Value.ownBlock] using hq))⟩
end Go.Proofs.YtpjbdpepofnleaaGreat
end
