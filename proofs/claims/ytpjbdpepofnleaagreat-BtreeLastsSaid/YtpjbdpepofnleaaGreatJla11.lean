/-
  Joined by join.py: Ob Oc
-/
import Derived.Shelf.Spec.SlicesInsertGrow
import Derived.Test.YtpjbdpepofnleaaGreatJla10
section
namespace Go.Proofs.YtpjbdpepofnleaaGreat
open Go.RowKit Go.Sort Go.Shelf Go.Lib
section
variable {P : Program} {w : World}
theorem run_copy_k {dT sT ty elem t : TypeId} {k g off dLen dCap sLen sCap : Nat} {a : Addr} {cur cs : List Value} (hu : P.underlying dT = some (.slice elem)) (hk : (P.info? elem).map (·.size) = some k) (hg : Blk w g t cur)
    (hn : cs.length = Nat.min sLen dLen * k) (hsrc : ∀ j v, cs[j]? = some v → w.cell? (a.add j) = some v) (hfit : off + cs.length ≤ cur.length) (h1 : ∀ v ∈ cs, v.oneCell' = true) :
    (Builtin.copy_ #[dT, sT] ty #[.slice (some ⟨g, off, none⟩) dLen dCap, .slice (some a) sLen sCap]).run P w = .ok (goInt (Nat.min sLen dLen)) (w.setRow g (splice cur off cs).toArray) := by
  have hl := run_loadCells_list (P := P) w a cs hsrc
  have hst := run_storeCells_at P g off t cs 0 cur.toArray w hg (by simpa using hfit) h1
  cases hq : P.info? elem with
  | none => simp [hq] at hk
  | some i =>
    have hi : i.size = k := by simpa [hq] using hk
    rw [hn] at hl
    simp [Builtin.copy_, run_underlying hu, Builtin.lenOf, Builtin.firstCells, sizeOf, typeInfo, hq, hi, hl, hst, splice]
theorem run_clear_k {t ty elem bt : TypeId} {g off n c : Nat} {cur zs : List Value} {z : Value} (hu : P.underlying t = some (.slice elem)) (hz : (P.info? elem).map (·.zero) = some (some z)) (hg : Blk w g bt cur) (hn : 0 < n)
    (hzs : (Builtin.zeroCells z.cells n).toList = zs) (hfit : off + zs.length ≤ cur.length) (h1 : ∀ v ∈ zs, v.oneCell' = true) :
    (Builtin.clear_ #[t] ty #[.slice (some ⟨g, off, none⟩) n c]).run P w = .ok (.tuple #[]) (w.setRow g (splice cur off zs).toArray) := by
  have hst := run_storeCells_at P g off bt zs 0 cur.toArray w hg (by simpa using hfit) h1
  obtain ⟨m, rfl⟩ : ∃ m, n = m + 1 := ⟨n - 1, by omega⟩
  cases hq : P.info? elem with
  | none => simp [hq] at hz
  | some i =>
    have hi : i.zero = some z := by simpa [hq] using hz
    simp [Builtin.clear_, run_underlying hu, zeroValue, typeInfo, hq, hi, hzs, hst, splice, Result.andThen]
theorem step_append_run {ops : Array Oper} {o : Oper} {a : Act} {w : World} {K : Act → World → Prop} {Q : Exit → Act → World → Prop} {E : Prop}
    (hg : o.guard = none) (d x : Operand) (dT sT : TypeId) (hop : o.op = Op.call { callee := Callee.builtin Builtin.append, args := #[d, x], argTypes := #[dT, sT] })
    (v u : Value) (hd : a.eval d = v) (hx : a.eval x = u) {v' : Value} {w' : World} (hr : (Builtin.append_ #[dT, sT] o.type #[v, u]).run P w = .ok v' w') (hK : K (a.put o.dst v') w') :
    if Region.wanted o (yielded ops a.tmps) = true then Oper.wp P o a w K Q else E := by
  have hw : Region.wanted o (yielded ops a.tmps) = true := by simp [Region.wanted, hg]
  rw [if_pos hw]
  unfold Oper.wp
  simp [execOp, hop, resolve, invoke, builtin, hd, hx, hr, Result.andThen]
  exact hK
theorem wpList_clear_run {ops : Array Oper} {rest : List Oper} {o : Oper} {a : Act} {Q : Exit → Act → World → Prop} (hgd : o.guard = none) (d : Operand) (t : TypeId)
    (ho : o.op = .call { callee := .builtin .clear, args := #[d], argTypes := #[t] }) (v : Value) (hd : a.eval d = v) {v' : Value} {w' : World}
    (hr : (Builtin.clear_ #[t] o.type #[v]).run P w = .ok v' w') (h : wpList P ops Q rest (a.put o.dst v') w') : wpList P ops Q (o :: rest) a w := by
  refine wpList_plain hgd fun _ hK => ?_
  unfold Oper.wp execOp
  simp only [ho, resolve, invoke, builtin, Sem.run_bind, Sem.run_pure, Result.andThen_ok, List.map_toArray, List.map_cons, List.map_nil, hd, hr]
  exact hK _ _ h
end
theorem size_it : (Tryz.prog.info? 77).map (·.size) = some 3 := by kernel_rfl
theorem zero_it : (Tryz.prog.info? 77).map (·.zero) = some (some (.agg #[.slice none 0 0, .slice none 0 0, .int .i64 0])) := by kernel_rfl
def zit : List Value := [.slice none 0 0, .slice none 0 0, .int .i64 0]
theorem splice_len {cur cs : List Value} {off : Nat} (h : off + cs.length ≤ cur.length) : (splice cur off cs).length = cur.length := by unfold splice; simp; omega
theorem splice_take {cur cs : List Value} {off m : Nat} (h : m ≤ off) (h2 : off ≤ cur.length) : (splice cur off cs).take m = cur.take m := by
  unfold splice
  rw [List.take_append_of_le_length (by rw [List.length_take]; omega), List.take_take, Nat.min_eq_left h]
theorem splice_take2 {cur cs : List Value} {off : Nat} (h : off ≤ cur.length) : (splice cur off cs).take (off + cs.length) = cur.take off ++ cs := by
  unfold splice
  rw [← List.append_assoc, List.take_left' (by rw [List.length_append, List.length_take]; omega)]
set_option maxRecDepth 100000 in
set_option maxHeartbeats 2000000 in
/-- slices.Delete of one item. -/
theorem items_delete {w : World} {b n i : Nat} {v : Value} {cs : List Value} (h : w.ownsRow b 77 3 v n cs) (h1 : Three cs) (hn : n ≤ 65536) (hi : i < n) :
    Calls Tryz.prog 80 #[v, .int .i64 i, .int .i64 ((i : Int) + 1)] w fun e w' => ∃ v', e = .returned v' ∧ w'.ownsRow b 77 3 v' (n - 1) (cs.take (3 * i) ++ cs.drop (3 * i + 3)) ∧ v'.ownBlock = v.ownBlock ∧ Fr v.ownBlock.toList w w' := by
  rcases h.2 with ⟨rfl, h0⟩ | ⟨g, cap, cur, rfl, hg, hh, hnc, hcm, hcs, ht⟩
  · omega
  · obtain ⟨m, rfl⟩ : ∃ m, n = m + 1 := ⟨n - 1, by omega⟩
    have hl : cs.length = (m + 1) * 3 := h.1
    unfold maxLen at hcm
    have hB : Blk w g 77 cur.toList := hh
    have HB := Lib.hid hB
    clear h hh hB
    go_enter Tryz.func80, Tryz.ntmps80
    obtain ⟨ti, hti, hz, hs, hby⟩ := info_get info_it
    have hcur : cur.toList.length = cap * 3 := by simpa using hcs
    have hnews : ∀ (j : Nat) (u : Value), (cs.drop (3 * i + 3))[j]? = some u → cur.toList[(i + 1) * 3 + j]? = some u := fun j u hj => by
      rw [List.getElem?_drop, ← ht, List.getElem?_take] at hj
      split at hj
      · rwa [show 3 * i + 3 + j = (i + 1) * 3 + j by omega] at hj
      · cases hj
    have hap : ∀ (W : World) (ty : TypeId) (q : Nat), (m = i ∨ q = (i + 1) * 3) → Blk W g 77 cur.toList → (Builtin.append_ #[86, 86] ty #[.slice (some ⟨g, 0, none⟩) i cap, .slice (some ⟨g, q, none⟩) (m + 1 - (i + 1)) (cap - (i + 1))]).run Tryz.prog W = .ok (.slice (some ⟨g, 0, none⟩) m cap) (W.setRow g (splice cur.toList (i * 3) (cs.drop (3 * i + 3))).toArray) := fun W ty q hq hW => by
      have := run_append_room (P := Tryz.prog) (w := W) 86 ty 77 ti Tryz.underlying86 hti g i cap cur hW ⟨g, q, none⟩ (m + 1 - (i + 1)) (cap - (i + 1)) (cs.drop (3 * i + 3)) (by rw [hs, List.length_drop]; omega) (fun j u hj => by
        rcases hq with hq | rfl
        · rw [List.drop_of_length_le (by omega)] at hj; cases hj
        · rw [Addr.add_mid]; exact hW.at_ (hnews j u hj)) (fun u hu => h1 u (List.mem_of_mem_drop hu)) (by omega) (by rw [hs, List.length_drop]; simp at hcur; omega)
      rw [hs, show i + (m + 1 - (i + 1)) = m by omega] at this
      rw [this]
      unfold splice
      rw [List.append_assoc]
    obtain ⟨c2, hc2⟩ : ∃ c2, c2 = splice cur.toList (i * 3) (cs.drop (3 * i + 3)) := ⟨_, rfl⟩
    have hc2l : c2.length = cap * 3 := by rw [hc2, splice_len (by rw [List.length_drop]; omega)]; exact hcur
    have hc2t : c2.take (m * 3) = cs.take (3 * i) ++ cs.drop (3 * i + 3) := by
      have e := splice_take2 (cs := cs.drop (3 * i + 3)) (show i * 3 ≤ cur.toList.length by omega)
      rw [List.length_drop, show i * 3 + (cs.length - (3 * i + 3)) = m * 3 by omega] at e
      rw [hc2, e]
      congr 1
      rw [← ht, List.take_take, Nat.min_eq_left (by omega), Nat.mul_comm]
    rw [← hc2] at hap
    have hz3 : (Builtin.zeroCells (Value.agg #[.slice none 0 0, .slice none 0 0, .int .i64 0]).cells 1).toList = zit := by kernel_rfl
    have hcl : ∀ (W : World) (ty : TypeId) (c : Nat), Blk W g 77 c2 → (Builtin.clear_ #[86] ty #[.slice (some ⟨g, m * 3, none⟩) 1 c]).run Tryz.prog W = .ok (.tuple #[]) (W.setRow g (splice c2 (m * 3) zit).toArray) := fun W ty c hW =>
      run_clear_k Tryz.underlying86 zero_it hW (by omega) hz3 (by rw [hc2l]; show m * 3 + 3 ≤ _; omega) (by simp [zit, Value.oneCell'])
    have hfin : ∀ W : World, Fr [g] w W → Blk W g 77 (splice c2 (m * 3) zit) → W.ownsRow b 77 3 (.slice (some ⟨g, 0, none⟩) m cap) m (cs.take (3 * i) ++ cs.drop (3 * i + 3)) := fun W _ hW =>
      ⟨by rw [List.length_append, List.length_take, List.length_drop]; omega, .inr ⟨g, cap, (splice c2 (m * 3) zit).toArray, rfl, hg, hW, by omega, by unfold maxLen; omega, by rw [List.size_toArray, splice_len (by rw [hc2l]; show m * 3 + 3 ≤ _; omega), hc2l], by
        show (splice c2 (m * 3) zit).take (m * 3) = _
        rw [splice_take (Nat.le_refl _) (by omega), hc2t]⟩⟩
    have hic : i ≤ cap := by omega
    have hjn : ((i : Int) + 1).toNat = i + 1 := by omega
    have h01 : (0 : Int) ≤ (i : Int) + 1 := by omega
    have hjN : (i : Int) + 1 ≤ (m : Int) + 1 := by omega
    have mixed : Tryz.prog.follows Departure.mixedOrders = true := by kernel_rfl
    have hm1 : m ≤ m + 1 := by omega
    have hZ1 : (i : Int) ≤ (m : Int) := by omega
    have hZ2 : i ≤ m := by omega
    have hZ3 : (m : Int) ≤ (m : Int) + 1 := by omega
    have hmc : m + 1 ≤ cap := hnc
    have hmc2 : ¬ cap = m := by omega
    have hX := Lib.hid hap; have HCL := Lib.hid hcl; have HFIN := Lib.hid hfin
    have HR0 : Hid (Blk (w.drew.setRow g c2.toArray) g 77 c2) := Lib.hid (HB.out.drew.row_ c2)
    clear hap hnews hcl hfin hc2t hc2 hz3 hc2l hcur ht
    go_upto_region 5 with fail
    by_cases hlast : cap = i + 1
    · obtain rfl : m = i := by omega
      subst hlast
      go_region_law_o (refine step_append_run rfl _ _ 86 86 rfl _ _ (by simp [Act.eval, Act.put]) (by simp [Act.eval, Act.put]) (hX.out _ _ 0 (.inl rfl) HB.out.drew) ?_)
      go_wp2_with (refine wpList_clear_run rfl _ 86 rfl _ rfl (HCL.out _ _ _ HR0.out) ?_)
      go_ret
      exact ⟨_, rfl, HFIN.out _ (((Fr.refl [g] w).drew.setRow (.inl (by simp)) _).setRow (.inl (by simp)) _) (HR0.out.row_ _), rfl, by simpa [Value.ownBlock] using (((Fr.refl [g] w).drew.setRow (.inl (by simp)) _).setRow (.inl (by simp)) _)⟩
    · go_region_law_o (refine step_append_run rfl _ _ 86 86 rfl _ _ (by simp [Act.eval, Act.put]) (by simp [Act.eval, Act.put]) (hX.out _ _ ((i + 1) * 3) (.inr rfl) HB.out.drew) ?_)
      go_wp2_with (refine wpList_clear_run rfl _ 86 rfl _ rfl (HCL.out _ _ _ HR0.out) ?_)
      go_ret
      exact ⟨_, rfl, HFIN.out _ (((Fr.refl [g] w).drew.setRow (.inl (by simp)) _).setRow (.inl (by simp)) _) (HR0.out.row_ _), rfl, by simpa [Value.ownBlock] using (((Fr.refl [g] w).drew.setRow (.inl (by simp)) _).setRow (.inl (by simp)) _)⟩
theorem overlaps_apart {W : World} {vb g q lb cb : Nat} {xs cur : List Value} (hv : Blk W vb 77 xs) (hg : Blk W g 77 cur) (hne : vb ≠ g) (hc : cur ≠ []) :
    (callFunc 100 #[.slice (some ⟨vb, 0, none⟩) 1 1, .slice (some ⟨g, q, none⟩) lb cb]).run Tryz.prog W = .ok (.value (.bool false)) W := by
  have hz : ∀ w : World, (Go.sizeOf 77).run Tryz.prog w = .ok 3 w := fun w => by
    obtain ⟨i, hi1, hi2⟩ := Option.map_eq_some_iff.1 size_it
    simp [Go.sizeOf, typeInfo, go_sem, hi1, hi2]
  have hs1 : W.shape? vb = some (77, xs.length) := by
    unfold Blk at hv
    simp [World.shape?, hv]
  have hs2 : W.shape? g = some (77, cur.length) := by
    unfold Blk at hg
    simp [World.shape?, hg]
  rw [run_callFunc_extern Tryz.func100 (by kernel_rfl) (by kernel_rfl) (by kernel_rfl) (e := Extern.SlicesOverlaps.overlaps #[86, 86] #[4]) (by kernel_rfl),
    Lib.run_overlaps_apart W 86 4 77 Tryz.underlying86 3 hz ⟨vb, 0, none⟩ ⟨g, q, none⟩ 1 1 lb cb hne _ _ _ _ hs1 hs2 (by simpa using hc) (hv.free 0) (hv.free _)]
  rfl
set_option maxRecDepth 100000 in
set_option maxHeartbeats 4000000 in
/-- slices.Insert of one item. -/
theorem items_insert {w : World} {b n i vb : Nat} {v : Value} {cs xs : List Value} (h : w.ownsRow b 77 3 v n cs) (h1 : Three cs) (hn : n ≤ 65536) (hi : i ≤ n) (hb : b ≤ w.heap.size)
    (hx : Blk w vb 77 xs) (hx1 : Three xs) (hxl : xs.length = 3) (hne : v.ownBlock ≠ some vb) :
    Calls Tryz.prog 71 #[v, .int .i64 i, .slice (some ⟨vb, 0, none⟩) 1 1] w fun e w' => ∃ v', e = .returned v' ∧ w'.ownsRow b 77 3 v' (n + 1) (cs.take (3 * i) ++ (xs ++ cs.drop (3 * i))) ∧ Fr v.ownBlock.toList w w' ∧ (∀ q, v'.ownBlock = some q → v.ownBlock = some q ∨ w.heap.size ≤ q) := by
  obtain ⟨ti, hti, hz, hs, hby⟩ := info_get info_it
  have mixed : Tryz.prog.follows Departure.mixedOrders = true := by kernel_rfl
  have HH := Lib.hid h; have HX := Lib.hid hx; have HX1 := Lib.hid hx1
  have hcl : cs.length = n * 3 := h.1
  have hxc : ∀ (j : Nat) (u : Value), xs[j]? = some u → w.cell? ((⟨vb, 0, none⟩ : Addr).add j) = some u := fun j u hj => by
    rw [Addr.add_mid, Nat.zero_add]; exact hx.at_ hj
  have HXC := Lib.hid hxc
  clear hx hx1 hxc
  by_cases hin : i = n
  · subst hin
    have e : cs.take (3 * i) ++ (xs ++ cs.drop (3 * i)) = cs ++ xs := by rw [List.take_of_length_le (by omega), List.drop_of_length_le (by omega), List.append_nil]
    rw [e]
    obtain ⟨A, c, rfl, hc1, hc2⟩ := own_shape h
    clear h e
    go_enter Tryz.func71, Tryz.ntmps71
    go_wp2_with (at_builtin; refine wpList_append_lies _ rfl _ _ 86 rfl b 77 ti (.agg #[.slice none 0 0, .slice none 0 0, .int .i64 0]) 3 56 Tryz.underlying86 hti hz hs hby rfl (by omega) _ i cs rfl HH.out ⟨vb, 0, none⟩ 1 1 xs rfl (by omega) HXC.out HX1.out (by omega) (by unfold maxLen; omega) (by omega) hb w.heap.size rfl ?_)
    all_goals
      intro g cap w' k1 k2 k3 k4
      have HR := Lib.hid k1
      have HO : Hid (∀ q, (Value.slice (some ⟨g, 0, none⟩) (i + 1) cap).ownBlock = some q → (Value.slice A i c).ownBlock = some q ∨ w.heap.size ≤ q) := Lib.hid fun q hq => by
        obtain rfl : g = q := by simpa [Value.ownBlock] using hq
        rcases k3 with k3 | k3
        · exact .inl (by first | (rw [← k3]; done) | (cases A <;> simp_all [Value.ownBlock]))
        · exact .inr (by omega)
      have HF : Hid (Fr (Value.slice A i c).ownBlock.toList w w') := Lib.hid ((Fr.refl _ w).grown k2 (fun g hg => .inl (by
        have hg' : (Value.slice A i c).ownBlock = some g := by first | exact hg | (rw [← hg]; cases A <;> rfl)
        rw [hg']; simp)))
      clear k1 k2 k3 k4
      go_wp2
      go_ret
      exact ⟨_, rfl, HR.out, HF.out, HO.out⟩
  · rcases h.2 with ⟨rfl, h0⟩ | ⟨g, cap, cur, rfl, hg, hh, hnc, hcm, hcs, ht⟩
    · omega
    · unfold maxLen at hcm
      have hB : Blk w g 77 cur.toList := hh
      have hgv : vb ≠ g := fun e => hne (by rw [e]; rfl)
      have hcur : cur.toList.length = cap * 3 := by simpa using hcs
      have HB := Lib.hid hB
      have hlt := hB.lt
      have hold : ∀ (j : Nat) (u : Value), (cs.drop (3 * i))[j]? = some u → cur.toList[i * 3 + j]? = some u := fun j u hj => by
        rw [List.getElem?_drop, ← ht, List.getElem?_take] at hj
        split at hj
        · rwa [show 3 * i + j = i * 3 + j by omega] at hj
        · cases hj
      have htk : ∀ q, q ≤ n * 3 → cur.toList.take q = cs.take q := fun q hq => by rw [← ht, List.take_take, Nat.min_eq_left hq]
      clear h hh hB
      by_cases hroom : n + 1 ≤ cap
      · -- in place
        have hX1 : ∀ (W : World) (ty : TypeId) (sc dc : Nat), Blk W g 77 cur.toList → (Builtin.copy_ #[86, 86] ty #[.slice (some ⟨g, (i + 1) * 3, none⟩) (n - i) dc, .slice (some ⟨g, i * 3, none⟩) (n + 1 - i) sc]).run Tryz.prog W = .ok (goInt (Nat.min (n + 1 - i) (n - i))) (W.setRow g (splice cur.toList ((i + 1) * 3) (cs.drop (3 * i))).toArray) := fun W ty sc dc hW =>
          run_copy_k Tryz.underlying86 size_it hW (by show _ = min _ _ * 3; rw [List.length_drop, Nat.min_eq_right (by omega)]; omega) (fun j u hj => by rw [Addr.add_mid]; exact hW.at_ (hold j u hj)) (by rw [List.length_drop]; omega) (fun u hu => h1 u (List.mem_of_mem_drop hu))
        obtain ⟨c2, hc2⟩ : ∃ c2, c2 = splice cur.toList ((i + 1) * 3) (cs.drop (3 * i)) := ⟨_, rfl⟩
        have hc2l : c2.length = cap * 3 := by rw [hc2, splice_len (by rw [List.length_drop]; omega)]; exact hcur
        have hc2t : c2.take ((n + 1) * 3) = cur.toList.take ((i + 1) * 3) ++ cs.drop (3 * i) := by
          have e := splice_take2 (cs := cs.drop (3 * i)) (show (i + 1) * 3 ≤ cur.toList.length by omega)
          rw [List.length_drop, show (i + 1) * 3 + (cs.length - 3 * i) = (n + 1) * 3 by omega] at e
          rw [hc2, e]
        rw [← hc2] at hX1
        have hX2 : ∀ (W : World) (ty : TypeId) (l dc : Nat), 1 ≤ l → Blk W g 77 c2 → Blk W vb 77 xs → (Builtin.copy_ #[86, 86] ty #[.slice (some ⟨g, i * 3, none⟩) l dc, .slice (some ⟨vb, 0, none⟩) 1 1]).run Tryz.prog W = .ok (goInt (Nat.min 1 l)) (W.setRow g (splice c2 (i * 3) xs).toArray) := fun W ty l dc hl hW hV =>
          run_copy_k Tryz.underlying86 size_it hW (by show _ = min _ _ * 3; rw [Nat.min_eq_left hl]; omega) (fun j u hj => by rw [Addr.add_mid, Nat.zero_add]; exact hV.at_ hj) (by omega) HX1.out
        have hfin : ∀ W : World, Blk W g 77 (splice c2 (i * 3) xs) → W.ownsRow b 77 3 (.slice (some ⟨g, 0, none⟩) (n + 1) cap) (n + 1) (cs.take (3 * i) ++ (xs ++ cs.drop (3 * i))) := fun W hW =>
          ⟨by rw [List.length_append, List.length_append, List.length_take, List.length_drop]; omega, .inr ⟨g, cap, (splice c2 (i * 3) xs).toArray, rfl, hg, hW, hroom, by unfold maxLen; omega, by rw [List.size_toArray, splice_len (by omega), hc2l], by
            show (splice c2 (i * 3) xs).take ((n + 1) * 3) = _
            have e1 : c2.take (i * 3) = cs.take (3 * i) := by rw [hc2, splice_take (by omega) (by omega), htk _ (by omega), Nat.mul_comm]
            have e2 : c2.drop (i * 3 + xs.length) = cs.drop (3 * i) ++ cur.toList.drop ((i + 1) * 3 + (cs.drop (3 * i)).length) := by
              rw [hc2, hxl]
              unfold splice
              rw [List.drop_left' (by rw [List.length_take]; omega)]
            unfold splice
            rw [e1, e2, ← List.append_assoc, ← List.append_assoc, List.append_assoc (List.take (3 * i) cs) xs, List.take_left' (by rw [List.length_append, List.length_append, List.length_take, List.length_drop]; omega)]⟩⟩
        have HC1 := Lib.hid hX1; have HC2 := Lib.hid hX2; have HFIN := Lib.hid hfin
        have HR0 : Hid (Blk (w.drew.setRow g c2.toArray) g 77 c2) := Lib.hid (HB.out.drew.row_ c2)
        have HV0 : Hid (Blk (w.drew.setRow g c2.toArray) vb 77 xs) := Lib.hid (HX.out.drew.row_far hgv _)
        have hov : ∀ lb cb q, (callFunc 100 #[.slice (some ⟨vb, 0, none⟩) 1 1, .slice (some ⟨g, q, none⟩) lb cb]).run Tryz.prog w = .ok (.value (.bool false)) w := fun lb cb q => overlaps_apart HX.out HB.out hgv (fun e => by rw [e] at hcur; simp at hcur; omega)
        have hw1 : IntKind.i64.wrap ((i : Int) + 1) = (i : Int) + 1 := by rw [IntKind.wrap_i64]; omega
        have hi1 : (0 : Int) ≤ (i : Int) + 1 := by omega
        have hi2 : ((i : Int) + 1).toNat = i + 1 := by omega
        have hi3 : (i : Int) ≤ (n : Int) := by omega
        have hi4 : i ≤ n := hi
        have hi5 : ¬ (cap = i + 1) := by omega
        have hi6 : ¬ (cap = i) := by omega
        have hi7 : (i : Int) ≤ (n : Int) + 1 := by omega
        have hi8 : (n : Int) + 1 ≤ (cap : Int) := by omega
        have hi9 : (0 : Int) ≤ (n : Int) + 1 := by omega
        have hi10 : ((n : Int) + 1).toNat = n + 1 := by omega
        have hi11 : ¬ ((cap : Int) < (n : Int) + 1) := by omega
        have hi12 : ¬ ((i : Int) = (n : Int)) := by omega
        have hi13 : i ≤ n + 1 := by omega
        clear hX1 hX2 hfin hold htk hc2t hc2 hc2l hcur ht hcs hcl
        go_enter Tryz.func71, Tryz.ntmps71
        go_wp2_with (simp only [hov])
        go_region_law_o (refine step_copy_runI rfl _ _ 86 86 rfl _ _ (by simp [Act.eval, Act.put]) (by simp [Act.eval, Act.put]) (HC1.out _ _ (cap - i) (cap - (i + 1)) HB.out.drew) ?_)
        go_wp2_with (refine wpList_copy_runI _ rfl _ _ 86 86 rfl _ _ rfl rfl (HC2.out _ _ (n + 1 - i) (cap - i) (by omega) HR0.out HV0.out) ?_)
        go_ret
        exact ⟨_, rfl, HFIN.out _ (HR0.out.row_ _), by simpa [Value.ownBlock] using (((Fr.refl [g] w).drew.setRow (.inl (by simp)) _).setRow (.inl (by simp)) _), fun q hq => .inl hq⟩
      · obtain rfl : cap = n := by omega
        have hold0 : (Builtin.firstCells ti.size i (.slice (some ⟨g, 0, none⟩) i cap)).run Tryz.prog w.drew = .ok (cs.take (3 * i)).toArray w.drew := by
          rw [hs]
          refine run_firstCells_some w.drew 3 i ⟨g, 0, none⟩ i cap (cs.take (3 * i)) (by rw [List.length_take]; omega) (fun j u hj => ?_)
          rw [Addr.add_mid, Nat.zero_add]
          rw [List.getElem?_take] at hj
          split at hj
          · rw [← ht, List.getElem?_take] at hj
            split at hj
            · exact HB.out.drew.at_ hj
            · cases hj
          · cases hj
        obtain ⟨G, hG⟩ : ∃ G, G = grownCap w (cap + 1) cap 77 := ⟨_, rfl⟩
        obtain ⟨ROW, hROW⟩ : ∃ ROW : Array Value, ROW = (cs.take (3 * i)).toArray ++ Builtin.zeroCells (Value.agg #[.slice none 0 0, .slice none 0 0, .int .i64 0]).cells (cap + 1 - i) ++ Builtin.zeroCells (Value.agg #[.slice none 0 0, .slice none 0 0, .int .i64 0]).cells (G - (cap + 1)) := ⟨_, rfl⟩
        have hkk : (cap : Int) + 1 - (i : Int) = ((cap + 1 - i : Nat) : Int) := by omega
        have hrz : ∀ ty : TypeId, (Builtin.append_ #[86, 3] ty #[.slice (some ⟨g, 0, none⟩) i cap, .int .i64 ((cap : Int) + 1 - (i : Int))]).run Tryz.prog w = .ok (.slice (some ⟨w.heap.size, 0, none⟩) (cap + 1) G) (w.drew.alloc (.cells ROW 77)) := fun ty => by
          have hz' := Lib.run_append_grow_zeros (P := Tryz.prog) w 86 3 ty 77 ti (.agg #[.slice none 0 0, .slice none 0 0, .int .i64 0]) .i64 .i64 Tryz.underlying86 Tryz.underlying3 hti hz (some ⟨g, 0, none⟩) i cap (cs.take (3 * i)) hold0 (cap + 1 - i) (by omega) (by omega) (by omega) (by omega) (by rw [hby]; omega) (by rw [hby]; exact growslice_fits (by omega) (by omega))
          rw [show i + (cap + 1 - i) = cap + 1 by omega, ← hG, ← hROW] at hz'
          rw [hkk]
          exact hz'
        have hGn : cap + 1 ≤ G := by rw [hG]; exact grownCap_ge w _ _ _
        have hGm : G ≤ maxLen := by rw [hG]; exact grownCap_le_maxLen w _ _ _ (by unfold maxLen; omega)
        have hR : ROW.toList.length = G * 3 := by
          rw [hROW]
          simp only [Array.length_toList, Array.size_append, List.size_toArray, List.length_take, size_zeroCells]
          show _ + _ * 3 + _ * 3 = _
          omega
        have hRt : ROW.toList.take (i * 3) = cs.take (3 * i) := by
          rw [hROW, Array.toList_append, Array.toList_append, List.append_assoc, List.take_left' (by simp; omega)]
        obtain ⟨W1, hW1⟩ : ∃ W1, W1 = w.drew.alloc (.cells ROW 77) := ⟨_, rfl⟩
        have hb1 : Blk W1 w.heap.size 77 ROW.toList := by rw [hW1]; exact Blk.new w.drew _ ROW.toList
        have hf1 : Fr [] w W1 := by rw [hW1]; exact ((Fr.refl [] w).drew).alloc _
        have hv1 : Blk W1 vb 77 xs := HX.out.fr hf1 (by simp)
        have hg1 : Blk W1 g 77 cur.toList := HB.out.fr hf1 (by simp)
        have hvl := HX.out.lt
        have hsz1 : W1.heap.size = w.heap.size + 1 := by rw [hW1]; simp
        rw [← hW1] at hrz
        obtain ⟨c2, hc2⟩ : ∃ c2, c2 = splice ROW.toList (i * 3) xs := ⟨_, rfl⟩
        obtain ⟨c3, hc3⟩ : ∃ c3, c3 = splice c2 ((i + 1) * 3) (cs.drop (3 * i)) := ⟨_, rfl⟩
        have hc2l : c2.length = G * 3 := by rw [hc2, splice_len (by omega), hR]
        have hc3l : c3.length = G * 3 := by rw [hc3, splice_len (by rw [List.length_drop]; omega), hc2l]
        have hc3t : c3.take ((cap + 1) * 3) = cs.take (3 * i) ++ (xs ++ cs.drop (3 * i)) := by
          have e := splice_take2 (cs := cs.drop (3 * i)) (show (i + 1) * 3 ≤ c2.length by omega)
          rw [List.length_drop, show (i + 1) * 3 + (cs.length - 3 * i) = (cap + 1) * 3 by omega] at e
          have e2 := splice_take2 (cs := xs) (show i * 3 ≤ ROW.toList.length by omega)
          rw [hxl, show i * 3 + 3 = (i + 1) * 3 by omega, hRt] at e2
          rw [hc3, e, hc2, e2, List.append_assoc]
        have hX1 : ∀ (ty : TypeId), (Builtin.copy_ #[86, 86] ty #[.slice (some ⟨w.heap.size, i * 3, none⟩) (cap + 1 - i) (G - i), .slice (some ⟨vb, 0, none⟩) 1 1]).run Tryz.prog W1 = .ok (goInt (Nat.min 1 (cap + 1 - i))) (W1.setRow w.heap.size c2.toArray) := fun ty => by
          rw [hc2]
          exact run_copy_k Tryz.underlying86 size_it hb1 (by show _ = min _ _ * 3; rw [Nat.min_eq_left (by omega)]; omega) (fun j u hj => by rw [Addr.add_mid, Nat.zero_add]; exact hv1.at_ hj) (by omega) HX1.out
        obtain ⟨W2, hW2⟩ : ∃ W2, W2 = W1.setRow w.heap.size c2.toArray := ⟨_, rfl⟩
        have hb2 : Blk W2 w.heap.size 77 c2 := by rw [hW2]; exact hb1.row_ c2
        have hg2 : Blk W2 g 77 cur.toList := by rw [hW2]; exact hg1.row_far (by omega) _
        have hf2 : Fr [] w W2 := by rw [hW2]; exact hf1.setRow (.inr (Nat.le_refl _)) _
        rw [← hW2] at hX1
        have hX2 : ∀ (ty : TypeId), (Builtin.copy_ #[86, 86] ty #[.slice (some ⟨w.heap.size, (i + 1) * 3, none⟩) (cap - i) (G - (i + 1)), .slice (some ⟨g, i * 3, none⟩) (cap - i) (cap - i)]).run Tryz.prog W2.drew = .ok (goInt (Nat.min (cap - i) (cap - i))) (W2.drew.setRow w.heap.size c3.toArray) := fun ty => by
          rw [hc3]
          exact run_copy_k Tryz.underlying86 size_it hb2.drew (by show _ = min _ _ * 3; rw [List.length_drop, Nat.min_self]; omega) (fun j u hj => by rw [Addr.add_mid]; exact hg2.drew.at_ (hold j u hj)) (by rw [List.length_drop]; omega) (fun u hu => h1 u (List.mem_of_mem_drop hu))
        have hfin : (W2.drew.setRow w.heap.size c3.toArray).ownsRow b 77 3 (.slice (some ⟨w.heap.size, 0, none⟩) (cap + 1) G) (cap + 1) (cs.take (3 * i) ++ (xs ++ cs.drop (3 * i))) :=
          ⟨by rw [List.length_append, List.length_append, List.length_take, List.length_drop]; omega, .inr ⟨w.heap.size, G, c3.toArray, rfl, hb, hb2.drew.row_ c3, hGn, hGm, by rw [List.size_toArray, hc3l], hc3t⟩⟩
        have hff : Fr [] w (W2.drew.setRow w.heap.size c3.toArray) := hf2.drew.setRow (.inr (Nat.le_refl _)) _
        have HX1' := Lib.hid hX1; have HX2' := Lib.hid hX2; have HRZ := Lib.hid hrz; have HFIN := Lib.hid hfin; have HFF := Lib.hid hff
        unfold maxLen at hGm
        have hw1 : IntKind.i64.wrap ((i : Int) + 1) = (i : Int) + 1 := by rw [IntKind.wrap_i64]; omega
        have hi1 : (0 : Int) ≤ (i : Int) + 1 := by omega
        have hi2 : ((i : Int) + 1).toNat = i + 1 := by omega
        have hi3 : (i : Int) ≤ (cap : Int) := by omega
        have hi4 : i ≤ cap := hi
        have hi5 : ¬ (G = i + 1) := by omega
        have hi6 : ¬ (G = i) := by omega
        have hi6' : ¬ (cap = i) := by omega
        have hi7 : (i : Int) ≤ (cap : Int) + 1 := by omega
        have hi12 : ¬ ((i : Int) = (cap : Int)) := by omega
        have hi13 : i ≤ cap + 1 := by omega
        clear hX1 hX2 hrz hfin hff hold0 hold htk hcur ht hcs hcl hkk hG hROW hR hRt hb1 hf1 hv1 hg1 hvl hsz1 hb2 hg2 hf2 hc2 hc3 hc2l hc3l hc3t hW1 hW2
        go_enter Tryz.func71, Tryz.ntmps71
        go_wp2_with (first
          | (at_builtin; refine Lib.wpList_append_run _ rfl _ _ _ _ rfl _ _ rfl rfl _ _ (HRZ.out _) ?_)
          | (refine wpList_copy_runI _ rfl _ _ 86 86 rfl _ _ rfl rfl (HX1'.out _) ?_))
        go_region_law_o (refine step_copy_runI rfl _ _ 86 86 rfl _ _ (by simp [Act.eval, Act.put]) (by simp [Act.eval, Act.put]) (HX2'.out _) ?_)
        go_wp2
        go_ret
        exact ⟨_, rfl, HFIN.out, HFF.out.mono (by simp), fun q hq => .inr (Nat.le_of_eq (by simpa [Value.ownBlock] using hq))⟩
end Go.Proofs.YtpjbdpepofnleaaGreat
end
section
namespace Go.Proofs.YtpjbdpepofnleaaGreat
open Go.RowKit Go.Sort Go.Shelf
theorem BytesAt.frD {S : List Nat} {w w' : World} {v : Value} {bs : List UInt8} {g : Nat} (h : BytesAt w v bs g) (hf : Fr S w w') (hS : g ∈ S → w.heap.size ≤ g) : BytesAt w' v bs g := by
  by_cases hg : g ∈ S
  · have hge := hS hg
    obtain ⟨A, c, off, hv, hc, hb⟩ := h
    refine ⟨A, c, off, hv, hc, fun h0 => ?_⟩
    exfalso
    obtain ⟨_, hcell⟩ := hb h0
    obtain ⟨u, hu⟩ : ∃ u, (bcells bs)[0]? = some u := ⟨_, List.getElem?_eq_getElem (by rw [bcells_len]; exact h0)⟩
    have := World.block_lt_of_cell? w _ (hcell 0 u hu)
    simp only at this
    omega
  · exact h.fr hf hg
def ItC (D : Nat → Prop) (w : World) (x : It) (kv vv av : Value) : Prop := (∃ g, BytesAt w kv x.key g ∧ D g) ∧ (∃ g, BytesAt w vv x.v g ∧ D g) ∧ av = .int .i64 (x.at_ : Int)
def ItsC (D : Nat → Prop) (w : World) : List It → List Value → Prop
  | [], [] => True
  | x :: l, kv :: vv :: av :: cs => ItC D w x kv vv av ∧ ItsC D w l cs
  | _, _ => False
def kindOf (n : Nd) : Int := if n.lf then 1 else 2
def NdV (D : Nat → Prop) (w : World) (base : Nat) (v : Value) (n : Nd) : Prop :=
  ∃ sv cs, v = .agg #[.int .i64 (kindOf n), .int .i64 (n.first : Int), sv] ∧ w.ownsRow base 77 3 sv n.l.length cs ∧ ItsC (fun q => D q ∧ sv.ownBlock ≠ some q) w n.l cs ∧ ∀ g, sv.ownBlock = some g → D g
section
variable {D D' : Nat → Prop} {w w' : World}
theorem ItC.fr {S : List Nat} {x : It} {kv vv av : Value} (h : ItC D w x kv vv av) (hf : Fr S w w') (hS : ∀ g, D g → g ∈ S → w.heap.size ≤ g) : ItC D w' x kv vv av := by
  obtain ⟨⟨g1, h1, d1⟩, ⟨g2, h2, d2⟩, h3⟩ := h
  exact ⟨⟨g1, h1.frD hf (hS g1 d1), d1⟩, ⟨g2, h2.frD hf (hS g2 d2), d2⟩, h3⟩
theorem ItC.weak {x : It} {kv vv av : Value} (h : ItC D w x kv vv av) (hD : ∀ g, D g → D' g) : ItC D' w x kv vv av := by
  obtain ⟨⟨g1, h1, d1⟩, ⟨g2, h2, d2⟩, h3⟩ := h
  exact ⟨⟨g1, h1, hD g1 d1⟩, ⟨g2, h2, hD g2 d2⟩, h3⟩
theorem ItC.one {x : It} {kv vv av : Value} (h : ItC D w x kv vv av) : Three [kv, vv, av] := by
  obtain ⟨⟨g1, ⟨_, _, _, rfl, _⟩, _⟩, ⟨g2, ⟨_, _, _, rfl, _⟩, _⟩, rfl⟩ := h
  intro u hu
  simp only [List.mem_cons, List.not_mem_nil, or_false] at hu
  rcases hu with rfl | rfl | rfl <;> rfl
theorem ItsC.fr {S : List Nat} (hf : Fr S w w') (hS : ∀ g, D g → g ∈ S → w.heap.size ≤ g) : ∀ {l : List It} {cs : List Value}, ItsC D w l cs → ItsC D w' l cs
  | [], [], _ => trivial
  | _x :: _l, _kv :: _vv :: _av :: _cs, h => ⟨h.1.fr hf hS, ItsC.fr hf hS h.2⟩
  | [], _ :: _, h => h.elim
  | _ :: _, [], h => h.elim
  | _ :: _, [_], h => h.elim
  | _ :: _, [_, _], h => h.elim
theorem ItsC.weak (hD : ∀ g, D g → D' g) : ∀ {l : List It} {cs : List Value}, ItsC D w l cs → ItsC D' w l cs
  | [], [], _ => trivial
  | _x :: _l, _kv :: _vv :: _av :: _cs, h => ⟨h.1.weak hD, ItsC.weak hD h.2⟩
  | [], _ :: _, h => h.elim
  | _ :: _, [], h => h.elim
  | _ :: _, [_], h => h.elim
  | _ :: _, [_, _], h => h.elim
theorem ItsC.len : ∀ {l : List It} {cs : List Value}, ItsC D w l cs → cs.length = l.length * 3
  | [], [], _ => rfl
  | x :: l, kv :: vv :: av :: cs, h => by have := ItsC.len h.2; simp only [List.length_cons]; omega
  | [], _ :: _, h => h.elim
  | _ :: _, [], h => h.elim
  | _ :: _, [_], h => h.elim
  | _ :: _, [_, _], h => h.elim
theorem ItsC.one : ∀ {l : List It} {cs : List Value}, ItsC D w l cs → Three cs
  | [], [], _ => fun u hu => by cases hu
  | x :: l, kv :: vv :: av :: cs, h => fun u hu => by
    have h1 := h.1.one
    have h2 := ItsC.one h.2
    rcases List.mem_cons.1 hu with rfl | hu
    · exact h1 _ (by simp)
    · rcases List.mem_cons.1 hu with rfl | hu
      · exact h1 _ (by simp)
      · rcases List.mem_cons.1 hu with rfl | hu
        · exact h1 _ (by simp)
        · exact h2 u hu
  | [], _ :: _, h => h.elim
  | _ :: _, [], h => h.elim
  | _ :: _, [_], h => h.elim
  | _ :: _, [_, _], h => h.elim
theorem ItsC.append : ∀ {l l2 : List It} {cs cs2 : List Value}, ItsC D w l cs → ItsC D w l2 cs2 → ItsC D w (l ++ l2) (cs ++ cs2)
  | [], _, [], _, _, h2 => h2
  | _x :: _l, _, _kv :: _vv :: _av :: _cs, _, h, h2 => ⟨h.1, ItsC.append h.2 h2⟩
  | [], _, _ :: _, _, h, _ => h.elim
  | _ :: _, _, [], _, h, _ => h.elim
  | _ :: _, _, [_], _, h, _ => h.elim
  | _ :: _, _, [_, _], _, h, _ => h.elim
theorem ItsC.take : ∀ (k : Nat) {l : List It} {cs : List Value}, ItsC D w l cs → ItsC D w (l.take k) (cs.take (3 * k)) ∧ ItsC D w (l.drop k) (cs.drop (3 * k))
  | 0, _, _, h => ⟨by simp [ItsC], h⟩
  | k + 1, [], [], _ => by simp [ItsC]
  | k + 1, x :: l, kv :: vv :: av :: cs, h => by
    obtain ⟨h1, h2⟩ := ItsC.take k h.2
    rw [show 3 * (k + 1) = 3 * k + 1 + 1 + 1 by omega]
    simp only [List.take_succ_cons, List.drop_succ_cons]
    exact ⟨⟨h.1, h1⟩, h2⟩
  | _, [], _ :: _, h => h.elim
  | _, _ :: _, [], h => h.elim
  | _, _ :: _, [_], h => h.elim
  | _, _ :: _, [_, _], h => h.elim
theorem ItsC.at_ : ∀ {l : List It} {cs : List Value} {k : Nat} {x : It}, ItsC D w l cs → l[k]? = some x → ∃ kv vv av, cs[k * 3]? = some kv ∧ cs[k * 3 + 1]? = some vv ∧ cs[k * 3 + 2]? = some av ∧ ItC D w x kv vv av
  | x :: l, kv :: vv :: av :: cs, 0, y, h, hk => by
    simp only [List.getElem?_cons_zero, Option.some.injEq] at hk
    subst hk
    exact ⟨kv, vv, av, rfl, rfl, rfl, h.1⟩
  | x :: l, kv :: vv :: av :: cs, k + 1, y, h, hk => by
    obtain ⟨a, b, c, h1, h2, h3, h4⟩ := ItsC.at_ (k := k) h.2 (by simpa using hk)
    refine ⟨a, b, c, ?_, ?_, ?_, h4⟩
    · rw [show (k + 1) * 3 = k * 3 + 1 + 1 + 1 by omega]; simpa using h1
    · rw [show (k + 1) * 3 + 1 = k * 3 + 1 + 1 + 1 + 1 by omega]; simpa using h2
    · rw [show (k + 1) * 3 + 2 = k * 3 + 2 + 1 + 1 + 1 by omega]; simpa using h3
  | [], [], _, _, _, hk => by simp at hk
  | [], _ :: _, _, _, h, _ => h.elim
  | _ :: _, [], _, _, h, _ => h.elim
  | _ :: _, [_], _, _, h, _ => h.elim
  | _ :: _, [_, _], _, _, h, _ => h.elim
theorem NdV.fr {S : List Nat} {base : Nat} {v : Value} {n : Nd} (h : NdV D w base v n) (hf : Fr S w w') (hS : ∀ g, D g → g ∈ S → w.heap.size ≤ g) : NdV D w' base v n := by
  obtain ⟨sv, cs, h1, h2, h3, h4⟩ := h
  refine ⟨sv, cs, h1, own_fr h2 hf (fun g hg hm => ?_), h3.fr hf (fun g hg => hS g hg.1), h4⟩
  have := own_lt h2 g hg
  have := hS g (h4 g hg) hm
  omega
theorem NdV.weak {base : Nat} {v : Value} {n : Nd} (h : NdV D w base v n) (hD : ∀ g, D g → D' g) : NdV D' w base v n := by
  obtain ⟨sv, cs, h1, h2, h3, h4⟩ := h
  exact ⟨sv, cs, h1, h2, h3.weak (fun g hg => ⟨hD g hg.1, hg.2⟩), fun g hg => hD g (h4 g hg)⟩
theorem BytesAt.re {v : Value} {bs : List UInt8} (h : ∃ g, BytesAt w v bs g ∧ D g) (hD : ∀ q, D q → q < w.heap.size → D' q) (h0 : ∃ q, D' q) : ∃ g, BytesAt w v bs g ∧ D' g := by
  obtain ⟨g, hb, hd⟩ := h
  obtain ⟨A, c, off, hv, hc, hcell⟩ := id hb
  by_cases hn : 0 < bs.length
  · obtain ⟨_, hc2⟩ := hcell hn
    obtain ⟨u, hu⟩ : ∃ u, (bcells bs)[0]? = some u := ⟨_, List.getElem?_eq_getElem (by rw [bcells_len]; exact hn)⟩
    have := World.block_lt_of_cell? w _ (hc2 0 u hu)
    exact ⟨g, hb, hD g hd this⟩
  · obtain ⟨q, hq⟩ := h0
    exact ⟨q, ⟨A, c, off, hv, hc, fun h => absurd h hn⟩, hq⟩
theorem ItC.re {x : It} {kv vv av : Value} (h : ItC D w x kv vv av) (hD : ∀ q, D q → q < w.heap.size → D' q) (h0 : ∃ q, D' q) : ItC D' w x kv vv av := ⟨BytesAt.re h.1 hD h0, BytesAt.re h.2.1 hD h0, h.2.2⟩
theorem ItsC.re (hD : ∀ q, D q → q < w.heap.size → D' q) (h0 : ∃ q, D' q) : ∀ {l : List It} {cs : List Value}, ItsC D w l cs → ItsC D' w l cs
  | [], [], _ => trivial
  | _x :: _l, _kv :: _vv :: _av :: _cs, h => ⟨h.1.re hD h0, ItsC.re hD h0 h.2⟩
  | [], _ :: _, h => h.elim
  | _ :: _, [], h => h.elim
  | _ :: _, [_], h => h.elim
  | _ :: _, [_, _], h => h.elim
theorem own_base {b b' : Nat} {e : TypeId} {size n : Nat} {v : Value} {xs : List Value} (h : w.ownsRow b e size v n xs) (hb : ∀ g, v.ownBlock = some g → b' ≤ g) : w.ownsRow b' e size v n xs := by
  refine ⟨h.1, ?_⟩
  rcases h.2 with h2 | ⟨g, cap, cur, rfl, _, r⟩
  · exact .inl h2
  · exact .inr ⟨g, cap, cur, rfl, hb g rfl, r⟩
end
set_option maxRecDepth 100000 in
set_option maxHeartbeats 400000 in
theorem half16_any {w : World} {v : Value} {bs : List UInt8} {g : Nat} (h : BytesAt w v bs g) (h2 : 2 ≤ bs.length) :
    Calls Tryz.prog 85 #[v] w fun e w' => e = .returned (.int .i64 ((r16 bs : Nat) : Int)) ∧ ∃ m, w' = w.drewN m := by
  obtain ⟨A, c, off, rfl, hc, hb⟩ := h
  obtain ⟨rfl, hb'⟩ := hb (by omega)
  match bs, h2 with
  | u :: v :: r, _ =>
    have c0 : w.cell? ⟨g, off, none⟩ = some (.int .u8 (u.toNat : Int)) := hb' 0 (B8 u) rfl
    have c1 : w.cell? ⟨g, off + 1, none⟩ = some (.int .u8 (v.toNat : Int)) := hb' 1 (B8 v) rfl
    have hub : u.toNat < 256 := u.toNat_lt
    have hvb : v.toNat < 256 := v.toNat_lt
    have hor := or_i64 u.toNat v.toNat hub hvb
    have HOR := Lib.hid hor
    have hn : 2 ≤ (u :: v :: r).length := by simp
    generalize (u :: v :: r).length = n at hn hc ⊢
    have hn0 : (0 : Int) < (n : Int) := by omega
    have hn1 : (1 : Int) < (n : Int) := by omega
    clear hor hb hb'
    go_enter Tryz.func85, Tryz.ntmps85
    go_wp2
    go_quiet (fail)
    go_wp2
    go_ret
    refine ⟨?_, _, rfl⟩
    show Ending.returned (.int .i64 (bits .or .i64 ((u.toNat : Int) * 256) (v.toNat : Int))) = _
    rw [HOR.out]
    rfl
def Rd (w : World) (rb g : Nat) (rest : List UInt8) : Prop :=
  ∃ off c, Blk w rb 183 [.slice (some ⟨g, off, none⟩) rest.length c, .bool false] ∧ rest.length ≤ c ∧ ∀ (j : Nat) (u : Value), (bcells rest)[j]? = some u → w.cell? ⟨g, off + j, none⟩ = some u
set_option maxRecDepth 100000 in
set_option maxHeartbeats 1000000 in
theorem take_rd {w : World} {rb g k : Nat} {rest : List UInt8} (h : Rd w rb g rest) (hk : k ≤ rest.length) (hg : g ≠ rb) :
    Calls Tryz.prog 108 #[.pointer (some ⟨rb, 0, none⟩), .int .i64 (k : Int)] w fun e w' => ∃ v, e = .returned v ∧ BytesAt w' v (rest.take k) g ∧ Rd w' rb g (rest.drop k) ∧ Fr [rb] w w' ∧ w'.heap.size = w.heap.size := by
  obtain ⟨off, c, hb, hc, hcell⟩ := h
  have c0 := hb.at_ (i := 0) rfl
  have c1 := hb.at_ (i := 1) rfl
  have hfz := hb.free
  have hlt := hb.lt
  have HB := Lib.hid hb; have HC := Lib.hid hcell
  clear hb hcell
  obtain ⟨n, hn⟩ : ∃ n, n = rest.length := ⟨_, rfl⟩
  rw [← hn] at hc hk c0
  have fin : ∀ off' c', (n = k ∨ off' = off + k) → n - k ≤ c' → BytesAt (w.setCell ⟨rb, 0, none⟩ (.slice (some ⟨g, off', none⟩) (n - k) c')) (.slice (some ⟨g, off, none⟩) k c) (rest.take k) g ∧ Rd (w.setCell ⟨rb, 0, none⟩ (.slice (some ⟨g, off', none⟩) (n - k) c')) rb g (rest.drop k) := fun off' c' ho h1 => by
    have hf : Fr [rb] w (w.setCell ⟨rb, 0, none⟩ (.slice (some ⟨g, off', none⟩) (n - k) c')) := (Fr.refl [rb] w).setCell (.inl (by simp)) _
    have keep : ∀ (j : Nat) (u : Value), (bcells rest)[j]? = some u → (w.setCell ⟨rb, 0, none⟩ (.slice (some ⟨g, off', none⟩) (n - k) c')).cell? ⟨g, off + j, none⟩ = some u := fun j u hj => by
      rw [hf.cell (World.block_lt_of_cell? w _ (HC.out j u hj)) (by simpa using hg)]
      exact HC.out j u hj
    refine ⟨⟨_, c, off, by rw [List.length_take, Nat.min_eq_left (by omega)], by rw [List.length_take]; omega, fun _ => ⟨rfl, fun j u hj => keep j u ?_⟩⟩, off', c', ?_, by rw [List.length_drop]; omega, fun j u hj => ?_⟩
    · rw [bcells, List.map_take] at hj
      rw [List.getElem?_take] at hj
      split at hj
      · exact hj
      · cases hj
    · have := HB.out.set_ 0 (.slice (some ⟨g, off', none⟩) (n - k) c')
      rw [List.length_drop, ← hn]
      exact this
    · rcases ho with ho | rfl
      · rw [List.drop_of_length_le (by omega)] at hj; cases hj
      · rw [bcells, List.map_drop, List.getElem?_drop] at hj
        rw [Nat.add_assoc]
        exact keep (k + j) u hj
  have FIN := Lib.hid fin
  have hk1 : ¬ ((n : Int) < (k : Int)) := by omega
  have hk2 : (k : Int) ≤ (c : Int) := by omega
  have hk3 : (k : Int) ≤ (n : Int) := by omega
  clear fin
  by_cases hck : c = k
  · obtain rfl : n = k := by omega
    subst hck
    go_enter Tryz.func108, Tryz.ntmps108
    go_wp2
    go_ret
    obtain ⟨f1, f2⟩ := FIN.out off 0 (.inl (by first | rfl | trivial)) (by omega)
    rw [Nat.sub_self] at f1 f2
    subst hn
    exact ⟨_, rfl, by simpa using f1, by simpa using f2, (Fr.refl [rb] w).setCell (.inl (by simp)) _, by simp [World.setCell]⟩
  · go_enter Tryz.func108, Tryz.ntmps108
    go_wp2
    go_ret
    obtain ⟨f1, f2⟩ := FIN.out (off + k) (c - k) (.inr rfl) (by omega)
    subst hn
    exact ⟨_, rfl, f1, f2, (Fr.refl [rb] w).setCell (.inl (by simp)) _, by simp [World.setCell]⟩
theorem Rd.fr {S : List Nat} {w w' : World} {rb g : Nat} {rest : List UInt8} (h : Rd w rb g rest) (hf : Fr S w w') (h1 : rb ∉ S) (h2 : g ∉ S) : Rd w' rb g rest := by
  obtain ⟨off, c, k1, k2, k4⟩ := h
  exact ⟨off, c, k1.fr hf h1, k2, fun j u hj => by rw [hf.cell (World.block_lt_of_cell? w _ (k4 j u hj)) h2]; exact k4 j u hj⟩
set_option maxRecDepth 100000 in
set_option maxHeartbeats 1000000 in
theorem one_rd {w : World} {rb g : Nat} {x : UInt8} {rest : List UInt8} (h : Rd w rb g (x :: rest)) (hg : g ≠ rb) :
    Calls Tryz.prog 107 #[.pointer (some ⟨rb, 0, none⟩)] w fun e w' => e = .returned (.int .i64 (x.toNat : Int)) ∧ Rd w' rb g rest ∧ Fr [rb] w w' ∧ w'.heap.size = w.heap.size := by
  have HT := Lib.hid (take_rd (k := 1) h (by simp) hg)
  clear h
  refine calls_post fun R HQ => ?_
  go_enter Tryz.func107, Tryz.ntmps107
  go_wp2_with fail
  refine HT.out.mono ?_
  rintro e w1 ⟨v, rfl, hb, hr, hf, hz⟩
  obtain ⟨A, c, off, rfl, hc, hcell⟩ := hb
  obtain ⟨rfl, hc0⟩ := hcell (by simp)
  have k0 := hc0 0 (B8 x) rfl
  rw [Nat.add_zero] at k0
  have HQ1 : Hid (R (.returned (.int .i64 (x.toNat : Int))) w1) := Lib.hid (HQ.out _ _ ⟨rfl, hr, hf, hz⟩)
  have hx : x.toNat < 256 := x.toNat_lt
  unfold B8 at k0
  rw [show (List.take 1 (x :: rest)).length = 1 from rfl] at hc ⊢
  clear hcell hc0 hr hf hz HT
  go_wp2
  exact HQ1.out
section
variable {P : Program} {ops : Array Oper} {rest : List Oper} {o : Oper} {a : Act} {w : World} {Q : Exit → Act → World → Prop}
theorem wpL_load {g : Nat} {t' : TypeId} {cs : List Value} {d : TypeDesc} (hgd : o.guard = none) (t : TypeId) (x : Operand) (ho : o.op = .load t x) (hx : a.eval x = .pointer (some ⟨g, 0, none⟩)) (hb : Blk w g t' cs)
    (hu : P.underlying t = some d) (hd : d.isRow = true) (hi : (P.info? t).map (·.size) = some cs.length) (h : wpList P ops Q rest (a.put o.dst (.agg cs.toArray)) w) : wpList P ops Q (o :: rest) a w := by
  have hl := run_loadVar_row (P := P) w g t' t cs.toArray (0, 0) d hb hu (by cases d <;> simp_all) (by simpa using hi)
  refine wpList_plain hgd fun K hK => ?_
  unfold Oper.wp
  simp [execOp, ho, hx, Instr.loadAt, Instr.sureAddr, hl, Result.andThen]
  exact hK _ _ h
theorem wpL_store {g : Nat} {t' : TypeId} {old : List Value} (hgd : o.guard = none) (t : TypeId) (x y : Operand) (ho : o.op = .store t x y) (cs : List Value)
    (hx : a.eval x = .pointer (some ⟨g, 0, none⟩)) (hy : a.eval y = .agg cs.toArray) (hb : Blk w g t' old)
    (hi : (P.info? t).map (·.size) = some cs.length) (hl : old.length = cs.length) (h1 : ∀ v ∈ cs, v.oneCell' = true)
    (h : ∀ w1, Blk w1 g t' cs → Fr [g] w w1 → w1.heap.size = w.heap.size → wpList P ops Q rest (a.put o.dst undef) w1) : wpList P ops Q (o :: rest) a w := by
  refine wpList_plain hgd fun K hK => wp_store_row t x y ho cs hx hy hb hi hl h1 (hK _ _ (h _ (hb.row_ cs) ((Fr.refl _ _).setRow (by simp) _) (by simp [World.setRow])))
end
set_option maxRecDepth 100000 in
set_option maxHeartbeats 4000000 in
/-- An item read. -/
theorem item_rd {w : World} {rb g : Nat} {lf : Bool} {x : It} {rest : List UInt8} (h : Rd w rb g (ib lf x ++ rest)) (hx : x.ok lf) (hg : g ≠ rb) (hgl : g < w.heap.size) :
    Calls Tryz.prog 109 #[.pointer (some ⟨rb, 0, none⟩), .int .i64 (if lf then 1 else 2)] w fun e w' => ∃ kv vv, e = .returned (.agg #[kv, vv, .int .i64 (x.at_ : Int)]) ∧ ItC (fun q => w.heap.size ≤ q) w' x kv vv (.int .i64 (x.at_ : Int)) ∧ Rd w' rb g rest ∧ Fr [rb] w w' := by
  have hrl : rb < w.heap.size := by obtain ⟨_, _, hb, _⟩ := h; exact hb.lt
  obtain ⟨u, hu⟩ : ∃ u, u = UInt8.ofNat x.key.length := ⟨_, rfl⟩
  have hku : u.toNat = x.key.length := by rw [hu, UInt8.toNat_ofNat']; have := hx.k2; omega
  refine calls_post fun R HQ => ?_
  have hf0 : Fr [] w ((w.alloc (.cells zit.toArray 77)).alloc (.cells zit.toArray 77)) := ((Fr.refl [] w).alloc _).alloc _
  have hb4 : Blk ((w.alloc (.cells zit.toArray 77)).alloc (.cells zit.toArray 77)) w.heap.size 77 zit := (Blk.new w _ zit).alloc _
  have hb5 : Blk ((w.alloc (.cells zit.toArray 77)).alloc (.cells zit.toArray 77)) (w.heap.size + 1) 77 zit := by
    have := Blk.new (w.alloc (.cells zit.toArray 77)) 77 zit
    rwa [show (w.alloc (.cells zit.toArray 77)).heap.size = w.heap.size + 1 by simp] at this
  have hz0 : ((w.alloc (.cells zit.toArray 77)).alloc (.cells zit.toArray 77)).heap.size = w.heap.size + 2 := by simp
  have hr0 := h.fr hf0 (by simp) (by simp)
  have HX := Lib.hid hx
  clear h hx
  cases lf with
  | true =>
    have e0 : ib true x ++ rest = u :: (UInt8.ofNat x.v.length :: (x.key ++ (x.v ++ rest))) := by rw [hu]; simp [ib]
    obtain ⟨u2, hu2⟩ : ∃ u2, u2 = UInt8.ofNat x.v.length := ⟨_, rfl⟩
    have hvu : u2.toNat = x.v.length := by rw [hu2, UInt8.toNat_ofNat']; have := HX.out.v; omega
    rw [e0, ← hu2] at hr0
    have HO1 := Lib.hid (one_rd hr0 hg)
    have HF0 := Lib.hid hf0; have HB4 := Lib.hid hb4; have HB5 := Lib.hid hb5; have HZ0 := Lib.hid hz0
    have HKU := Lib.hid hku; have HVU := Lib.hid hvu
    clear hf0 hb4 hb5 hz0 hr0 e0 hu hu2 hku hvu
    go_enter Tryz.func109, Tryz.ntmps109
    go_wp2_with (with_reducible refine wpList_alloc_z rfl 77 rfl (.agg #[.slice none 0 0, .slice none 0 0, .int .i64 0]) zit.toArray zero_it rfl ?_)
    refine HO1.out.mono ?_
    rintro e w1 ⟨rfl, hr1, hf1, hz1⟩
    have HO2 := Lib.hid (one_rd hr1 hg)
    have HF1 := Lib.hid hf1; have HZ1 := Lib.hid hz1
    clear hr1 hf1 hz1
    go_wp2_with fail
    refine HO2.out.mono ?_
    rintro e w2 ⟨rfl, hr2, hf2, hz2⟩
    have HO3 := Lib.hid (take_rd (k := u.toNat) hr2 (by rw [HKU.out, List.length_append]; omega) hg)
    have HF2 := Lib.hid (HF1.out.trans hf2 (by simp)); have HZ2 := Lib.hid (hz2.trans HZ1.out)
    clear hr2 hf2 hz2
    go_wp2_with fail
    refine HO3.out.mono ?_
    rintro e w3 ⟨v3, rfl, hb3, hr3, hf3, hz3⟩
    rw [HKU.out, List.take_left] at hb3
    rw [HKU.out, List.drop_left] at hr3
    have HO4 := Lib.hid (bytes_clone hb3 (by have := HX.out.k2; omega))
    have HF3 := Lib.hid (HF2.out.trans hf3 (by simp)); have HZ3 := Lib.hid (hz3.trans HZ2.out); have HR3 := Lib.hid hr3
    clear hb3 hr3 hf3 hz3
    go_wp2_with fail
    refine HO4.out.mono ?_
    rintro e w4 ⟨_, rfl, ⟨g4, hb4', hg4⟩, hf4⟩
    obtain ⟨A4, c4, o4, rfl, hc4, hcc4⟩ := id hb4'
    clear hc4 hcc4
    have hf04 : Fr [rb] ((w.alloc (.cells zit.toArray 77)).alloc (.cells zit.toArray 77)) w4 := HF3.out.trans hf4 (by simp)
    have hfw4 : Fr [rb] w w4 := (HF0.out.mono (by simp)).trans hf04 (by simp)
    have hB5 := HB5.out.fr hf04 (by simp; omega)
    have hB4 := HB4.out.fr hf04 (by simp; omega)
    have k50 := hB5.at_ (i := 0) rfl
    have hfz := hB5.free
    have hl5 := hB5.lt
    have hz4 := hf4.size
    have hzw : w.heap.size + 2 ≤ w4.heap.size := by have := HZ3.out; have := HZ0.out; omega
    have HS5 : ∀ vv : Value, Fr [w.heap.size + 1] w4 (w4.setCell ⟨w.heap.size + 1, 0, none⟩ vv) := fun vv => (Fr.refl _ _).setCell (.inl (by simp)) _
    have hr4 := (HR3.out.fr hf4 (by simp) (by simp)).fr (HS5 (.slice A4 x.key.length c4)) (by simp; omega) (by simp; omega)
    have hg4' : w.heap.size + 2 ≤ g4 := by have := HZ3.out; have := HZ0.out; omega
    have HC4 : Hid (BytesAt (w4.setCell ⟨w.heap.size + 1, 0, none⟩ (.slice A4 x.key.length c4)) (.slice A4 x.key.length c4) x.key g4) := Lib.hid (hb4'.fr (HS5 (.slice A4 x.key.length c4)) (by simp; omega))
    have HB5' := Lib.hid (hB5.set_ 0 (.slice A4 x.key.length c4))
    have HB4' := Lib.hid (hB4.fr (HS5 (.slice A4 x.key.length c4)) (by simp))
    have HF4 := Lib.hid (hfw4.setCell (p := ⟨w.heap.size + 1, 0, none⟩) (.inr (by simp)) (.slice A4 x.key.length c4))
    have HO5 := Lib.hid (take_rd (k := u2.toNat) hr4 (by rw [HVU.out, List.length_append]; omega) hg)
    have HZ4 : Hid (w.heap.size + 2 ≤ (w4.setCell ⟨w.heap.size + 1, 0, none⟩ (.slice A4 x.key.length c4)).heap.size) := Lib.hid (by simpa [World.setCell] using hzw)
    clear hf04 hfw4 hB5 hB4 hz4 hzw HS5 hr4 hb4' hg4 hf4 HR3 HF3
    go_wp2_with fail
    clear k50 hfz hl5
    refine HO5.out.mono ?_
    rintro e w6 ⟨v6, rfl, hb6, hr6, hf6, hz6⟩
    rw [HVU.out, List.take_left] at hb6
    rw [HVU.out, List.drop_left] at hr6
    have HO6 := Lib.hid (bytes_clone hb6 (by have := HX.out.v; omega))
    have hg4s : g4 ∉ [rb] := by simp; omega
    have HC6 := Lib.hid (HC4.out.fr hf6 hg4s); have HF6 := Lib.hid (HF4.out.trans hf6 (by simp)); have HR6 := Lib.hid hr6
    have HB56 := Lib.hid (HB5'.out.fr hf6 (by simp; omega)); have HB46 := Lib.hid (HB4'.out.fr hf6 (by simp; omega))
    have HZ6 : Hid (w.heap.size + 2 ≤ w6.heap.size) := Lib.hid (by have := HZ4.out; omega)
    clear hb6 hr6 hf6 hz6 HC4 HF4 HB5' HB4' HZ4 HO5 hg4s
    go_wp2_with fail
    refine HO6.out.mono ?_
    rintro e w7 ⟨_, rfl, ⟨g7, hb7, hg7⟩, hf7⟩
    obtain ⟨A7, c7, o7, rfl, hc7, hcc7⟩ := id hb7
    clear hc7 hcc7
    have hB5 := HB56.out.fr hf7 (by simp)
    have k51 := hB5.at_ (i := 1) rfl
    have hfz := hB5.free
    have hl5 := hB5.lt
    have hs5 : Fr [w.heap.size + 1] w7 (w7.setCell ⟨w.heap.size + 1, 1, none⟩ (.slice A7 x.v.length c7)) := (Fr.refl _ _).setCell (.inl (by simp)) _
    have hzw := HZ6.out
    have hg7' : w.heap.size + 2 ≤ g7 := by omega
    have hz7 := hf7.size
    have HB58 : Hid (Blk (w7.setCell ⟨w.heap.size + 1, 1, none⟩ (.slice A7 x.v.length c7)) (w.heap.size + 1) 77 [(.slice A4 x.key.length c4), (.slice A7 x.v.length c7), .int .i64 0]) := Lib.hid (hB5.set_ 1 (.slice A7 x.v.length c7))
    have HB48 := Lib.hid ((HB46.out.fr hf7 (by simp)).fr hs5 (by simp))
    have HC8 : Hid (ItC (fun q => w.heap.size + 2 ≤ q) (w7.setCell ⟨w.heap.size + 1, 1, none⟩ (.slice A7 x.v.length c7)) x (.slice A4 x.key.length c4) (.slice A7 x.v.length c7) (.int .i64 (x.at_ : Int))) := Lib.hid ⟨⟨g4, (HC6.out.fr hf7 (by simp)).fr hs5 (by simp; omega), by omega⟩, ⟨g7, hb7.fr hs5 (by simp; omega), by omega⟩, rfl⟩
    have HR8 := Lib.hid ((HR6.out.fr hf7 (by simp) (by simp)).fr hs5 (by simp; omega) (by simp; omega))
    have HF8 := Lib.hid ((HF6.out.trans hf7 (by simp)).setCell (p := ⟨w.heap.size + 1, 1, none⟩) (.inr (by simp)) (.slice A7 x.v.length c7))
    have hat : x.at_ = 0 := by have := HX.out.bare; simpa using this
    have HT : Hid (Three [(.slice A4 x.key.length c4), (.slice A7 x.v.length c7), .int .i64 0]) := Lib.hid (by have := HC8.out.one; rw [hat] at this; exact this)
    have HAT := Lib.hid hat
    clear hb7 hf7 hs5 hB5 HC6 HF6 HR6 HB56 HB46 hg7 hat
    go_upto_region 9 with fail
    clear k51 hfz hl5
    go_wp2_with (first
      | (refine wpL_load rfl 77 (.tmp 5) rfl rfl HB58.out Tryz.underlying77 rfl size_it ?_)
      | (refine wpL_store rfl 77 (.tmp 4) (.tmp 32) rfl [(.slice A4 x.key.length c4), (.slice A7 x.v.length c7), .int .i64 0] rfl rfl HB48.out size_it rfl HT.out ?_))
    intro w9 hb9 hf9 hz9
    have HE : Hid (∃ kv vv, Ending.returned (.agg #[(.slice A4 x.key.length c4), (.slice A7 x.v.length c7), .int .i64 0]) = .returned (.agg #[kv, vv, .int .i64 (x.at_ : Int)]) ∧ ItC (fun q => w.heap.size ≤ q) w9 x kv vv (.int .i64 (x.at_ : Int)) ∧ Rd w9 rb g rest ∧ Fr [rb] w w9) := Lib.hid ⟨(.slice A4 x.key.length c4), (.slice A7 x.v.length c7), by rw [HAT.out]; rfl, (HC8.out.fr hf9 (fun q (hq : w.heap.size + 2 ≤ q) hm => by have := List.mem_singleton.1 hm; omega)).weak (fun q (hq : w.heap.size + 2 ≤ q) => by show w.heap.size ≤ q; omega), HR8.out.fr hf9 (by simp; omega) (by simp; omega), HF8.out.trans hf9 (by simp)⟩
    have HB9 := Lib.hid hb9
    clear hb9 hf9 hz9
    go_wp2_with fail
    refine ret_blk (g := w.heap.size) (t' := 77) (cs := [(.slice A4 x.key.length c4), (.slice A7 x.v.length c7), .int .i64 0]) (d := _) rfl rfl HB9.out Tryz.underlying77 rfl size_it (HQ.out _ _ HE.out)
  | false =>
    have e0 : ib false x ++ rest = u :: (x.key ++ (b16 x.at_ ++ rest)) := by rw [hu]; simp [ib]
    rw [e0] at hr0
    have HO1 := Lib.hid (one_rd hr0 hg)
    have HF0 := Lib.hid hf0; have HB4 := Lib.hid hb4; have HB5 := Lib.hid hb5; have HZ0 := Lib.hid hz0
    have HKU := Lib.hid hku
    clear hf0 hb4 hb5 hz0 hr0 e0 hu hku
    go_enter Tryz.func109, Tryz.ntmps109
    go_wp2_with (with_reducible refine wpList_alloc_z rfl 77 rfl (.agg #[.slice none 0 0, .slice none 0 0, .int .i64 0]) zit.toArray zero_it rfl ?_)
    refine HO1.out.mono ?_
    rintro e w2 ⟨rfl, hr2, hf2, hz2⟩
    have HO3 := Lib.hid (take_rd (k := u.toNat) hr2 (by rw [HKU.out, List.length_append]; omega) hg)
    have HF2 := Lib.hid hf2; have HZ2 := Lib.hid hz2
    clear hr2 hf2 hz2
    go_wp2_with fail
    refine HO3.out.mono ?_
    rintro e w3 ⟨v3, rfl, hb3, hr3, hf3, hz3⟩
    rw [HKU.out, List.take_left] at hb3
    rw [HKU.out, List.drop_left] at hr3
    have HO4 := Lib.hid (bytes_clone hb3 (by have := HX.out.k2; omega))
    have HF3 := Lib.hid (HF2.out.trans hf3 (by simp)); have HZ3 := Lib.hid (hz3.trans HZ2.out); have HR3 := Lib.hid hr3
    clear hb3 hr3 hf3 hz3
    go_wp2_with fail
    refine HO4.out.mono ?_
    rintro e w4 ⟨_, rfl, ⟨g4, hb4', hg4⟩, hf4⟩
    obtain ⟨A4, c4, o4, rfl, hc4, hcc4⟩ := id hb4'
    clear hc4 hcc4
    have hf04 : Fr [rb] ((w.alloc (.cells zit.toArray 77)).alloc (.cells zit.toArray 77)) w4 := HF3.out.trans hf4 (by simp)
    have hfw4 : Fr [rb] w w4 := (HF0.out.mono (by simp)).trans hf04 (by simp)
    have hB5 := HB5.out.fr hf04 (by simp; omega)
    have hB4 := HB4.out.fr hf04 (by simp; omega)
    have k50 := hB5.at_ (i := 0) rfl
    have hfz := hB5.free
    have hl5 := hB5.lt
    have hz4 := hf4.size
    have hzw : w.heap.size + 2 ≤ w4.heap.size := by have := HZ3.out; have := HZ0.out; omega
    have HS5 : ∀ vv : Value, Fr [w.heap.size + 1] w4 (w4.setCell ⟨w.heap.size + 1, 0, none⟩ vv) := fun vv => (Fr.refl _ _).setCell (.inl (by simp)) _
    have hr4 := (HR3.out.fr hf4 (by simp) (by simp)).fr (HS5 (.slice A4 x.key.length c4)) (by simp; omega) (by simp; omega)
    have hg4' : w.heap.size + 2 ≤ g4 := by have := HZ3.out; have := HZ0.out; omega
    have HC4 : Hid (BytesAt (w4.setCell ⟨w.heap.size + 1, 0, none⟩ (.slice A4 x.key.length c4)) (.slice A4 x.key.length c4) x.key g4) := Lib.hid (hb4'.fr (HS5 (.slice A4 x.key.length c4)) (by simp; omega))
    have HB5' := Lib.hid (hB5.set_ 0 (.slice A4 x.key.length c4))
    have HB4' := Lib.hid (hB4.fr (HS5 (.slice A4 x.key.length c4)) (by simp))
    have HF4 := Lib.hid (hfw4.setCell (p := ⟨w.heap.size + 1, 0, none⟩) (.inr (by simp)) (.slice A4 x.key.length c4))
    have HO5 := Lib.hid (take_rd (k := 2) hr4 (by rw [List.length_append]; show 2 ≤ 2 + _; omega) hg)
    have HZ4 : Hid (w.heap.size + 2 ≤ (w4.setCell ⟨w.heap.size + 1, 0, none⟩ (.slice A4 x.key.length c4)).heap.size) := Lib.hid (by simpa [World.setCell] using hzw)
    clear hf04 hfw4 hB5 hB4 hz4 hzw HS5 hr4 hb4' hg4 hf4 HR3 HF3
    go_wp2_with fail
    clear k50 hfz hl5
    refine HO5.out.mono ?_
    rintro e w6 ⟨v6, rfl, hb6, hr6, hf6, hz6⟩
    have et : (b16 x.at_ ++ rest).take 2 = b16 x.at_ := rfl
    have ed : (b16 x.at_ ++ rest).drop 2 = rest := rfl
    rw [et] at hb6
    rw [ed] at hr6
    have hr16 : r16 (b16 x.at_) = x.at_ := by have := r16_b16 HX.out.at_ []; rwa [List.append_nil] at this
    have hh := half16_any hb6 (by show 2 ≤ 2; omega)
    rw [hr16] at hh
    have HO6 := Lib.hid hh
    have hg4s : g4 ∉ [rb] := by simp; omega
    have HC6 := Lib.hid (HC4.out.fr hf6 hg4s); have HF6 := Lib.hid (HF4.out.trans hf6 (by simp)); have HR6 := Lib.hid hr6
    have HB56 := Lib.hid (HB5'.out.fr hf6 (by simp; omega)); have HB46 := Lib.hid (HB4'.out.fr hf6 (by simp; omega))
    have HZ6 : Hid (w.heap.size + 2 ≤ w6.heap.size) := Lib.hid (by have := HZ4.out; omega)
    clear hb6 hr6 hf6 hz6 HC4 HF4 HB5' HB4' HZ4 HO5 hg4s et ed hr16 hh
    go_wp2_with fail
    refine HO6.out.mono ?_
    rintro e w7 ⟨rfl, q7, hq7⟩
    have hf7 : Fr [] w6 w7 := by rw [hq7]; exact (Fr.refl _ _).drewN _
    have hB5 := HB56.out.fr hf7 (by simp)
    have k51 := hB5.at_ (i := 2) rfl
    have hfz := hB5.free
    have hl5 := hB5.lt
    have hs5 : Fr [w.heap.size + 1] w7 (w7.setCell ⟨w.heap.size + 1, 2, none⟩ (.int .i64 (x.at_ : Int))) := (Fr.refl _ _).setCell (.inl (by simp)) _
    have hzw := HZ6.out
    have hz7 := hf7.size
    have hv0 : x.v = [] := by have := HX.out.bare; simpa using this
    have HB58 : Hid (Blk (w7.setCell ⟨w.heap.size + 1, 2, none⟩ (.int .i64 (x.at_ : Int))) (w.heap.size + 1) 77 [.slice A4 x.key.length c4, .slice none 0 0, .int .i64 (x.at_ : Int)]) := Lib.hid (hB5.set_ 2 (.int .i64 (x.at_ : Int)))
    have HB48 := Lib.hid ((HB46.out.fr hf7 (by simp)).fr hs5 (by simp))
    have HC8 : Hid (ItC (fun q => w.heap.size + 2 ≤ q) (w7.setCell ⟨w.heap.size + 1, 2, none⟩ (.int .i64 (x.at_ : Int))) x (.slice A4 x.key.length c4) (.slice none 0 0) (.int .i64 (x.at_ : Int))) := Lib.hid ⟨⟨g4, (HC6.out.fr hf7 (by simp)).fr hs5 (by simp; omega), by omega⟩, ⟨w.heap.size + 2, by rw [hv0]; exact BytesAt.nil _ _, by omega⟩, rfl⟩
    have HR8 := Lib.hid ((HR6.out.fr hf7 (by simp) (by simp)).fr hs5 (by simp; omega) (by simp; omega))
    have HF8 := Lib.hid ((HF6.out.trans hf7 (by simp)).setCell (p := ⟨w.heap.size + 1, 2, none⟩) (.inr (by simp)) (.int .i64 (x.at_ : Int)))
    have HT : Hid (Three [.slice A4 x.key.length c4, .slice none 0 0, .int .i64 (x.at_ : Int)]) := Lib.hid HC8.out.one
    clear hf7 hs5 hB5 HC6 HF6 HR6 HB56 HB46 hv0 hq7
    go_upto_region 9 with fail
    clear k51 hfz hl5
    go_wp2_with (first
      | (refine wpL_load rfl 77 (.tmp 5) rfl rfl HB58.out Tryz.underlying77 rfl size_it ?_)
      | (refine wpL_store rfl 77 (.tmp 4) (.tmp 32) rfl [.slice A4 x.key.length c4, .slice none 0 0, .int .i64 (x.at_ : Int)] rfl rfl HB48.out size_it rfl HT.out ?_))
    intro w9 hb9 hf9 hz9
    have HE : Hid (∃ kv vv, Ending.returned (.agg #[.slice A4 x.key.length c4, .slice none 0 0, .int .i64 (x.at_ : Int)]) = .returned (.agg #[kv, vv, .int .i64 (x.at_ : Int)]) ∧ ItC (fun q => w.heap.size ≤ q) w9 x kv vv (.int .i64 (x.at_ : Int)) ∧ Rd w9 rb g rest ∧ Fr [rb] w w9) := Lib.hid ⟨_, _, rfl, (HC8.out.fr hf9 (fun q (hq : w.heap.size + 2 ≤ q) hm => by have := List.mem_singleton.1 hm; omega)).weak (fun q (hq : w.heap.size + 2 ≤ q) => by show w.heap.size ≤ q; omega), HR8.out.fr hf9 (by simp; omega) (by simp; omega), HF8.out.trans hf9 (by simp)⟩
    have HB9 := Lib.hid hb9
    clear hb9 hf9 hz9
    go_wp2_with fail
    refine ret_blk (g := w.heap.size) (t' := 77) (cs := [.slice A4 x.key.length c4, .slice none 0 0, .int .i64 (x.at_ : Int)]) (d := _) rfl rfl HB9.out Tryz.underlying77 rfl size_it (HQ.out _ _ HE.out)
end Go.Proofs.YtpjbdpepofnleaaGreat
end
