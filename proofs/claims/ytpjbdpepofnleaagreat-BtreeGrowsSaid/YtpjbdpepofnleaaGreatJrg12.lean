/-
  Joined by join.py: Oi Oj
-/
import Derived.Test.YtpjbdpepofnleaaGreatJrg11
section
namespace Go.Proofs.YtpjbdpepofnleaaGreat
open Go.RowKit Go.Sort Go.Shelf
section
variable {P : Program} {ops : Array Oper} {Q : Exit → Act → World → Prop} {md : Region.Mode} {S : World → Prop} {I : List Nat} {o : Oper} {a : Act} {w : World} {K : Act → World → Prop}
theorem wpAnyK_two {i j : Nat} (di dj : Option Tmp) {oi oj : Oper} {fuel : Nat} {listed : Array Bool} (hoi : ops[i]? = some oi) (hoj : ops[j]? = some oj) (hdi : oi.dst = di) (hdj : oj.dst = dj) (hr : Region.ready md ops listed = [i, j]) (hgi : oi.guard = none) (hgj : oj.guard = none)
    (h1 : ∀ K : Act → World → Prop, (∀ v w', (crosses md ops I i = true → S w') → wpAnyK P md ops Q S I fuel (listed.setIfInBounds i true) (a.put di v) w' → K (a.put oi.dst v) w') → Oper.wp P oi a w K Q)
    (h2 : ∀ K : Act → World → Prop, (∀ v w', (crosses md ops I j = true → S w') → wpAnyK P md ops Q S I fuel (listed.setIfInBounds j true) (a.put dj v) w' → K (a.put oj.dst v) w') → Oper.wp P oj a w K Q) :
    wpAnyK P md ops Q S I (fuel + 1) listed a w := by
  subst hdi hdj
  refine ⟨fun h0 => absurd (hr ▸ h0) (by simp), fun k hk => ?_⟩
  rw [hr] at hk
  rcases List.mem_cons.1 hk with rfl | hk
  · refine wpOp_step hoi fun K hK => ?_
    rw [if_pos (by simp [Region.wanted, hgi])]
    exact h1 K (fun v w' h1 h2 => hK _ w' ⟨h1, h2⟩)
  · obtain rfl : k = j := by simpa using hk
    refine wpOp_step hoj fun K hK => ?_
    rw [if_pos (by simp [Region.wanted, hgj])]
    exact h2 K (fun v w' h1 h2 => hK _ w' ⟨h1, h2⟩)
theorem run_append_none_q {t t2 e e2 ty : TypeId} {q : Nat} (ht : P.underlying t = some (.slice e)) (h2 : P.underlying t2 = some (.slice e2)) (hi : (P.info? e).map (·.size) = some q) (A : Option Addr) (B : Option Addr) (n c d : Nat) (hn : n ≤ c) :
    (Builtin.append_ #[t, t2] ty #[.slice A n c, .slice B 0 d]).run P w = .ok (.slice A n c) w := by
  obtain ⟨i, hi1, hi2⟩ := Option.map_eq_some_iff.1 hi
  have h3 : ∀ w, (underlying t2).run P w = .ok (.slice e2) w := fun w => by simp [underlying, go_sem, h2]
  have h4 : ∀ w, (underlying t).run P w = .ok (.slice e) w := fun w => by simp [underlying, go_sem, ht]
  have h5 : ∀ w, (sizeOf e).run P w = .ok q w := fun w => by simp [sizeOf, typeInfo, go_sem, hi1, hi2]
  unfold Builtin.append_
  cases A <;> cases B <;> simp [go_sem, h3, h4, h5, hn, loadCellsFrom]
theorem wp_append_any {t : TypeId} (s x : Operand) (ho : o.op = .call { callee := .builtin .append, args := #[s, x], argTypes := #[t, t] })
    (e : TypeId) {i : TypeInfo} {z : Value} (size bytes : Nat) (ht : P.underlying t = some (.slice e)) (hi : P.info? e = some i) (hz : i.zero = some z) (hsize : i.size = size) (hby : i.bytes = bytes) (hzs : z.cells.size = size) (h0 : 0 < size)
    (A : Option Addr) (n cap0 : Nat) (xs : List Value) (hs : a.eval s = .slice A n cap0) (hown : w.ownsRow 0 e size (.slice A n cap0) n xs)
    (B : Option Addr) (m c : Nat) (news : List Value) (hx : a.eval x = .slice B m c) (hl : news.length = m * size) (hnews : 0 < m → ∃ ad, B = some ad ∧ ∀ j u, news[j]? = some u → w.cell? (ad.add j) = some u) (h1 : ∀ u ∈ news, u.oneCell' = true)
    (h63 : n + m ≤ maxLen) (hbytes : (n + m) * bytes ≤ 140737488355328) (H : Nat) (hH : w.heap.size = H)
    (h : ∀ A' cap w', w'.ownsRow 0 e size (.slice A' (n + m) cap) (n + m) (xs ++ news) → Fr (Value.slice A n cap0).ownBlock.toList w w' → (∀ q, (Value.slice A' (n + m) cap).ownBlock = some q → (Value.slice A n cap0).ownBlock = some q ∨ q = H) → K (a.put o.dst (.slice A' (n + m) cap)) w') : Oper.wp P o a w K Q := by
  by_cases hm : 0 < m
  · obtain ⟨ad, rfl, hn⟩ := hnews hm
    exact wp_append_fr s x ho e size bytes ht hi hz hsize hby hzs h0 _ n xs hs hown ad m c news hx hl hn h1 hm h63 hbytes H hH fun g cap w' k1 k2 k3 k4 => h _ cap w' k1 k2 (fun q hq => by
      obtain rfl : g = q := Option.some.inj hq
      exact k3)
  · obtain rfl : m = 0 := by omega
    obtain rfl : news = [] := List.length_eq_zero_iff.1 (by omega)
    obtain ⟨_, _, hsh, hcap, _⟩ := own_shape hown
    injection hsh with _ _ hc'
    have hrun := run_append_none_q (P := P) (w := w) (ty := o.type) ht ht (q := size) (by rw [hi]; simp [hsize]) A B n cap0 c (by omega)
    refine wp_run_same (v := .slice A n cap0) ?_ (h A cap0 w (by simpa using hown) (Fr.refl _ _) (fun q hq => .inl hq))
    simp only [execOp, ho, resolve, invoke, builtin, Sem.run_bind, Sem.run_pure, Result.andThen_ok, List.map_toArray, List.map_cons, List.map_nil, hs, hx, hrun]
end
set_option maxRecDepth 100000 in
set_option maxHeartbeats 4000000 in
/-- Two nodes as one, with the key between them. -/
theorem with_nd {D : Nat → Prop} {w : World} {base base2 gk : Nat} {v rv kv : Value} {n r : Nd} {key : Ky} (h : NdV D w base v n) (hr : NdV D w base2 rv r) (hk : BytesAt w kv key gk) (hdk : D gk) (hlr : n.lf = r.lf) (hl1 : n.l.length ≤ 600) (hl2 : r.l.length ≤ 600) (hD : ∀ q, w.heap.size ≤ q → D q) :
    Calls Tryz.prog 125 #[v, kv, rv] w fun e w' => ∃ ov, e = .returned ov ∧ NdV D w' w.heap.size ov (n.with_ key r) ∧ Fr [] w w' := by
  obtain ⟨A, c, cs, rfl, hc, hown, hits, hcell⟩ := h.parts
  obtain ⟨A2, c2, cs2, rfl, hc2, hown2, hits2, hcell2⟩ := hr.parts
  obtain ⟨wb, hwb⟩ : ∃ wb, wb = ((w.alloc (.cells #[.int .i64 (kindOf n), .int .i64 (n.first : Int), .slice A n.l.length c] 88)).alloc (.cells #[.int .i64 (kindOf r), .int .i64 (r.first : Int), .slice A2 r.l.length c2] 88)).alloc (.cells znd.toArray 88) := ⟨_, rfl⟩
  have hf0 : Fr [] w wb := by rw [hwb]; exact (((Fr.refl [] w).alloc _).alloc _).alloc _
  have hb1 : Blk wb w.heap.size 88 [.int .i64 (kindOf n), .int .i64 (n.first : Int), .slice A n.l.length c] := by rw [hwb]; exact ((Blk.new w _ [.int .i64 (kindOf n), .int .i64 (n.first : Int), .slice A n.l.length c]).alloc _).alloc _
  have hb2 : Blk wb (w.heap.size + 1) 88 [.int .i64 (kindOf r), .int .i64 (r.first : Int), .slice A2 r.l.length c2] := by
    rw [hwb]
    have := Blk.new (w.alloc (.cells #[.int .i64 (kindOf n), .int .i64 (n.first : Int), .slice A n.l.length c] 88)) 88 [.int .i64 (kindOf r), .int .i64 (r.first : Int), .slice A2 r.l.length c2]
    rw [World.size_alloc] at this
    exact this.alloc _
  have hb3 : Blk wb (w.heap.size + 2) 88 znd := by
    rw [hwb]
    have := Blk.new ((w.alloc (.cells #[.int .i64 (kindOf n), .int .i64 (n.first : Int), .slice A n.l.length c] 88)).alloc (.cells #[.int .i64 (kindOf r), .int .i64 (r.first : Int), .slice A2 r.l.length c2] 88)) 88 znd
    rwa [World.size_alloc, World.size_alloc] at this
  have HZB : Hid (wb.heap.size = w.heap.size + 3) := Lib.hid (by rw [hwb, World.size_alloc, World.size_alloc, World.size_alloc])
  obtain ⟨gs, hsl, _, _⟩ := SlAt.of_own hown w.heap.size
  have HSL := Lib.hid (hsl.fr hf0 (by simp))
  have HB1 := Lib.hid hb1; have HB2 := Lib.hid hb2; have HB3 := Lib.hid hb3; have HF0 := Lib.hid hf0; have HI := Lib.hid hits; have HI2 := Lib.hid hits2; have HD := Lib.hid hD
  have HC2 := Lib.hid hcell2
  have HLEN := Lib.hid hits.len; have HLEN2 := Lib.hid hits2.len; have HON := Lib.hid hits.one; have HON2 := Lib.hid hits2.one
  have HGK := Lib.hid hk; have HDK := Lib.hid hdk; have HLR := Lib.hid hlr
  obtain ⟨Ak, ck, ok, rfl, _, _⟩ := hk
  clear hb1 hb2 hb3 hf0 hits hits2 hown hown2 hcell hcell2 h hr hD hsl hdk hlr
  refine calls_post fun R HQ => ?_
  go_enter Tryz.func125, Tryz.ntmps125
  go_wp2_with (with_reducible refine wpList_alloc_z rfl 88 rfl (.agg #[.int .i64 0, .int .i64 0, .slice none 0 0]) znd.toArray zero_nd rfl ?_)
  rw [← hwb]
  have k0 := HB1.out.at_ (i := 0) rfl
  have k1 := HB1.out.at_ (i := 1) rfl
  have k2 := HB1.out.at_ (i := 2) rfl
  simp only [nrm]
  go_cut [7] (fun v7 W => ∃ p A' c', v7 = .pointer (some ⟨p, 0, none⟩) ∧ Blk W p 88 [.int .i64 (kindOf n), .int .i64 (n.first : Int), .slice A' n.l.length c'] ∧ W.ownsRow wb.heap.size 77 3 (.slice A' n.l.length c') n.l.length cs ∧ (Value.slice A' n.l.length c').ownBlock ≠ some p ∧ wb.heap.size ≤ p ∧ Fr [] wb W)
  case first =>
    refine wp_region_K (fun W => W.cell? ⟨w.heap.size, 0, none⟩ = some (.int .i64 (kindOf n)) ∧ W.cell? ⟨w.heap.size, 1, none⟩ = some (.int .i64 (n.first : Int)) ∧ W.cell? ⟨w.heap.size, 2, none⟩ = some (.slice A n.l.length c)) [0, 1, 2, 3, 4, 5, 7] (by kernel_rfl) ?_
    refine wpAnyK_take (i := 0) (some 8) ?vq1_0 rfl rfl (by kernel_rfl) (fun _ _ _ h => h) ⟨k0, k1, k2⟩ (.inl ⟨rfl, fun W hW => ?yq1_0⟩) ?_
    case yq1_0 => (obtain ⟨q0, q1, q2⟩ := hW; go_simp) <;> with_reducible rfl
    simp only [nrm]
    refine wpAnyK_take (i := 1) (some 9) ?vq1_1 rfl rfl (by kernel_rfl) (fun _ _ _ h => h) ⟨k0, k1, k2⟩ (.inl ⟨rfl, fun W hW => ?yq1_1⟩) ?_
    case yq1_1 => (obtain ⟨q0, q1, q2⟩ := hW; go_simp) <;> with_reducible rfl
    simp only [nrm]
    refine wpAnyK_take (i := 2) (some 10) ?vq1_2 rfl rfl (by kernel_rfl) (fun _ _ _ h => h) ⟨k0, k1, k2⟩ (.inl ⟨rfl, fun W hW => ?yq1_2⟩) ?_
    case yq1_2 => (obtain ⟨q0, q1, q2⟩ := hW; go_simp) <;> with_reducible rfl
    simp only [nrm]
    refine wpAnyK_take (i := 3) (some 11) ?vq1_3 rfl rfl (by kernel_rfl) (fun _ _ _ h => h) ⟨k0, k1, k2⟩ (.inl ⟨rfl, fun W hW => ?yq1_3⟩) ?_
    case yq1_3 => (obtain ⟨q0, q1, q2⟩ := hW; go_simp) <;> with_reducible rfl
    simp only [nrm]
    refine wpAnyK_take (i := 4) (some 12) ?vq1_4 rfl rfl (by kernel_rfl) (fun _ _ _ h => h) ⟨k0, k1, k2⟩ (.inl ⟨rfl, fun W hW => ?yq1_4⟩) ?_
    case yq1_4 => (obtain ⟨q0, q1, q2⟩ := hW; go_simp) <;> with_reducible rfl
    simp only [nrm]
    refine wpAnyK_take (i := 5) (some 13) ?vq1_5 rfl rfl (by kernel_rfl) (fun _ _ _ h => h) ⟨k0, k1, k2⟩ (.inl ⟨rfl, fun W hW => ?yq1_5⟩) ?_
    case yq1_5 => (obtain ⟨q0, q1, q2⟩ := hW; go_simp) <;> with_reducible rfl
    simp only [nrm]
    refine wpAnyK_two (i := 6) (j := 8) (some 14) (some 7) rfl rfl rfl rfl (by kernel_rfl) rfl rfl (fun K hK => ?_) (fun K hK => ?_)
    · refine wp_call_f (l := [.tmp 13]) rfl [.slice A n.l.length c] rfl (enter_iclone _) ((items_clone (HSL.out.fr (S := []) (Fr.refl [] wb).drew (by simp)) HLEN.out HON.out (by omega)).mono ?_)
      rintro e w4 ⟨sl, rfl, hown4, hf4⟩
      obtain ⟨A', c', rfl, _, _⟩ := own_shape hown4
      have hf4' : Fr [] wb w4 := ((Fr.refl [] wb).drew).trans hf4 (by simp)
      have hz0 : wb.drew.heap.size = wb.heap.size := rfl
      rw [hz0] at hown4
      refine ⟨_, rfl, hK _ _ (fun _ => ⟨fr_keep hf4' k0, fr_keep hf4' k1, fr_keep hf4' k2⟩) ?_⟩
      simp only [nrm]
      clear hK
      refine wpAnyK_take (i := 7) (some 15) (.agg #[.int .i64 (kindOf n), .int .i64 (n.first : Int), .slice A' n.l.length c']) rfl rfl (by kernel_rfl) (fun _ _ _ h => h) ⟨fr_keep hf4' k0, fr_keep hf4' k1, fr_keep hf4' k2⟩ (.inl ⟨rfl, fun W hW => by go_simp⟩) ?_
      simp only [nrm]
      have hlt4 := own_lt hown4
      refine wpAnyK_step (j := 8) (some 7) rfl rfl (by kernel_rfl) rfl fun K hK => ?_
      refine wp_alloc_blk 88 rfl (.agg #[.int .i64 0, .int .i64 0, .slice none 0 0]) znd zero_nd rfl fun w5 hb5 hf5 hz5 => hK _ _ (fun _ => ⟨fr_keep hf5 (fr_keep hf4' k0), fr_keep hf5 (fr_keep hf4' k1), fr_keep hf5 (fr_keep hf4' k2)⟩) ?_
      simp only [nrm]
      clear hK
      refine wpAnyK_step (j := 9) none rfl rfl (by kernel_rfl) rfl fun K hK => ?_
      refine wp_store_blk 88 (.tmp 7) (.tmp 15) rfl [.int .i64 (kindOf n), .int .i64 (n.first : Int), .slice A' n.l.length c'] rfl rfl hb5 size_nd rfl ?tt fun w6 hb6 hf6 hz6 => hK _ _ (fun h => absurd h (by decide +kernel)) ?_
      case tt => intro u hu; simp at hu; rcases hu with rfl | rfl | rfl <;> rfl
      simp only [Act.put]
      refine wpAnyK_done (by kernel_rfl) ?_ _
      have hzz := hf4'.size
      have HX : Hid (∃ p A' c', Value.pointer (some ⟨w4.heap.size, 0, none⟩) = .pointer (some ⟨p, 0, none⟩) ∧ Blk w6 p 88 [.int .i64 (kindOf n), .int .i64 (n.first : Int), .slice A' n.l.length c'] ∧ w6.ownsRow wb.heap.size 77 3 (.slice A' n.l.length c') n.l.length cs ∧ (Value.slice A' n.l.length c').ownBlock ≠ some p ∧ wb.heap.size ≤ p ∧ Fr [] wb w6) := Lib.hid ⟨w4.heap.size, A', c', rfl, hb6, own_fr (own_fr hown4 hf5 (fun q hq hm => by cases hm)) hf6 (fun q hq hm => by have := hlt4 q hq; have := List.mem_singleton.1 hm; omega), fun e => by have := hlt4 _ e; omega, hzz, (hf4'.trans hf5 (by simp)).trans hf6 (fun q hq => .inr (by have := List.mem_singleton.1 hq; omega))⟩
      clear hK hb5 hf5 hz5 hb6 hf6 hz6 hown4 hf4 hf4' hlt4
      go_wp2_with fail
      go_meet
      exact HX.out
    · refine wp_alloc_blk 88 rfl (.agg #[.int .i64 0, .int .i64 0, .slice none 0 0]) znd zero_nd rfl fun w5 hb5 hf5 hz5 => hK _ _ (fun _ => ⟨fr_keep hf5 k0, fr_keep hf5 k1, fr_keep hf5 k2⟩) ?_
      simp only [Act.put]
      clear hK
      have hz0 : wb.drew.heap.size = wb.heap.size := rfl
      rw [hz0] at hb5 hz5
      have hf5' : Fr [] wb w5 := ((Fr.refl [] wb).drew).trans hf5 (by simp)
      refine wpAnyK_step (j := 6) (some 14) rfl rfl (by kernel_rfl) rfl fun K hK => ?_
      refine wp_call_f (l := [.tmp 13]) rfl [.slice A n.l.length c] rfl (enter_iclone _) ((items_clone (HSL.out.fr (S := []) hf5' (by simp)) HLEN.out HON.out (by omega)).mono ?_)
      rintro e w4 ⟨sl, rfl, hown4, hf4⟩
      obtain ⟨A', c', rfl, _, _⟩ := own_shape hown4
      refine ⟨_, rfl, hK _ _ (fun _ => ⟨fr_keep hf4 (fr_keep hf5 k0), fr_keep hf4 (fr_keep hf5 k1), fr_keep hf4 (fr_keep hf5 k2)⟩) ?_⟩
      simp only [nrm]
      clear hK
      refine wpAnyK_take (i := 7) (some 15) (.agg #[.int .i64 (kindOf n), .int .i64 (n.first : Int), .slice A' n.l.length c']) rfl rfl (by kernel_rfl) (fun _ _ _ h => h) ⟨fr_keep hf4 (fr_keep hf5 k0), fr_keep hf4 (fr_keep hf5 k1), fr_keep hf4 (fr_keep hf5 k2)⟩ (.inl ⟨rfl, fun W hW => by go_simp⟩) ?_
      simp only [nrm]
      have hlt4 := hown4.lt
      refine wpAnyK_step (j := 9) none rfl rfl (by kernel_rfl) rfl fun K hK => ?_
      refine wp_store_blk 88 (.tmp 7) (.tmp 15) rfl [.int .i64 (kindOf n), .int .i64 (n.first : Int), .slice A' n.l.length c'] rfl rfl (hb5.fr hf4 (by simp)) size_nd rfl ?tt2 fun w6 hb6 hf6 hz6 => hK _ _ (fun h => absurd h (by decide +kernel)) ?_
      case tt2 => intro u hu; simp at hu; rcases hu with rfl | rfl | rfl <;> rfl
      simp only [Act.put]
      refine wpAnyK_done (by kernel_rfl) ?_ _
      have HX : Hid (∃ p A' c', Value.pointer (some ⟨wb.heap.size, 0, none⟩) = .pointer (some ⟨p, 0, none⟩) ∧ Blk w6 p 88 [.int .i64 (kindOf n), .int .i64 (n.first : Int), .slice A' n.l.length c'] ∧ w6.ownsRow wb.heap.size 77 3 (.slice A' n.l.length c') n.l.length cs ∧ (Value.slice A' n.l.length c').ownBlock ≠ some p ∧ wb.heap.size ≤ p ∧ Fr [] wb w6) := Lib.hid ⟨wb.heap.size, A', c', rfl, hb6, own_base (own_fr hown4 hf6 (fun q hq hm => by have := (hlt4 q hq).1; have := List.mem_singleton.1 hm; omega)) (fun q hq => by have := (hlt4 q hq).1; omega), fun e => by have := (hlt4 _ e).1; omega, Nat.le_refl _, (hf5'.trans hf4 (by simp)).trans hf6 (fun q hq => .inr (by have := List.mem_singleton.1 hq; omega))⟩
      clear hK hb5 hf5 hz5 hb6 hf6 hz6 hown4 hf4 hf5' hlt4
      go_wp2_with fail
      go_meet
      exact HX.out
  case rest =>
    obtain ⟨p, A', c', rfl, hbp, hown', hnep, hpge, hfc⟩ := hcut
    clear k0 k1 k2
    have HBP := Lib.hid hbp; have HOWN := Lib.hid hown'; have HNE := Lib.hid hnep; have HFC := Lib.hid hfc; have HPG := Lib.hid hpge
    have k0 := hbp.at_ (i := 0) rfl
    have k1 := hbp.at_ (i := 1) rfl
    have k2 := hbp.at_ (i := 2) rfl
    have HB1C := Lib.hid (HB1.out.fr hfc (by simp))
    have b0 := HB1C.out.at_ (i := 0) rfl
    have b1 := HB1C.out.at_ (i := 1) rfl
    have b2 := HB1C.out.at_ (i := 2) rfl
    clear hbp hown' hnep hpge hfc
    have hz2 : ((w.alloc (.cells #[.int .i64 (kindOf n), .int .i64 (n.first : Int), .slice A n.l.length c] 88)).alloc (.cells #[.int .i64 (kindOf r), .int .i64 (r.first : Int), .slice A2 r.l.length c2] 88)).heap.size = w.heap.size + 2 := by rw [World.size_alloc, World.size_alloc]
    rw [hz2]
    clear hz2 hwb
    cases hlf : n.lf with
    | true =>
      have hkn : kindOf n = 1 := by unfold kindOf; rw [hlf]; rfl
      rw [hkn] at b0 k0
      go_wp2_with fail
      refine (leaf_any wc 1 _ _).mono ?_
      rintro e w2 ⟨rfl, hw2⟩
      clear k0 k1 k2 b0 b1 b2
      have hf2 : Fr [] wc w2 := by rw [hw2]; exact (Fr.refl [] wc).alloc _
      have HBT := Lib.hid (HBP.out.fr hf2 (by simp)); have HOT := Lib.hid (own_fr HOWN.out hf2 (fun q hq hm => by cases hm)); have HFT := Lib.hid (HFC.out.trans hf2 (by simp)); have HNT := HNE
      have HLT : Hid (cs.length = n.l.length * 3) := HLEN
      have HIT : Hid (ItsC D w n.l cs) := HI
      have HW : Hid (n.with_ key r = ⟨n.lf, n.first, n.l ++ r.l⟩) := Lib.hid (by unfold Nd.with_; rw [if_pos hlf])
      clear hw2 hf2
      clear hkn
      have HB2T := Lib.hid ((HB2.out.fr HFT.out (by simp)))
      have k1 := HBT.out.at_ (i := 1) rfl
      have k2 := HBT.out.at_ (i := 2) rfl
      have r2 := HB2T.out.at_ (i := 2) rfl
      go_upto_region 4 with fail
      refine wp_region_lit ?_
      refine wpList_plain rfl fun K hK => ?_
      refine wp_run_same (v := ?au3_0) ?yu3_0 (hK _ _ ?_)
      case yu3_0 => go_simp <;> with_reducible rfl
      clear hK K
      simp only [nrm]
      refine wpList_plain rfl fun K hK => ?_
      refine wp_run_same (v := ?au4_1) ?yu4_1 (hK _ _ ?_)
      case yu4_1 => go_simp <;> with_reducible rfl
      clear hK K
      simp only [nrm]
      refine wpList_plain rfl fun K hK => ?_
      refine wp_run_same (v := ?au5_2) ?yu5_2 (hK _ _ ?_)
      case yu5_2 => go_simp <;> with_reducible rfl
      clear hK K
      simp only [nrm]
      refine wpList_plain rfl fun K hK => ?_
      refine wp_run_same (v := ?au6_3) ?yu6_3 (hK _ _ ?_)
      case yu6_3 => go_simp <;> with_reducible rfl
      clear hK K
      simp only [nrm]
      refine wpList_plain rfl fun K hK => ?_
      obtain ⟨ti, hti, hz', hsz', hby⟩ := info_get info_it
      refine wp_append_any (.tmp 30) (.tmp 32) rfl 77 3 56 Tryz.underlying86 hti hz' hsz' hby rfl (by omega) A' (n.l.length) c' cs rfl (own_base HOT.out (fun _ _ => Nat.zero_le _)) A2 r.l.length c2 cs2 rfl HLEN2.out (fun h0 => by
        obtain ⟨g, rfl, hcg⟩ := HC2.out h0
        exact ⟨_, rfl, fun j u hu => by rw [Addr.add_mid, Nat.zero_add]; exact fr_keep (HF0.out.trans HFT.out (by simp)) (hcg j u hu)⟩) HON2.out (by unfold maxLen; omega) (by omega) w2.heap.size rfl fun A9 c9 w9 ho9 F9 hat9 => hK _ _ ?_
      clear hK
      simp only [nrm]
      have hlow : ∀ q, (Value.slice A' (n.l.length) c').ownBlock = some q → wb.heap.size ≤ q := fun q hq => (HOT.out.lt q hq).1
      have hS9 : ∀ q, q ∈ (Value.slice A' (n.l.length) c').ownBlock.toList → wb.heap.size ≤ q := fun q hq => hlow q (by simpa using hq)
      have hp9 : p ∉ (Value.slice A' (n.l.length) c').ownBlock.toList := fun hm => HNT.out (by simpa using hm)
      have hzb := HZB.out; have hpg := HPG.out
      have hpT := HBT.out.lt
      have hzT := HFT.out.size
      have hB9 := HBT.out.fr F9 hp9
      have k29 := hB9.at_ (i := 2) rfl
      have kf9 := hB9.free 2
      refine wpList_plain rfl fun K hK => ?_
      refine wp_run_same (v := ?au7_5) ?yu7_5 (hK _ _ ?_)
      case yu7_5 => go_simp <;> with_reducible rfl
      clear hK K
      simp only [nrm]
      refine wpList_plain rfl fun K hK => ?_
      refine wp_run_skip (w' := w9.setCell ⟨p, 2, none⟩ (.slice A9 (n.l.length + r.l.length) c9)) (by go_simp) (hK _ _ ?_)
      clear hK
      simp only [Act.put]
      refine wpList_nil ?_
      have hfs : Fr [p] w9 (w9.setCell ⟨p, 2, none⟩ (.slice A9 (n.l.length + r.l.length) c9)) := (Fr.refl _ _).setCell (.inl (by simp)) _
      have hBE := hB9.set_ 2 (.slice A9 (n.l.length + r.l.length) c9)
      have hF9 : Fr [] wb w9 := HFT.out.trans F9 (fun q hq => .inr (hS9 q hq))
      have hFE : Fr [] wb (w9.setCell ⟨p, 2, none⟩ (.slice A9 (n.l.length + r.l.length) c9)) := hF9.trans hfs (fun q hq => .inr (by have := List.mem_singleton.1 hq; omega))
      have hne9 : (Value.slice A9 (n.l.length + r.l.length) c9).ownBlock ≠ some p := fun e => by
        rcases hat9 p e with h1 | h1
        · exact HNT.out h1
        · omega
      have hoE : (w9.setCell ⟨p, 2, none⟩ (.slice A9 (n.l.length + r.l.length) c9)).ownsRow wb.heap.size 77 3 (.slice A9 (n.l.length + r.l.length) c9) (n.l.length + r.l.length) (cs ++ cs2) := own_fr (own_base ho9 (fun q hq => by
        rcases hat9 q hq with h1 | h1
        · have := hlow q h1; omega
        · omega)) hfs (fun q hq hm => by have := List.mem_singleton.1 hm; exact hne9 (by rw [← this]; exact hq))
      have HBE : Hid (Blk (w9.setCell ⟨p, 2, none⟩ (.slice A9 (n.l.length + r.l.length) c9)) p 88 [.int .i64 (kindOf n), .int .i64 (n.first : Int), .slice A9 (n.l.length + r.l.length) c9]) := Lib.hid hBE
      have HFE := Lib.hid hFE; have HOE := Lib.hid hoE
      have HB3E := Lib.hid (HB3.out.fr hFE (by simp))
      have hpne : p ≠ w.heap.size + 2 := by omega
      clear hfs hBE hF9 hFE hne9 hoE hat9 hB9 k29 kf9 ho9 F9 hS9 hp9 hlow k1 k2 r2 hti hz' hsz' hby
      generalize w9.setCell ⟨p, 2, none⟩ (.slice A9 (n.l.length + r.l.length) c9) = w10 at *
      go_wp2_with (first
        | (refine wpL_load rfl 88 (.tmp 7) rfl rfl HBE.out Tryz.underlying88 rfl size_nd ?_)
        | (refine wpL_store rfl 88 (.tmp 6) (.tmp 35) rfl [.int .i64 (kindOf n), .int .i64 (n.first : Int), .slice A9 (n.l.length + r.l.length) c9] rfl rfl HB3E.out size_nd rfl ?tt ?_))
      case tt => intro u hu; simp at hu; rcases hu with rfl | rfl | rfl <;> rfl
      intro w11 hb11 hf11 hz11
      have hfin : Fr [] w w11 := (HF0.out.trans HFE.out (by simp)).trans hf11 (fun q hq => .inr (by have := List.mem_singleton.1 hq; omega))
      have HE : Hid (R (.returned (.agg #[.int .i64 (kindOf n), .int .i64 (n.first : Int), .slice A9 (n.l.length + r.l.length) c9])) w11) := Lib.hid (HQ.out _ _ ⟨_, rfl, by
        rw [HW.out]
        have hkk : kindOf n = kindOf ⟨n.lf, n.first, n.l ++ r.l⟩ := rfl
        rw [hkk]
        refine NdV.make (n := ⟨n.lf, n.first, n.l ++ r.l⟩) (ItsC.append HIT.out HI2.out) ?_ hfin HD.out
        have hlen : (n.l ++ r.l).length = n.l.length + r.l.length := by first | (simp; done) | (simp; omega)
        rw [show (⟨n.lf, n.first, n.l ++ r.l⟩ : Nd).l.length = n.l.length + r.l.length from hlen]
        exact own_base (own_fr HOE.out hf11 (fun q hq hm => by have := (HOE.out.lt q hq).1; have := List.mem_singleton.1 hm; omega)) (fun q hq => by have := (HOE.out.lt q hq).1; omega), hfin⟩)
      have HB11 := Lib.hid hb11
      clear hb11 hf11 hz11 hfin
      go_wp2_with fail
      exact ret_blk (g := w.heap.size + 2) (t' := 88) (cs := [.int .i64 (kindOf n), .int .i64 (n.first : Int), .slice A9 (n.l.length + r.l.length) c9]) (d := _) rfl rfl HB11.out Tryz.underlying88 rfl size_nd HE.out
    | false =>
      have hkn : kindOf n = 2 := by unfold kindOf; rw [hlf]; rfl
      rw [hkn] at b0 k0
      go_wp2_with fail
      refine (leaf_any wc 2 _ _).mono ?_
      rintro e w2 ⟨rfl, hw2⟩
      clear k0 k1 k2 b0 b1 b2
      have hf2 : Fr [] wc w2 := by rw [hw2]; exact (Fr.refl [] wc).alloc _
      have HBU := Lib.hid (HBP.out.fr hf2 (by simp)); have HOU := Lib.hid (own_fr HOWN.out hf2 (fun q hq hm => by cases hm)); have HFU := Lib.hid (HFC.out.trans hf2 (by simp))
      have HB2U := Lib.hid (HB2.out.fr HFU.out (by simp))
      have u1 := HBU.out.at_ (i := 1) rfl
      have u2 := HBU.out.at_ (i := 2) rfl
      have s1 := HB2U.out.at_ (i := 1) rfl
      clear hw2 hf2 hkn
      go_upto_region 3 with fail
      refine wp_region_lit ?_
      refine wpList_plain rfl fun K hK => ?_
      refine wp_run_same (v := ?au9_0) ?yu9_0 (hK _ _ ?_)
      case yu9_0 => go_simp <;> with_reducible rfl
      clear hK K
      simp only [nrm]
      refine wpList_plain rfl fun K hK => ?_
      refine wp_run_same (v := ?au10_1) ?yu10_1 (hK _ _ ?_)
      case yu10_1 => go_simp <;> with_reducible rfl
      clear hK K
      simp only [nrm]
      refine wpList_plain rfl fun K hK => ?_
      refine wp_run_same (v := ?au11_2) ?yu11_2 (hK _ _ ?_)
      case yu11_2 => go_simp <;> with_reducible rfl
      clear hK K
      simp only [nrm]
      refine wpList_plain rfl fun K hK => ?_
      refine wp_run_same (v := ?au12_3) ?yu12_3 (hK _ _ ?_)
      case yu12_3 => go_simp <;> with_reducible rfl
      clear hK K
      simp only [nrm]
      refine wpList_plain rfl fun K hK => ?_
      refine wp_run_same (v := ?au13_4) ?yu13_4 (hK _ _ ?_)
      case yu13_4 => go_simp <;> with_reducible rfl
      clear hK K
      simp only [nrm]
      refine wpList_plain rfl fun K hK => ?_
      refine wp_run_same (v := ?au14_5) ?yu14_5 (hK _ _ ?_)
      case yu14_5 => go_simp <;> with_reducible rfl
      clear hK K
      simp only [nrm]
      refine wpList_plain rfl fun K hK => ?_
      refine wp_run_same (v := ?au15_6) ?yu15_6 (hK _ _ ?_)
      case yu15_6 => go_simp <;> with_reducible rfl
      clear hK K
      simp only [nrm]
      refine wpList_plain rfl fun K hK => ?_
      obtain ⟨ti, hti, hz', hsz', hby⟩ := info_get info_it
      refine wp_build_one (.tmp 25) rfl Tryz.underlying86 hti hz' [.slice Ak key.length ck, .slice none 0 0, .int .i64 (r.first : Int)] rfl hsz' rfl (by simp) (by simp) (hK _ _ ?_)
      clear hK
      simp only [nrm]
      have hbn := Blk.new w2 77 [.slice Ak key.length ck, .slice none 0 0, .int .i64 (r.first : Int)]
      have hfn : Fr [] w2 (w2.alloc (.cells [.slice Ak key.length ck, .slice none 0 0, .int .i64 (r.first : Int)].toArray 77)) := (Fr.refl [] w2).alloc _
      have hsn : (w2.alloc (.cells [.slice Ak key.length ck, .slice none 0 0, .int .i64 (r.first : Int)].toArray 77)).heap.size = w2.heap.size + 1 := by simp
      generalize w2.alloc (.cells [.slice Ak key.length ck, .slice none 0 0, .int .i64 (r.first : Int)].toArray 77) = w8 at *
      have h3 : ∀ u ∈ [Value.slice Ak key.length ck, .slice none 0 0, .int .i64 (r.first : Int)], u.oneCell' = true := by intro u hu; simp at hu; rcases hu with rfl | rfl | rfl <;> rfl
      refine wpList_plain rfl fun K hK => ?_
      refine wp_append_any (.tmp 20) (.tmp 26) rfl 77 3 56 Tryz.underlying86 hti hz' hsz' hby rfl (by omega) A' n.l.length c' cs rfl (own_base (own_fr HOU.out hfn (by simp)) (fun _ _ => Nat.zero_le _)) (some ⟨w2.heap.size, 0, none⟩) 1 1 [.slice Ak key.length ck, .slice none 0 0, .int .i64 (r.first : Int)] rfl rfl (fun _ => ⟨_, rfl, fun j u hu => by rw [Addr.add_mid, Nat.zero_add]; exact hbn.at_ hu⟩) h3 (by unfold maxLen; omega) (by omega) (w2.heap.size + 1) hsn fun A9 c9 w9 ho9 F9 hat9 => hK _ _ ?_
      clear hK
      simp only [nrm]
      have hlow : ∀ q, (Value.slice A' n.l.length c').ownBlock = some q → wb.heap.size ≤ q := fun q hq => (HOU.out.lt q hq).1
      have hS9 : ∀ q, q ∈ (Value.slice A' n.l.length c').ownBlock.toList → wb.heap.size ≤ q := fun q hq => hlow q (by simpa using hq)
      have hp9 : p ∉ (Value.slice A' n.l.length c').ownBlock.toList := fun hm => HNE.out (by simpa using hm)
      have hzb := HZB.out; have hpg := HPG.out
      have hpT := HBU.out.lt
      have hzT := HFU.out.size
      have hB9 := (HBU.out.fr hfn (by simp)).fr F9 hp9
      have k29 := hB9.at_ (i := 2) rfl
      have kf9 := hB9.free 2
      refine wpList_plain rfl fun K hK => ?_
      refine wp_run_same (v := ?au16_9) ?yu16_9 (hK _ _ ?_)
      case yu16_9 => go_simp <;> with_reducible rfl
      clear hK K
      simp only [nrm]
      refine wpList_plain rfl fun K hK => ?_
      refine wp_run_skip (w' := w9.setCell ⟨p, 2, none⟩ (.slice A9 (n.l.length + 1) c9)) (by go_simp) (hK _ _ ?_)
      clear hK
      simp only [Act.put]
      refine wpList_nil ?_
      have hfs : Fr [p] w9 (w9.setCell ⟨p, 2, none⟩ (.slice A9 (n.l.length + 1) c9)) := (Fr.refl _ _).setCell (.inl (by simp)) _
      have hBE := hB9.set_ 2 (.slice A9 (n.l.length + 1) c9)
      have hF9 : Fr [] wb w9 := (HFU.out.trans hfn (by simp)).trans F9 (fun q hq => .inr (hS9 q hq))
      have hFE : Fr [] wb (w9.setCell ⟨p, 2, none⟩ (.slice A9 (n.l.length + 1) c9)) := hF9.trans hfs (fun q hq => .inr (by have := List.mem_singleton.1 hq; omega))
      have hne9 : (Value.slice A9 (n.l.length + 1) c9).ownBlock ≠ some p := fun e => by
        rcases hat9 p e with h1 | h1
        · exact HNE.out h1
        · omega
      have hoE : (w9.setCell ⟨p, 2, none⟩ (.slice A9 (n.l.length + 1) c9)).ownsRow wb.heap.size 77 3 (.slice A9 (n.l.length + 1) c9) (n.l.length + 1) (cs ++ [Value.slice Ak key.length ck, .slice none 0 0, .int .i64 (r.first : Int)]) := own_fr (own_base ho9 (fun q hq => by
        rcases hat9 q hq with h1 | h1
        · have := hlow q h1; omega
        · omega)) hfs (fun q hq hm => by have := List.mem_singleton.1 hm; exact hne9 (by rw [← this]; exact hq))
      have HBT : Hid (Blk (w9.setCell ⟨p, 2, none⟩ (.slice A9 (n.l.length + 1) c9)) p 88 [.int .i64 (kindOf n), .int .i64 (n.first : Int), .slice A9 (n.l.length + 1) c9]) := Lib.hid hBE
      have HFT := Lib.hid hFE; have HOT := Lib.hid hoE; have HNT := Lib.hid hne9
      have HLT : Hid ((cs ++ [Value.slice Ak key.length ck, .slice none 0 0, .int .i64 (r.first : Int)]).length = (n.l.length + 1) * 3) := Lib.hid (by have := HLEN.out; simp; omega)
      have HIT : Hid (ItsC D w (n.l ++ [(⟨key, [], r.first⟩ : It)]) (cs ++ [Value.slice Ak key.length ck, .slice none 0 0, .int .i64 (r.first : Int)])) := Lib.hid (ItsC.append HI.out ⟨⟨⟨gk, HGK.out, HDK.out⟩, ⟨gk, BytesAt.nil _ _, HDK.out⟩, rfl⟩, trivial⟩)
      have HW : Hid (n.with_ key r = ⟨n.lf, n.first, (n.l ++ [(⟨key, [], r.first⟩ : It)]) ++ r.l⟩) := Lib.hid (by unfold Nd.with_; rw [if_neg (by rw [hlf]; decide)])
      clear hfs hBE hF9 hFE hne9 hoE hat9 hB9 k29 kf9 ho9 F9 hS9 hp9 hlow hbn hfn hsn h3 u1 u2 s1 hti hz' hsz' hby hpT hzT hzb hpg HBU HOU HFU HB2U
      generalize w9.setCell ⟨p, 2, none⟩ (.slice A9 (n.l.length + 1) c9) = w3 at *
      have HB2T := Lib.hid ((HB2.out.fr HFT.out (by simp)))
      have k1 := HBT.out.at_ (i := 1) rfl
      have k2 := HBT.out.at_ (i := 2) rfl
      have r2 := HB2T.out.at_ (i := 2) rfl
      go_upto_region 4 with fail
      refine wp_region_lit ?_
      refine wpList_plain rfl fun K hK => ?_
      refine wp_run_same (v := ?au18_0) ?yu18_0 (hK _ _ ?_)
      case yu18_0 => go_simp <;> with_reducible rfl
      clear hK K
      simp only [nrm]
      refine wpList_plain rfl fun K hK => ?_
      refine wp_run_same (v := ?au19_1) ?yu19_1 (hK _ _ ?_)
      case yu19_1 => go_simp <;> with_reducible rfl
      clear hK K
      simp only [nrm]
      refine wpList_plain rfl fun K hK => ?_
      refine wp_run_same (v := ?au20_2) ?yu20_2 (hK _ _ ?_)
      case yu20_2 => go_simp <;> with_reducible rfl
      clear hK K
      simp only [nrm]
      refine wpList_plain rfl fun K hK => ?_
      refine wp_run_same (v := ?au21_3) ?yu21_3 (hK _ _ ?_)
      case yu21_3 => go_simp <;> with_reducible rfl
      clear hK K
      simp only [nrm]
      refine wpList_plain rfl fun K hK => ?_
      obtain ⟨tj, htj, hz', hsz', hby⟩ := info_get info_it
      refine wp_append_any (.tmp 30) (.tmp 32) rfl 77 3 56 Tryz.underlying86 htj hz' hsz' hby rfl (by omega) A9 (n.l.length + 1) c9 (cs ++ [Value.slice Ak key.length ck, .slice none 0 0, .int .i64 (r.first : Int)]) rfl (own_base HOT.out (fun _ _ => Nat.zero_le _)) A2 r.l.length c2 cs2 rfl HLEN2.out (fun h0 => by
        obtain ⟨g, rfl, hcg⟩ := HC2.out h0
        exact ⟨_, rfl, fun j u hu => by rw [Addr.add_mid, Nat.zero_add]; exact fr_keep (HF0.out.trans HFT.out (by simp)) (hcg j u hu)⟩) HON2.out (by unfold maxLen; omega) (by omega) w3.heap.size rfl fun B9 d9 x9 ho9 F9 hat9 => hK _ _ ?_
      clear hK
      simp only [nrm]
      have hlow : ∀ q, (Value.slice A9 (n.l.length + 1) c9).ownBlock = some q → wb.heap.size ≤ q := fun q hq => (HOT.out.lt q hq).1
      have hS9 : ∀ q, q ∈ (Value.slice A9 (n.l.length + 1) c9).ownBlock.toList → wb.heap.size ≤ q := fun q hq => hlow q (by simpa using hq)
      have hp9 : p ∉ (Value.slice A9 (n.l.length + 1) c9).ownBlock.toList := fun hm => HNT.out (by simpa using hm)
      have hzb := HZB.out; have hpg := HPG.out
      have hpT := HBT.out.lt
      have hzT := HFT.out.size
      have hB9 := HBT.out.fr F9 hp9
      have k29 := hB9.at_ (i := 2) rfl
      have kf9 := hB9.free 2
      refine wpList_plain rfl fun K hK => ?_
      refine wp_run_same (v := ?au22_5) ?yu22_5 (hK _ _ ?_)
      case yu22_5 => go_simp <;> with_reducible rfl
      clear hK K
      simp only [nrm]
      refine wpList_plain rfl fun K hK => ?_
      refine wp_run_skip (w' := x9.setCell ⟨p, 2, none⟩ (.slice B9 (n.l.length + 1 + r.l.length) d9)) (by go_simp) (hK _ _ ?_)
      clear hK
      simp only [Act.put]
      refine wpList_nil ?_
      have hfs : Fr [p] x9 (x9.setCell ⟨p, 2, none⟩ (.slice B9 (n.l.length + 1 + r.l.length) d9)) := (Fr.refl _ _).setCell (.inl (by simp)) _
      have hBE := hB9.set_ 2 (.slice B9 (n.l.length + 1 + r.l.length) d9)
      have hF9 : Fr [] wb x9 := HFT.out.trans F9 (fun q hq => .inr (hS9 q hq))
      have hFE : Fr [] wb (x9.setCell ⟨p, 2, none⟩ (.slice B9 (n.l.length + 1 + r.l.length) d9)) := hF9.trans hfs (fun q hq => .inr (by have := List.mem_singleton.1 hq; omega))
      have hne9 : (Value.slice B9 (n.l.length + 1 + r.l.length) d9).ownBlock ≠ some p := fun e => by
        rcases hat9 p e with h1 | h1
        · exact HNT.out h1
        · omega
      have hoE : (x9.setCell ⟨p, 2, none⟩ (.slice B9 (n.l.length + 1 + r.l.length) d9)).ownsRow wb.heap.size 77 3 (.slice B9 (n.l.length + 1 + r.l.length) d9) (n.l.length + 1 + r.l.length) ((cs ++ [Value.slice Ak key.length ck, .slice none 0 0, .int .i64 (r.first : Int)]) ++ cs2) := own_fr (own_base ho9 (fun q hq => by
        rcases hat9 q hq with h1 | h1
        · have := hlow q h1; omega
        · omega)) hfs (fun q hq hm => by have := List.mem_singleton.1 hm; exact hne9 (by rw [← this]; exact hq))
      have HBE : Hid (Blk (x9.setCell ⟨p, 2, none⟩ (.slice B9 (n.l.length + 1 + r.l.length) d9)) p 88 [.int .i64 (kindOf n), .int .i64 (n.first : Int), .slice B9 (n.l.length + 1 + r.l.length) d9]) := Lib.hid hBE
      have HFE := Lib.hid hFE; have HOE := Lib.hid hoE
      have HB3E := Lib.hid (HB3.out.fr hFE (by simp))
      have hpne : p ≠ w.heap.size + 2 := by omega
      clear hfs hBE hF9 hFE hne9 hoE hat9 hB9 k29 kf9 ho9 F9 hS9 hp9 hlow k1 k2 r2 htj hz' hsz' hby
      generalize x9.setCell ⟨p, 2, none⟩ (.slice B9 (n.l.length + 1 + r.l.length) d9) = w10 at *
      go_wp2_with (first
        | (refine wpL_load rfl 88 (.tmp 7) rfl rfl HBE.out Tryz.underlying88 rfl size_nd ?_)
        | (refine wpL_store rfl 88 (.tmp 6) (.tmp 35) rfl [.int .i64 (kindOf n), .int .i64 (n.first : Int), .slice B9 (n.l.length + 1 + r.l.length) d9] rfl rfl HB3E.out size_nd rfl ?tt ?_))
      case tt => intro u hu; simp at hu; rcases hu with rfl | rfl | rfl <;> rfl
      intro w11 hb11 hf11 hz11
      have hfin : Fr [] w w11 := (HF0.out.trans HFE.out (by simp)).trans hf11 (fun q hq => .inr (by have := List.mem_singleton.1 hq; omega))
      have HE : Hid (R (.returned (.agg #[.int .i64 (kindOf n), .int .i64 (n.first : Int), .slice B9 (n.l.length + 1 + r.l.length) d9])) w11) := Lib.hid (HQ.out _ _ ⟨_, rfl, by
        rw [HW.out]
        have hkk : kindOf n = kindOf ⟨n.lf, n.first, (n.l ++ [(⟨key, [], r.first⟩ : It)]) ++ r.l⟩ := rfl
        rw [hkk]
        refine NdV.make (n := ⟨n.lf, n.first, (n.l ++ [(⟨key, [], r.first⟩ : It)]) ++ r.l⟩) (ItsC.append HIT.out HI2.out) ?_ hfin HD.out
        have hlen : ((n.l ++ [(⟨key, [], r.first⟩ : It)]) ++ r.l).length = n.l.length + 1 + r.l.length := by first | (simp; done) | (simp; omega)
        rw [show (⟨n.lf, n.first, (n.l ++ [(⟨key, [], r.first⟩ : It)]) ++ r.l⟩ : Nd).l.length = n.l.length + 1 + r.l.length from hlen]
        exact own_base (own_fr HOE.out hf11 (fun q hq hm => by have := (HOE.out.lt q hq).1; have := List.mem_singleton.1 hm; omega)) (fun q hq => by have := (HOE.out.lt q hq).1; omega), hfin⟩)
      have HB11 := Lib.hid hb11
      clear hb11 hf11 hz11 hfin
      go_wp2_with fail
      exact ret_blk (g := w.heap.size + 2) (t' := 88) (cs := [.int .i64 (kindOf n), .int .i64 (n.first : Int), .slice B9 (n.l.length + 1 + r.l.length) d9]) (d := _) rfl rfl HB11.out Tryz.underlying88 rfl size_nd HE.out
end Go.Proofs.YtpjbdpepofnleaaGreat
end
section
namespace Go.Proofs.YtpjbdpepofnleaaGreat
open Go.RowKit Go.Sort Go.Shelf
def Buf (w : World) (H : Nat) (v : Value) (bs : List UInt8) : Prop := w.ownsRow H 5 1 v bs.length (bcells bs)
structure App (w : World) (H : Nat) (v : Value) (bs : List UInt8) (w' : World) (v' : Value) : Prop where
  buf : Buf w' H v' bs
  fr : Fr v.ownBlock.toList w w'
  row : ∀ q, v'.ownBlock = some q → v.ownBlock = some q ∨ w.heap.size ≤ q
theorem Buf.shape {w : World} {H : Nat} {v : Value} {bs : List UInt8} (h : Buf w H v bs) : ∃ A c, v = .slice A bs.length c := by
  obtain ⟨A, c, e, _⟩ := own_shape h
  exact ⟨A, c, e⟩
theorem Buf.fr {S : List Nat} {w w' : World} {H : Nat} {v : Value} {bs : List UInt8} (h : Buf w H v bs) (hf : Fr S w w') (hS : ∀ q, v.ownBlock = some q → q ∉ S) : Buf w' H v bs := own_fr h hf hS
theorem App.fr0 {w0 w w' : World} {H : Nat} {v v' : Value} {bs bs' : List UInt8} (h : App w H v bs' w' v') (hb : Buf w H v bs) (h0 : w0.heap.size ≤ H) (hf : Fr [] w0 w) : Fr [] w0 w' :=
  hf.trans h.fr fun q hq => .inr (by have := (hb.lt q (by simpa using hq)).1; omega)
theorem wp_append_buf {o : Oper} {a : Act} {w : World} {K : Act → World → Prop} {Q : Exit → Act → World → Prop} (s x : Operand) (ho : o.op = .call { callee := .builtin .append, args := #[s, x], argTypes := #[23, 23] })
    {H : Nat} {v : Value} {bs more : List UInt8} (hs : a.eval s = v) (hb : Buf w H v bs) (hH : H ≤ w.heap.size) {g : Nat} (hx : BytesAt w (a.eval x) more g) (hl1 : bs.length ≤ 1048576) (hl2 : more.length ≤ 1048576)
    (h : ∀ v' w', App w H v (bs ++ more) w' v' → K (a.put o.dst v') w') : Oper.wp Tryz.prog o a w K Q := by
  obtain ⟨iu, hi, hz', hsz', hby⟩ := info_get info_u8z
  obtain ⟨A, c, rfl, _⟩ := own_shape hb
  obtain ⟨B, d, off, hxv, _, hcell⟩ := hx
  refine wp_append_any s x ho 5 1 1 Tryz.underlying23 hi hz' hsz' hby rfl (by omega) A bs.length c (bcells bs) hs (own_base hb (fun _ _ => Nat.zero_le _)) B more.length d (bcells more) hxv (by rw [bcells_len]; omega) (fun h0 => by
    obtain ⟨hB, hc⟩ := hcell h0
    exact ⟨_, hB, fun j u hu => by rw [Addr.add_mid]; exact hc j u hu⟩) (bcells_one _) (by unfold maxLen; omega) (by omega) w.heap.size rfl fun A' cap w' ho' F hat => ?_
  have e : bs.length + more.length = (bs ++ more).length := by simp
  rw [e] at ho' hat ⊢
  refine h _ w' ⟨?_, F, fun q hq => by
    rcases hat q hq with h1 | h1
    · exact .inl h1
    · exact .inr (by omega)⟩
  rw [← bcells_append] at ho'
  exact own_base ho' fun q hq => by
    rcases hat q hq with h1 | h1
    · exact (hb.lt q h1).1
    · omega
set_option maxRecDepth 100000 in
set_option maxHeartbeats 1000000 in
theorem put16_any {w : World} {H : Nat} {v : Value} {bs : List UInt8} (h : Buf w H v bs) (n : Nat) (_hn : n < 65536) (hl : bs.length ≤ 1000000) (hH : H ≤ w.heap.size) :
    Calls Tryz.prog 69 #[v, .int .i64 (n : Int)] w fun e w' => ∃ v', e = .returned v' ∧ App w H v (bs ++ b16 n) w' v' := by
  have HB := Lib.hid h
  clear h
  go_enter Tryz.func69, Tryz.ntmps69
  go_upto_region 1 with fail
  refine wp_region_lit ?_
  refine wpList_plain rfl fun K hK => ?_
  refine wp_run_same (v := ?au2_0) ?yu2_0 (hK _ _ ?_)
  case yu2_0 => go_simp <;> with_reducible rfl
  clear hK K
  simp only [nrm]
  refine wpList_plain rfl fun K hK => ?_
  refine wp_run_same (v := ?au3_1) ?yu3_1 (hK _ _ ?_)
  case yu3_1 => go_simp <;> with_reducible rfl
  clear hK K
  simp only [nrm]
  refine wpList_plain rfl fun K hK => ?_
  refine wp_run_same (v := ?au4_2) ?yu4_2 (hK _ _ ?_)
  case yu4_2 => go_simp <;> with_reducible rfl
  clear hK K
  simp only [nrm]
  refine wpList_plain rfl fun K hK => ?_
  refine wp_run_same (v := ?au5_3) ?yu5_3 (hK _ _ ?_)
  case yu5_3 => go_simp <;> with_reducible rfl
  clear hK K
  simp only [nrm]
  refine wpList_plain rfl fun K hK => ?_
  refine wp_run_same (v := ?au6_4) ?yu6_4 (hK _ _ ?_)
  case yu6_4 => go_simp <;> with_reducible rfl
  clear hK K
  simp only [nrm]
  refine wpList_plain rfl fun K hK => ?_
  refine wp_run_same (v := ?au7_5) ?yu7_5 (hK _ _ ?_)
  case yu7_5 => go_simp <;> with_reducible rfl
  clear hK K
  simp only [nrm]
  obtain ⟨b1, hb1⟩ : ∃ b1, b1 = UInt8.ofNat (n / 256) := ⟨_, rfl⟩
  obtain ⟨b0, hb0⟩ : ∃ b0, b0 = UInt8.ofNat n := ⟨_, rfl⟩
  have hw1 : IntKind.u8.wrap ((n : Int) / 256) = (b1.toNat : Int) := by rw [hb1, UInt8.toNat_ofNat', IntKind.wrap_u8]; omega
  have hw0 : IntKind.u8.wrap (n : Int) = (b0.toNat : Int) := by rw [hb0, UInt8.toNat_ofNat', IntKind.wrap_u8]; omega
  rw [hw1, hw0]
  have HE : Hid (b16 n = [b1, b0]) := Lib.hid (by rw [hb1, hb0]; rfl)
  clear hw1 hw0 hb1 hb0
  refine wpList_plain rfl fun K hK => ?_
  refine wp_run_value (v := .slice (some ⟨w.heap.size, 0, none⟩) 2 2) (w' := w.alloc (.cells #[.int .u8 (b1.toNat : Int), .int .u8 (b0.toNat : Int)] 5)) (by simp [execOp, Act.eval, build_two, Result.andThen]) (hK _ _ ?_)
  simp only [nrm]
  clear hK
  have hb5 : Blk (w.alloc (.cells #[.int .u8 (b1.toNat : Int), .int .u8 (b0.toNat : Int)] 5)) w.heap.size 5 (bcells [b1, b0]) := Blk.new w 5 (bcells [b1, b0])
  have hf5 : Fr [] w (w.alloc (.cells #[.int .u8 (b1.toNat : Int), .int .u8 (b0.toNat : Int)] 5)) := (Fr.refl [] w).alloc _
  have hz5 : (w.alloc (.cells #[.int .u8 (b1.toNat : Int), .int .u8 (b0.toNat : Int)] 5)).heap.size = w.heap.size + 1 := by simp
  generalize w.alloc (.cells #[.int .u8 (b1.toNat : Int), .int .u8 (b0.toNat : Int)] 5) = w5 at *
  refine wpList_plain rfl fun K hK => ?_
  refine wp_append_buf (.tmp 5) (.tmp 11) rfl rfl (HB.out.fr hf5 (by simp)) (by omega) (BytesAt.of_blk hb5 2 (Nat.le_refl _)) (by omega) (by simp) fun v' w' hap => hK _ _ ?_
  simp only [nrm]
  clear hK
  refine wpList_plain rfl fun K hK => ?_
  refine wp_run_same (v := ?au8_8) ?yu8_8 (hK _ _ ?_)
  case yu8_8 => go_simp <;> with_reducible rfl
  clear hK K
  simp only [nrm]
  refine wpList_nil ?_
  have HX : Hid (App w H v (bs ++ b16 n) w' v') := Lib.hid (by
    rw [HE.out]
    exact ⟨hap.buf, (hf5.mono (by simp)).trans hap.fr (fun q hq => .inl hq), fun q hq => by
      rcases hap.row q hq with h1 | h1
      · exact .inl h1
      · exact .inr (by omega)⟩)
  clear hap hb5 hf5 hz5
  go_wp2_with fail
  go_ret
  exact ⟨_, rfl, HX.out⟩
end Go.Proofs.YtpjbdpepofnleaaGreat
end
