/-
  Joined by join.py: Oi Oj Ok
-/
import Derived.Test.YtpjbdpepofnleaaGreatJpl15
set_option maxRecDepth 100000
set_option maxHeartbeats 32000000
namespace Go.Proofs.YtpjbdpepofnleaaGreat
section
open Go.RowKit Go.Sort Go.Shelf
section
variable {P : Program} {ops : Array Oper} {Q : Exit -> Act -> World -> Prop} {md : Region.Mode} {S : World -> Prop} {I : List Nat} {o : Oper} {a : Act} {w : World} {K : Act -> World -> Prop}
theorem wpAnyK_two {i j : Nat} (di dj : Option Tmp) {oi oj : Oper} {fuel : Nat} {listed : Array Bool} (hoi : ops[i]? = some oi) (hoj : ops[j]? = some oj) (hdi : oi.dst = di) (hdj : oj.dst = dj) (hr : Region.ready md ops listed = [i, j]) (hgi : oi.guard = none) (hgj : oj.guard = none)
  (h1 : ∀ K : Act -> World -> Prop, (∀ v w', (crosses md ops I i = true -> S w') -> wpAnyK P md ops Q S I fuel (listed.setIfInBounds i true) (a.put di v) w' -> K (a.put oi.dst v) w') -> Oper.wp P oi a w K Q)
  (h2 : ∀ K : Act -> World -> Prop, (∀ v w', (crosses md ops I j = true -> S w') -> wpAnyK P md ops Q S I fuel (listed.setIfInBounds j true) (a.put dj v) w' -> K (a.put oj.dst v) w') -> Oper.wp P oj a w K Q) :
  wpAnyK P md ops Q S I (fuel + 1) listed a w := by
 subst hdi hdj; refine ⟨fun h0 => absurd (hr ▸ h0) (by simp), fun k hk => ?_⟩; rw [hr] at hk; rcases List.mem_cons.1 hk with rfl | hk
 ·refine wpOp_step hoi fun K hK => ?_; rw [if_pos (by simp [Region.wanted, hgi])]; exact h1 K (fun v w' h1 h2 => hK _ w' ⟨h1, h2⟩)
 ·obtain rfl : k = j := by simpa using hk
  refine wpOp_step hoj fun K hK => ?_; rw [if_pos (by simp [Region.wanted, hgj])]; exact h2 K (fun v w' h1 h2 => hK _ w' ⟨h1, h2⟩)
theorem run_append_none_q {t t2 e e2 ty : TypeId} {q : Nat} (ht : P.underlying t = some (.slice e)) (h2 : P.underlying t2 = some (.slice e2)) (hi : (P.info? e).map (·.size) = some q) (A : Option Addr) (B : Option Addr) (n c d : Nat) (hn : n <= c) :
  (Builtin.append_ #[t, t2] ty #[.slice A n c, .slice B 0 d]).run P w = .ok (.slice A n c) w := by
 obtain ⟨i, hi1, hi2⟩ := Option.map_eq_some_iff.1 hi; have h3 : ∀ w, (underlying t2).run P w = .ok (.slice e2) w := fun w => by simp [underlying, go_sem, h2]
 have h4 : ∀ w, (underlying t).run P w = .ok (.slice e) w := fun w => by simp [underlying, go_sem, ht]
 have h5 : ∀ w, (sizeOf e).run P w = .ok q w := fun w => by simp [sizeOf, typeInfo, go_sem, hi1, hi2]
 unfold Builtin.append_
 cases A <;> cases B <;> simp [go_sem, h3, h4, h5, hn, loadCellsFrom]
theorem wp_append_any {t : TypeId} (s x : Operand) (ho : o.op = .call { callee := .builtin .append, args := #[s, x], argTypes := #[t, t] })
  (e : TypeId) {i : TypeInfo} {z : Value} (size bytes : Nat) (ht : P.underlying t = some (.slice e)) (hi : P.info? e = some i) (hz : i.zero = some z) (hsize : i.size = size) (hby : i.bytes = bytes) (hzs : z.cells.size = size) (h0 : 0 < size)
  (A : Option Addr) (n cap0 : Nat) (xs : List Value) (hs : a.eval s = .slice A n cap0) (hown : w.ownsRow 0 e size (.slice A n cap0) n xs)
  (B : Option Addr) (m c : Nat) (news : List Value) (hx : a.eval x = .slice B m c) (hl : news.length = m * size) (hnews : 0 < m -> ∃ ad, B = some ad /\ ∀ j u, news[j]? = some u -> w.cell? (ad.add j) = some u) (h1 : ∀ u ∈ news, u.oneCell' = true)
  (h63 : n + m <= maxLen) (hbytes : (n + m) * bytes <= 140737488355328) (H : Nat) (hH : w.heap.size = H)
  (h : ∀ A' cap w', w'.ownsRow 0 e size (.slice A' (n + m) cap) (n + m) (xs ++ news) -> Fr (Value.slice A n cap0).ownBlock.toList w w' -> (∀ q, (Value.slice A' (n + m) cap).ownBlock = some q -> (Value.slice A n cap0).ownBlock = some q ∨ q = H) -> K (a.put o.dst (.slice A' (n + m) cap)) w') : Oper.wp P o a w K Q := by
 by_cases hm : 0 < m
 ·obtain ⟨ad, rfl, hn⟩ := hnews hm
  exact wp_append_fr s x ho e size bytes ht hi hz hsize hby hzs h0 _ n xs hs hown ad m c news hx hl hn h1 hm h63 hbytes H hH fun g cap w' k1 k2 k3 k4 => h _ cap w' k1 k2 (fun q hq => by
   obtain rfl : g = q := Option.some.inj hq; exact k3)
 ·obtain rfl : m = 0 := by omega
  obtain rfl : news = [] := List.length_eq_zero_iff.1 (by omega); obtain ⟨_, _, hsh, hcap, _⟩ := own_shape hown; injection hsh with _ _ hc'; have hrun := run_append_none_q (P := P) (w := w) (ty := o.type) ht ht (q := size) (by rw [hi]; simp [hsize]) A B n cap0 c (by omega); refine wp_run_same (v := .slice A n cap0) ?_ (h A cap0 w (by simpa using hown) (Fr.refl _ _) (fun q hq => .inl hq)); simp only [execOp, ho, resolve, invoke, builtin, Sem.run_bind, Sem.run_pure, Result.andThen_ok, List.map_toArray, List.map_cons, List.map_nil, hs, hx, hrun]
end
/-- Two nodes as one, with the key between them. -/
theorem with_nd {D : Nat -> Prop} {w : World} {base base2 gk : Nat} {v rv kv : Value} {n r : Nd} {key : Ky} (h : NdV D w base v n) (hr : NdV D w base2 rv r) (hk : BytesAt w kv key gk) (hdk : D gk) (hlr : n.lf = r.lf) (hl1 : n.l.length <= 600) (hl2 : r.l.length <= 600) (hD : ∀ q, w.heap.size <= q -> D q) :
  Calls Tryz.prog 125 #[v, kv, rv] w fun e w' => ∃ ov, e = .returned ov /\ NdV D w' w.heap.size ov (n.with_ key r) /\ Fr [] w w' := by
 obtain ⟨A, c, cs, rfl, hc, hown, hits, hcell⟩ := h.parts; obtain ⟨A2, c2, cs2, rfl, hc2, hown2, hits2, hcell2⟩ := hr.parts; obtain ⟨wb, hwb⟩ := nm (((w.alloc (.cells #[.int .i64 (kindOf n), .int .i64 (n.first : Int), .slice A n.l.length c] 88)).alloc (.cells #[.int .i64 (kindOf r), .int .i64 (r.first : Int), .slice A2 r.l.length c2] 88)).alloc (.cells znd.toArray 88)); have hf0 : Fr [] w wb := by rw [hwb]; exact (((Fr.refl [] w).alloc _).alloc _).alloc _
 have hb1 : Blk wb w.heap.size 88 [.int .i64 (kindOf n), .int .i64 (n.first : Int), .slice A n.l.length c] := by rw [hwb]; exact ((Blk.new w _ [.int .i64 (kindOf n), .int .i64 (n.first : Int), .slice A n.l.length c]).alloc _).alloc _
 have hb2 : Blk wb (w.heap.size + 1) 88 [.int .i64 (kindOf r), .int .i64 (r.first : Int), .slice A2 r.l.length c2] := by
  rw [hwb]; have := Blk.new (w.alloc (.cells #[.int .i64 (kindOf n), .int .i64 (n.first : Int), .slice A n.l.length c] 88)) 88 [.int .i64 (kindOf r), .int .i64 (r.first : Int), .slice A2 r.l.length c2]; rw [World.size_alloc] at this; exact this.alloc _
 have hb3 : Blk wb (w.heap.size + 2) 88 znd := by
  rw [hwb]; have := Blk.new ((w.alloc (.cells #[.int .i64 (kindOf n), .int .i64 (n.first : Int), .slice A n.l.length c] 88)).alloc (.cells #[.int .i64 (kindOf r), .int .i64 (r.first : Int), .slice A2 r.l.length c2] 88)) 88 znd
  rwa [World.size_alloc, World.size_alloc] at this
 have HZB : Hid (wb.heap.size = w.heap.size + 3) := lh (by rw [hwb, World.size_alloc, World.size_alloc, World.size_alloc]); obtain ⟨gs, hsl, _, _⟩ := SlAt.of_own hown w.heap.size; have HSL := lh (hsl.fr hf0 (by simp)); have HB1 := lh hb1; have HB2 := lh hb2; have HB3 := lh hb3; have HF0 := lh hf0; have HI := lh hits; have HI2 := lh hits2; have HD := lh hD; have HC2 := lh hcell2; have HLEN := lh hits.len; have HLEN2 := lh hits2.len; have HON := lh hits.one; have HON2 := lh hits2.one; have HGK := lh hk; have HDK := lh hdk; have HLR := lh hlr; obtain ⟨Ak, ck, ok, rfl, _, _⟩ := hk; clear hb1 hb2 hb3 hf0 hits hits2 hown hown2 hcell hcell2 h hr hD hsl hdk hlr; refine calls_post fun R HQ => ?_
 go_enter Tryz.func125, Tryz.ntmps125
 go_wp2_with (with_reducible refine wpList_alloc_z rfl 88 rfl (.agg #[.int .i64 0, .int .i64 0, .slice none 0 0]) znd.toArray zero_nd rfl ?_)
 rw [<- hwb]; have k0 := HB1.out.at_ (i := 0) rfl; have k1 := HB1.out.at_ (i := 1) rfl; have k2 := HB1.out.at_ (i := 2) rfl; simp only [nrm]
 go_cut [7] (fun v7 W => ∃ p A' c', v7 = .pointer (some ⟨p, 0, none⟩) /\ Blk W p 88 [.int .i64 (kindOf n), .int .i64 (n.first : Int), .slice A' n.l.length c'] /\ W.ownsRow wb.heap.size 77 3 (.slice A' n.l.length c') n.l.length cs /\ (Value.slice A' n.l.length c').ownBlock ≠ some p /\ wb.heap.size <= p /\ Fr [] wb W)
 case first =>
  refine wp_region_K (fun W => W.cell? ⟨w.heap.size, 0, none⟩ = some (.int .i64 (kindOf n)) /\ W.cell? ⟨w.heap.size, 1, none⟩ = some (.int .i64 (n.first : Int)) /\ W.cell? ⟨w.heap.size, 2, none⟩ = some (.slice A n.l.length c)) [0, 1, 2, 3, 4, 5, 7] (by kernel_rfl) ?_; refine tks [0, 1, 2, 3, 4, 5] ?_
  iterate 6 (refine tk rfl rfl ⟨k0, k1, k2⟩ rfl (fun _ hW => by (obtain ⟨q0, q1, q2⟩ := hW; go_simp) <;> with_reducible rfl) ?_; simp only [nrm])
  refine tke ?_; refine wpAnyK_two (i := 6) (j := 8) (some 14) (some 7) rfl rfl rfl rfl (by kernel_rfl) rfl rfl (fun K hK => ?_) (fun K hK => ?_)
  ·refine wp_call_f (l := [.tmp 13]) rfl [.slice A n.l.length c] rfl (enter_iclone _) ((items_clone (HSL.out.fr (S := []) (Fr.refl [] wb).drew (by simp)) HLEN.out HON.out (by omega)).mono ?_); rintro e w4 ⟨sl, rfl, hown4, hf4⟩; obtain ⟨A', c', rfl, _, _⟩ := own_shape hown4; have hf4' : Fr [] wb w4 := ((Fr.refl [] wb).drew).trans hf4 (by simp); have hz0 : wb.drew.heap.size = wb.heap.size := rfl; rw [hz0] at hown4; refine ⟨_, rfl, hK _ _ (fun _ => ⟨fr_keep hf4' k0, fr_keep hf4' k1, fr_keep hf4' k2⟩) ?_⟩; simp only [nrm]; clear hK; refine tv 7 (.agg #[.int .i64 (kindOf n), .int .i64 (n.first : Int), .slice A' n.l.length c']) rfl rfl ⟨fr_keep hf4' k0, fr_keep hf4' k1, fr_keep hf4' k2⟩ (.inl ⟨rfl, fun W hW => by go_simp⟩) ?_; simp only [nrm]; have hlt4 := own_lt hown4; refine sp 8 rfl rfl rfl fun K hK => ?_; refine wp_alloc_blk 88 rfl (.agg #[.int .i64 0, .int .i64 0, .slice none 0 0]) znd zero_nd rfl fun w5 hb5 hf5 hz5 => hK _ _ (fun _ => ⟨fr_keep hf5 (fr_keep hf4' k0), fr_keep hf5 (fr_keep hf4' k1), fr_keep hf5 (fr_keep hf4' k2)⟩) ?_; simp only [nrm]; clear hK; refine wpAnyK_step (j := 9) none rfl rfl (by kernel_rfl) rfl fun K hK => ?_; refine wp_store_blk 88 (.tmp 7) (.tmp 15) rfl [.int .i64 (kindOf n), .int .i64 (n.first : Int), .slice A' n.l.length c'] rfl rfl hb5 size_nd rfl ?tt fun w6 hb6 hf6 hz6 => hK _ _ (fun h => absurd h (by decide +kernel)) ?_
   case tt => intro u hu; simp at hu; rcases hu with rfl | rfl | rfl <;> rfl
   simp only [Act.put]; refine wd ?_ _; have hzz := hf4'.size; have HX : Hid (∃ p A' c', Value.pointer (some ⟨w4.heap.size, 0, none⟩) = .pointer (some ⟨p, 0, none⟩) /\ Blk w6 p 88 [.int .i64 (kindOf n), .int .i64 (n.first : Int), .slice A' n.l.length c'] /\ w6.ownsRow wb.heap.size 77 3 (.slice A' n.l.length c') n.l.length cs /\ (Value.slice A' n.l.length c').ownBlock ≠ some p /\ wb.heap.size <= p /\ Fr [] wb w6) := lh ⟨w4.heap.size, A', c', rfl, hb6, own_fr (own_fr hown4 hf5 (fun q hq hm => by cases hm)) hf6 (fun q hq hm => by have := hlt4 q hq; have := List.mem_singleton.1 hm; omega), fun e => by have := hlt4 _ e; omega, hzz, (hf4'.trans hf5 (by simp)).trans hf6 (fun q hq => .inr (by have := List.mem_singleton.1 hq; omega))⟩; clear hK hb5 hf5 hz5 hb6 hf6 hz6 hown4 hf4 hf4' hlt4; go_wp2_with fail
   go_meet
   exact HX.out
  ·refine wp_alloc_blk 88 rfl (.agg #[.int .i64 0, .int .i64 0, .slice none 0 0]) znd zero_nd rfl fun w5 hb5 hf5 hz5 => hK _ _ (fun _ => ⟨fr_keep hf5 k0, fr_keep hf5 k1, fr_keep hf5 k2⟩) ?_; simp only [Act.put]; clear hK; have hz0 : wb.drew.heap.size = wb.heap.size := rfl; rw [hz0] at hb5 hz5; have hf5' : Fr [] wb w5 := ((Fr.refl [] wb).drew).trans hf5 (by simp); refine sp 6 rfl rfl rfl fun K hK => ?_; refine wp_call_f (l := [.tmp 13]) rfl [.slice A n.l.length c] rfl (enter_iclone _) ((items_clone (HSL.out.fr (S := []) hf5' (by simp)) HLEN.out HON.out (by omega)).mono ?_); rintro e w4 ⟨sl, rfl, hown4, hf4⟩; obtain ⟨A', c', rfl, _, _⟩ := own_shape hown4; refine ⟨_, rfl, hK _ _ (fun _ => ⟨fr_keep hf4 (fr_keep hf5 k0), fr_keep hf4 (fr_keep hf5 k1), fr_keep hf4 (fr_keep hf5 k2)⟩) ?_⟩; simp only [nrm]; clear hK; refine tv 7 (.agg #[.int .i64 (kindOf n), .int .i64 (n.first : Int), .slice A' n.l.length c']) rfl rfl ⟨fr_keep hf4 (fr_keep hf5 k0), fr_keep hf4 (fr_keep hf5 k1), fr_keep hf4 (fr_keep hf5 k2)⟩ (.inl ⟨rfl, fun W hW => by go_simp⟩) ?_; simp only [nrm]; have hlt4 := hown4.lt; refine wpAnyK_step (j := 9) none rfl rfl (by kernel_rfl) rfl fun K hK => ?_; refine wp_store_blk 88 (.tmp 7) (.tmp 15) rfl [.int .i64 (kindOf n), .int .i64 (n.first : Int), .slice A' n.l.length c'] rfl rfl (hb5.fr hf4 (by simp)) size_nd rfl ?tt2 fun w6 hb6 hf6 hz6 => hK _ _ (fun h => absurd h (by decide +kernel)) ?_
   case tt2 => intro u hu; simp at hu; rcases hu with rfl | rfl | rfl <;> rfl
   simp only [Act.put]; refine wd ?_ _; have HX : Hid (∃ p A' c', Value.pointer (some ⟨wb.heap.size, 0, none⟩) = .pointer (some ⟨p, 0, none⟩) /\ Blk w6 p 88 [.int .i64 (kindOf n), .int .i64 (n.first : Int), .slice A' n.l.length c'] /\ w6.ownsRow wb.heap.size 77 3 (.slice A' n.l.length c') n.l.length cs /\ (Value.slice A' n.l.length c').ownBlock ≠ some p /\ wb.heap.size <= p /\ Fr [] wb w6) := lh ⟨wb.heap.size, A', c', rfl, hb6, own_base (own_fr hown4 hf6 (fun q hq hm => by have := (hlt4 q hq).1; have := List.mem_singleton.1 hm; omega)) (fun q hq => by have := (hlt4 q hq).1; omega), fun e => by have := (hlt4 _ e).1; omega, Nat.le_refl _, (hf5'.trans hf4 (by simp)).trans hf6 (fun q hq => .inr (by have := List.mem_singleton.1 hq; omega))⟩; clear hK hb5 hf5 hz5 hb6 hf6 hz6 hown4 hf4 hf5' hlt4; go_wp2_with fail
   go_meet
   exact HX.out
 case rest =>
  obtain ⟨p, A', c', rfl, hbp, hown', hnep, hpge, hfc⟩ := hcut; clear k0 k1 k2; have HBP := lh hbp; have HOWN := lh hown'; have HNE := lh hnep; have HFC := lh hfc; have HPG := lh hpge; have k0 := hbp.at_ (i := 0) rfl; have k1 := hbp.at_ (i := 1) rfl; have k2 := hbp.at_ (i := 2) rfl; have HB1C := lh (HB1.out.fr hfc (by simp)); have b0 := HB1C.out.at_ (i := 0) rfl; have b1 := HB1C.out.at_ (i := 1) rfl; have b2 := HB1C.out.at_ (i := 2) rfl; clear hbp hown' hnep hpge hfc; have hz2 : ((w.alloc (.cells #[.int .i64 (kindOf n), .int .i64 (n.first : Int), .slice A n.l.length c] 88)).alloc (.cells #[.int .i64 (kindOf r), .int .i64 (r.first : Int), .slice A2 r.l.length c2] 88)).heap.size = w.heap.size + 2 := by rw [World.size_alloc, World.size_alloc]
  rw [hz2]; clear hz2 hwb
  cases hlf : n.lf with
  | true =>
   have hkn : kindOf n = 1 := by unfold kindOf; rw [hlf]; rfl
   rw [hkn] at b0 k0; go_wp2_with fail; refine (leaf_any wc 1 _ _).mono ?_; rintro e w2 ⟨rfl, hw2⟩; clear k0 k1 k2 b0 b1 b2; have hf2 : Fr [] wc w2 := by rw [hw2]; exact (Fr.refl [] wc).alloc _
   have HBT := lh (HBP.out.fr hf2 (by simp)); have HOT := lh (own_fr HOWN.out hf2 (fun q hq hm => by cases hm)); have HFT := lh (HFC.out.trans hf2 (by simp)); have HNT := HNE; have HLT : Hid (cs.length = n.l.length * 3) := HLEN; have HIT : Hid (ItsC D w n.l cs) := HI; have HW : Hid (n.with_ key r = ⟨n.lf, n.first, n.l ++ r.l⟩) := lh (by unfold Nd.with_; rw [if_pos hlf]); clear hw2 hf2; clear hkn; have HB2T := lh ((HB2.out.fr HFT.out (by simp))); have k1 := HBT.out.at_ (i := 1) rfl; have k2 := HBT.out.at_ (i := 2) rfl; have r2 := HB2T.out.at_ (i := 2) rfl; go_upto_region 4 with fail
   refine wp_region_lit ?_
   iterate 4 (refine rn rfl (by go_simp <;> with_reducible rfl) ?_; simp only [nrm])
   refine lp fun K hK => ?_; obtain ⟨ti, hti, hz', hsz', hby⟩ := info_get info_it
   refine wp_append_any (.tmp 30) (.tmp 32) rfl 77 3 56 Tryz.underlying86 hti hz' hsz' hby rfl (by omega) A' (n.l.length) c' cs rfl (own_base HOT.out (fun _ _ => Nat.zero_le _)) A2 r.l.length c2 cs2 rfl HLEN2.out (fun h0 => by
    obtain ⟨g, rfl, hcg⟩ := HC2.out h0; exact ⟨_, rfl, fun j u hu => by rw [Addr.add_mid, Nat.zero_add]; exact fr_keep (HF0.out.trans HFT.out (by simp)) (hcg j u hu)⟩) HON2.out (by unfold maxLen; omega) (by omega) w2.heap.size rfl fun A9 c9 w9 ho9 F9 hat9 => hK _ _ ?_
   clear hK; simp only [nrm]; have hlow : ∀ q, (Value.slice A' (n.l.length) c').ownBlock = some q -> wb.heap.size <= q := fun q hq => (HOT.out.lt q hq).1; have hS9 : ∀ q, q ∈ (Value.slice A' (n.l.length) c').ownBlock.toList -> wb.heap.size <= q := fun q hq => hlow q (by simpa using hq); have hp9 : p ∉ (Value.slice A' (n.l.length) c').ownBlock.toList := fun hm => HNT.out (by simpa using hm); have hzb := HZB.out; have hpg := HPG.out; have hpT := HBT.out.lt; have hzT := HFT.out.size; have hB9 := HBT.out.fr F9 hp9; have k29 := hB9.at_ (i := 2) rfl; have kf9 := hB9.free 2; refine rn rfl (by go_simp <;> with_reducible rfl) ?_; simp only [nrm]; refine lp fun K hK => ?_; refine wp_run_skip (w' := w9.setCell ⟨p, 2, none⟩ (.slice A9 (n.l.length + r.l.length) c9)) (by go_simp) (hK _ _ ?_); clear hK; simp only [Act.put]; refine wpList_nil ?_; have hfs : Fr [p] w9 (w9.setCell ⟨p, 2, none⟩ (.slice A9 (n.l.length + r.l.length) c9)) := (Fr.refl _ _).setCell (.inl (by simp)) _; have hBE := hB9.set_ 2 (.slice A9 (n.l.length + r.l.length) c9); have hF9 : Fr [] wb w9 := HFT.out.trans F9 (fun q hq => .inr (hS9 q hq)); have hFE : Fr [] wb (w9.setCell ⟨p, 2, none⟩ (.slice A9 (n.l.length + r.l.length) c9)) := hF9.trans hfs (fun q hq => .inr (by have := List.mem_singleton.1 hq; omega))
   have hne9 : (Value.slice A9 (n.l.length + r.l.length) c9).ownBlock ≠ some p := fun e => by
    rcases hat9 p e with h1 | h1
    ·exact HNT.out h1
    ·omega
   have hoE : (w9.setCell ⟨p, 2, none⟩ (.slice A9 (n.l.length + r.l.length) c9)).ownsRow wb.heap.size 77 3 (.slice A9 (n.l.length + r.l.length) c9) (n.l.length + r.l.length) (cs ++ cs2) := own_fr (own_base ho9 (fun q hq => by
    rcases hat9 q hq with h1 | h1
    ·have := hlow q h1; omega
    ·omega)) hfs (fun q hq hm => by have := List.mem_singleton.1 hm; exact hne9 (by rw [<- this]; exact hq))
   have HBE : Hid (Blk (w9.setCell ⟨p, 2, none⟩ (.slice A9 (n.l.length + r.l.length) c9)) p 88 [.int .i64 (kindOf n), .int .i64 (n.first : Int), .slice A9 (n.l.length + r.l.length) c9]) := lh hBE; have HFE := lh hFE; have HOE := lh hoE; have HB3E := lh (HB3.out.fr hFE (by simp)); have hpne : p ≠ w.heap.size + 2 := by omega
   clear hfs hBE hF9 hFE hne9 hoE hat9 hB9 k29 kf9 ho9 F9 hS9 hp9 hlow k1 k2 r2 hti hz' hsz' hby; generalize w9.setCell ⟨p, 2, none⟩ (.slice A9 (n.l.length + r.l.length) c9) = w10 at *
   go_wp2_with (first
    | (refine wpL_load rfl 88 (.tmp 7) rfl rfl HBE.out Tryz.underlying88 rfl size_nd ?_)
    | (refine wpL_store rfl 88 (.tmp 6) (.tmp 35) rfl [.int .i64 (kindOf n), .int .i64 (n.first : Int), .slice A9 (n.l.length + r.l.length) c9] rfl rfl HB3E.out size_nd rfl ?tt ?_))
   case tt => intro u hu; simp at hu; rcases hu with rfl | rfl | rfl <;> rfl
   intro w11 hb11 hf11 hz11; have hfin : Fr [] w w11 := (HF0.out.trans HFE.out (by simp)).trans hf11 (fun q hq => .inr (by have := List.mem_singleton.1 hq; omega))
   have HE : Hid (R (.returned (.agg #[.int .i64 (kindOf n), .int .i64 (n.first : Int), .slice A9 (n.l.length + r.l.length) c9])) w11) := lh (HQ.out _ _ ⟨_, rfl, by
    rw [HW.out]; have hkk : kindOf n = kindOf ⟨n.lf, n.first, n.l ++ r.l⟩ := rfl; rw [hkk]; refine NdV.make (n := ⟨n.lf, n.first, n.l ++ r.l⟩) (ItsC.append HIT.out HI2.out) ?_ hfin HD.out; have hlen : (n.l ++ r.l).length = n.l.length + r.l.length := by first | (simp; done) | (simp; omega)
    rw [show (⟨n.lf, n.first, n.l ++ r.l⟩ : Nd).l.length = n.l.length + r.l.length from hlen]; exact own_base (own_fr HOE.out hf11 (fun q hq hm => by have := (HOE.out.lt q hq).1; have := List.mem_singleton.1 hm; omega)) (fun q hq => by have := (HOE.out.lt q hq).1; omega), hfin⟩)
   have HB11 := lh hb11; clear hb11 hf11 hz11 hfin; go_wp2_with fail; exact ret_blk (g := w.heap.size + 2) (t' := 88) (cs := [.int .i64 (kindOf n), .int .i64 (n.first : Int), .slice A9 (n.l.length + r.l.length) c9]) (d := _) rfl rfl HB11.out Tryz.underlying88 rfl size_nd HE.out
  | false =>
   have hkn : kindOf n = 2 := by unfold kindOf; rw [hlf]; rfl
   rw [hkn] at b0 k0; go_wp2_with fail; refine (leaf_any wc 2 _ _).mono ?_; rintro e w2 ⟨rfl, hw2⟩; clear k0 k1 k2 b0 b1 b2; have hf2 : Fr [] wc w2 := by rw [hw2]; exact (Fr.refl [] wc).alloc _
   have HBU := lh (HBP.out.fr hf2 (by simp)); have HOU := lh (own_fr HOWN.out hf2 (fun q hq hm => by cases hm)); have HFU := lh (HFC.out.trans hf2 (by simp)); have HB2U := lh (HB2.out.fr HFU.out (by simp)); have u1 := HBU.out.at_ (i := 1) rfl; have u2 := HBU.out.at_ (i := 2) rfl; have s1 := HB2U.out.at_ (i := 1) rfl; clear hw2 hf2 hkn; go_upto_region 3 with fail
   refine wp_region_lit ?_
   iterate 7 (refine rn rfl (by go_simp <;> with_reducible rfl) ?_; simp only [nrm])
   refine lp fun K hK => ?_; obtain ⟨ti, hti, hz', hsz', hby⟩ := info_get info_it; refine wp_build_one (.tmp 25) rfl Tryz.underlying86 hti hz' [.slice Ak key.length ck, .slice none 0 0, .int .i64 (r.first : Int)] rfl hsz' rfl (by simp) (by simp) (hK _ _ ?_); clear hK; simp only [nrm]; have hbn := Blk.new w2 77 [.slice Ak key.length ck, .slice none 0 0, .int .i64 (r.first : Int)]; have hfn : Fr [] w2 (w2.alloc (.cells [.slice Ak key.length ck, .slice none 0 0, .int .i64 (r.first : Int)].toArray 77)) := (Fr.refl [] w2).alloc _; have hsn : (w2.alloc (.cells [.slice Ak key.length ck, .slice none 0 0, .int .i64 (r.first : Int)].toArray 77)).heap.size = w2.heap.size + 1 := by simp
   generalize w2.alloc (.cells [.slice Ak key.length ck, .slice none 0 0, .int .i64 (r.first : Int)].toArray 77) = w8 at *; have h3 : ∀ u ∈ [Value.slice Ak key.length ck, .slice none 0 0, .int .i64 (r.first : Int)], u.oneCell' = true := by intro u hu; simp at hu; rcases hu with rfl | rfl | rfl <;> rfl
   refine lp fun K hK => ?_; refine wp_append_any (.tmp 20) (.tmp 26) rfl 77 3 56 Tryz.underlying86 hti hz' hsz' hby rfl (by omega) A' n.l.length c' cs rfl (own_base (own_fr HOU.out hfn (by simp)) (fun _ _ => Nat.zero_le _)) (some ⟨w2.heap.size, 0, none⟩) 1 1 [.slice Ak key.length ck, .slice none 0 0, .int .i64 (r.first : Int)] rfl rfl (fun _ => ⟨_, rfl, fun j u hu => by rw [Addr.add_mid, Nat.zero_add]; exact hbn.at_ hu⟩) h3 (by unfold maxLen; omega) (by omega) (w2.heap.size + 1) hsn fun A9 c9 w9 ho9 F9 hat9 => hK _ _ ?_; clear hK; simp only [nrm]; have hlow : ∀ q, (Value.slice A' n.l.length c').ownBlock = some q -> wb.heap.size <= q := fun q hq => (HOU.out.lt q hq).1; have hS9 : ∀ q, q ∈ (Value.slice A' n.l.length c').ownBlock.toList -> wb.heap.size <= q := fun q hq => hlow q (by simpa using hq); have hp9 : p ∉ (Value.slice A' n.l.length c').ownBlock.toList := fun hm => HNE.out (by simpa using hm); have hzb := HZB.out; have hpg := HPG.out; have hpT := HBU.out.lt; have hzT := HFU.out.size; have hB9 := (HBU.out.fr hfn (by simp)).fr F9 hp9; have k29 := hB9.at_ (i := 2) rfl; have kf9 := hB9.free 2; refine rn rfl (by go_simp <;> with_reducible rfl) ?_; simp only [nrm]; refine lp fun K hK => ?_; refine wp_run_skip (w' := w9.setCell ⟨p, 2, none⟩ (.slice A9 (n.l.length + 1) c9)) (by go_simp) (hK _ _ ?_); clear hK; simp only [Act.put]; refine wpList_nil ?_; have hfs : Fr [p] w9 (w9.setCell ⟨p, 2, none⟩ (.slice A9 (n.l.length + 1) c9)) := (Fr.refl _ _).setCell (.inl (by simp)) _; have hBE := hB9.set_ 2 (.slice A9 (n.l.length + 1) c9); have hF9 : Fr [] wb w9 := (HFU.out.trans hfn (by simp)).trans F9 (fun q hq => .inr (hS9 q hq)); have hFE : Fr [] wb (w9.setCell ⟨p, 2, none⟩ (.slice A9 (n.l.length + 1) c9)) := hF9.trans hfs (fun q hq => .inr (by have := List.mem_singleton.1 hq; omega))
   have hne9 : (Value.slice A9 (n.l.length + 1) c9).ownBlock ≠ some p := fun e => by
    rcases hat9 p e with h1 | h1
    ·exact HNE.out h1
    ·omega
   have hoE : (w9.setCell ⟨p, 2, none⟩ (.slice A9 (n.l.length + 1) c9)).ownsRow wb.heap.size 77 3 (.slice A9 (n.l.length + 1) c9) (n.l.length + 1) (cs ++ [Value.slice Ak key.length ck, .slice none 0 0, .int .i64 (r.first : Int)]) := own_fr (own_base ho9 (fun q hq => by
    rcases hat9 q hq with h1 | h1
    ·have := hlow q h1; omega
    ·omega)) hfs (fun q hq hm => by have := List.mem_singleton.1 hm; exact hne9 (by rw [<- this]; exact hq))
   have HBT : Hid (Blk (w9.setCell ⟨p, 2, none⟩ (.slice A9 (n.l.length + 1) c9)) p 88 [.int .i64 (kindOf n), .int .i64 (n.first : Int), .slice A9 (n.l.length + 1) c9]) := lh hBE; have HFT := lh hFE; have HOT := lh hoE; have HNT := lh hne9; have HLT : Hid ((cs ++ [Value.slice Ak key.length ck, .slice none 0 0, .int .i64 (r.first : Int)]).length = (n.l.length + 1) * 3) := lh (by have := HLEN.out; simp; omega); have HIT : Hid (ItsC D w (n.l ++ [(⟨key, [], r.first⟩ : It)]) (cs ++ [Value.slice Ak key.length ck, .slice none 0 0, .int .i64 (r.first : Int)])) := lh (ItsC.append HI.out ⟨⟨⟨gk, HGK.out, HDK.out⟩, ⟨gk, BytesAt.nil _ _, HDK.out⟩, rfl⟩, trivial⟩); have HW : Hid (n.with_ key r = ⟨n.lf, n.first, (n.l ++ [(⟨key, [], r.first⟩ : It)]) ++ r.l⟩) := lh (by unfold Nd.with_; rw [if_neg (by rw [hlf]; decide)]); clear hfs hBE hF9 hFE hne9 hoE hat9 hB9 k29 kf9 ho9 F9 hS9 hp9 hlow hbn hfn hsn h3 u1 u2 s1 hti hz' hsz' hby hpT hzT hzb hpg HBU HOU HFU HB2U; generalize w9.setCell ⟨p, 2, none⟩ (.slice A9 (n.l.length + 1) c9) = w3 at *; have HB2T := lh ((HB2.out.fr HFT.out (by simp))); have k1 := HBT.out.at_ (i := 1) rfl; have k2 := HBT.out.at_ (i := 2) rfl; have r2 := HB2T.out.at_ (i := 2) rfl; go_upto_region 4 with fail
   refine wp_region_lit ?_
   iterate 4 (refine rn rfl (by go_simp <;> with_reducible rfl) ?_; simp only [nrm])
   refine lp fun K hK => ?_; obtain ⟨tj, htj, hz', hsz', hby⟩ := info_get info_it
   refine wp_append_any (.tmp 30) (.tmp 32) rfl 77 3 56 Tryz.underlying86 htj hz' hsz' hby rfl (by omega) A9 (n.l.length + 1) c9 (cs ++ [Value.slice Ak key.length ck, .slice none 0 0, .int .i64 (r.first : Int)]) rfl (own_base HOT.out (fun _ _ => Nat.zero_le _)) A2 r.l.length c2 cs2 rfl HLEN2.out (fun h0 => by
    obtain ⟨g, rfl, hcg⟩ := HC2.out h0; exact ⟨_, rfl, fun j u hu => by rw [Addr.add_mid, Nat.zero_add]; exact fr_keep (HF0.out.trans HFT.out (by simp)) (hcg j u hu)⟩) HON2.out (by unfold maxLen; omega) (by omega) w3.heap.size rfl fun B9 d9 x9 ho9 F9 hat9 => hK _ _ ?_
   clear hK; simp only [nrm]; have hlow : ∀ q, (Value.slice A9 (n.l.length + 1) c9).ownBlock = some q -> wb.heap.size <= q := fun q hq => (HOT.out.lt q hq).1; have hS9 : ∀ q, q ∈ (Value.slice A9 (n.l.length + 1) c9).ownBlock.toList -> wb.heap.size <= q := fun q hq => hlow q (by simpa using hq); have hp9 : p ∉ (Value.slice A9 (n.l.length + 1) c9).ownBlock.toList := fun hm => HNT.out (by simpa using hm); have hzb := HZB.out; have hpg := HPG.out; have hpT := HBT.out.lt; have hzT := HFT.out.size; have hB9 := HBT.out.fr F9 hp9; have k29 := hB9.at_ (i := 2) rfl; have kf9 := hB9.free 2; refine rn rfl (by go_simp <;> with_reducible rfl) ?_; simp only [nrm]; refine lp fun K hK => ?_; refine wp_run_skip (w' := x9.setCell ⟨p, 2, none⟩ (.slice B9 (n.l.length + 1 + r.l.length) d9)) (by go_simp) (hK _ _ ?_); clear hK; simp only [Act.put]; refine wpList_nil ?_; have hfs : Fr [p] x9 (x9.setCell ⟨p, 2, none⟩ (.slice B9 (n.l.length + 1 + r.l.length) d9)) := (Fr.refl _ _).setCell (.inl (by simp)) _; have hBE := hB9.set_ 2 (.slice B9 (n.l.length + 1 + r.l.length) d9); have hF9 : Fr [] wb x9 := HFT.out.trans F9 (fun q hq => .inr (hS9 q hq)); have hFE : Fr [] wb (x9.setCell ⟨p, 2, none⟩ (.slice B9 (n.l.length + 1 + r.l.length) d9)) := hF9.trans hfs (fun q hq => .inr (by have := List.mem_singleton.1 hq; omega))
   have hne9 : (Value.slice B9 (n.l.length + 1 + r.l.length) d9).ownBlock ≠ some p := fun e => by
    rcases hat9 p e with h1 | h1
    ·exact HNT.out h1
    ·omega
   have hoE : (x9.setCell ⟨p, 2, none⟩ (.slice B9 (n.l.length + 1 + r.l.length) d9)).ownsRow wb.heap.size 77 3 (.slice B9 (n.l.length + 1 + r.l.length) d9) (n.l.length + 1 + r.l.length) ((cs ++ [Value.slice Ak key.length ck, .slice none 0 0, .int .i64 (r.first : Int)]) ++ cs2) := own_fr (own_base ho9 (fun q hq => by
    rcases hat9 q hq with h1 | h1
    ·have := hlow q h1; omega
    ·omega)) hfs (fun q hq hm => by have := List.mem_singleton.1 hm; exact hne9 (by rw [<- this]; exact hq))
   have HBE : Hid (Blk (x9.setCell ⟨p, 2, none⟩ (.slice B9 (n.l.length + 1 + r.l.length) d9)) p 88 [.int .i64 (kindOf n), .int .i64 (n.first : Int), .slice B9 (n.l.length + 1 + r.l.length) d9]) := lh hBE; have HFE := lh hFE; have HOE := lh hoE; have HB3E := lh (HB3.out.fr hFE (by simp)); have hpne : p ≠ w.heap.size + 2 := by omega
   clear hfs hBE hF9 hFE hne9 hoE hat9 hB9 k29 kf9 ho9 F9 hS9 hp9 hlow k1 k2 r2 htj hz' hsz' hby; generalize x9.setCell ⟨p, 2, none⟩ (.slice B9 (n.l.length + 1 + r.l.length) d9) = w10 at *
   go_wp2_with (first
    | (refine wpL_load rfl 88 (.tmp 7) rfl rfl HBE.out Tryz.underlying88 rfl size_nd ?_)
    | (refine wpL_store rfl 88 (.tmp 6) (.tmp 35) rfl [.int .i64 (kindOf n), .int .i64 (n.first : Int), .slice B9 (n.l.length + 1 + r.l.length) d9] rfl rfl HB3E.out size_nd rfl ?tt ?_))
   case tt => intro u hu; simp at hu; rcases hu with rfl | rfl | rfl <;> rfl
   intro w11 hb11 hf11 hz11; have hfin : Fr [] w w11 := (HF0.out.trans HFE.out (by simp)).trans hf11 (fun q hq => .inr (by have := List.mem_singleton.1 hq; omega))
   have HE : Hid (R (.returned (.agg #[.int .i64 (kindOf n), .int .i64 (n.first : Int), .slice B9 (n.l.length + 1 + r.l.length) d9])) w11) := lh (HQ.out _ _ ⟨_, rfl, by
    rw [HW.out]; have hkk : kindOf n = kindOf ⟨n.lf, n.first, (n.l ++ [(⟨key, [], r.first⟩ : It)]) ++ r.l⟩ := rfl; rw [hkk]; refine NdV.make (n := ⟨n.lf, n.first, (n.l ++ [(⟨key, [], r.first⟩ : It)]) ++ r.l⟩) (ItsC.append HIT.out HI2.out) ?_ hfin HD.out; have hlen : ((n.l ++ [(⟨key, [], r.first⟩ : It)]) ++ r.l).length = n.l.length + 1 + r.l.length := by first | (simp; done) | (simp; omega)
    rw [show (⟨n.lf, n.first, (n.l ++ [(⟨key, [], r.first⟩ : It)]) ++ r.l⟩ : Nd).l.length = n.l.length + 1 + r.l.length from hlen]; exact own_base (own_fr HOE.out hf11 (fun q hq hm => by have := (HOE.out.lt q hq).1; have := List.mem_singleton.1 hm; omega)) (fun q hq => by have := (HOE.out.lt q hq).1; omega), hfin⟩)
   have HB11 := lh hb11; clear hb11 hf11 hz11 hfin; go_wp2_with fail; exact ret_blk (g := w.heap.size + 2) (t' := 88) (cs := [.int .i64 (kindOf n), .int .i64 (n.first : Int), .slice B9 (n.l.length + 1 + r.l.length) d9]) (d := _) rfl rfl HB11.out Tryz.underlying88 rfl size_nd HE.out
def Buf (w : World) (H : Nat) (v : Value) (bs : List UInt8) : Prop := w.ownsRow H 5 1 v bs.length (bcells bs)
structure App (w : World) (H : Nat) (v : Value) (bs : List UInt8) (w' : World) (v' : Value) : Prop where
 buf : Buf w' H v' bs
 fr : Fr v.ownBlock.toList w w'
 row : ∀ q, v'.ownBlock = some q -> v.ownBlock = some q ∨ w.heap.size <= q
theorem Buf.shape {w : World} {H : Nat} {v : Value} {bs : List UInt8} (h : Buf w H v bs) : ∃ A c, v = .slice A bs.length c := by
 obtain ⟨A, c, e, _⟩ := own_shape h; exact ⟨A, c, e⟩
theorem Buf.fr {S : List Nat} {w w' : World} {H : Nat} {v : Value} {bs : List UInt8} (h : Buf w H v bs) (hf : Fr S w w') (hS : ∀ q, v.ownBlock = some q -> q ∉ S) : Buf w' H v bs := own_fr h hf hS
theorem App.fr0 {w0 w w' : World} {H : Nat} {v v' : Value} {bs bs' : List UInt8} (h : App w H v bs' w' v') (hb : Buf w H v bs) (h0 : w0.heap.size <= H) (hf : Fr [] w0 w) : Fr [] w0 w' :=
 hf.trans h.fr fun q hq => .inr (by have := (hb.lt q (by simpa using hq)).1; omega)
theorem wp_append_buf {o : Oper} {a : Act} {w : World} {K : Act -> World -> Prop} {Q : Exit -> Act -> World -> Prop} (s x : Operand) (ho : o.op = .call { callee := .builtin .append, args := #[s, x], argTypes := #[23, 23] })
  {H : Nat} {v : Value} {bs more : List UInt8} (hs : a.eval s = v) (hb : Buf w H v bs) (hH : H <= w.heap.size) {g : Nat} (hx : BytesAt w (a.eval x) more g) (hl1 : bs.length <= 1048576) (hl2 : more.length <= 1048576)
  (h : ∀ v' w', App w H v (bs ++ more) w' v' -> K (a.put o.dst v') w') : Oper.wp Tryz.prog o a w K Q := by
 obtain ⟨iu, hi, hz', hsz', hby⟩ := info_get info_u8z; obtain ⟨A, c, rfl, _⟩ := own_shape hb; obtain ⟨B, d, off, hxv, _, hcell⟩ := hx
 refine wp_append_any s x ho 5 1 1 Tryz.underlying23 hi hz' hsz' hby rfl (by omega) A bs.length c (bcells bs) hs (own_base hb (fun _ _ => Nat.zero_le _)) B more.length d (bcells more) hxv (by rw [bcells_len]; omega) (fun h0 => by
  obtain ⟨hB, hc⟩ := hcell h0; exact ⟨_, hB, fun j u hu => by rw [Addr.add_mid]; exact hc j u hu⟩) (bcells_one _) (by unfold maxLen; omega) (by omega) w.heap.size rfl fun A' cap w' ho' F hat => ?_
 have e : bs.length + more.length = (bs ++ more).length := by simp
 rw [e] at ho' hat ⊢
 refine h _ w' ⟨?_, F, fun q hq => by
  rcases hat q hq with h1 | h1
  ·exact .inl h1
  ·exact .inr (by omega)⟩
 rw [<- bcells_append] at ho'
 exact own_base ho' fun q hq => by
  rcases hat q hq with h1 | h1
  ·exact (hb.lt q h1).1
  ·omega
theorem put16_any {w : World} {H : Nat} {v : Value} {bs : List UInt8} (h : Buf w H v bs) (n : Nat) (_hn : n < 65536) (hl : bs.length <= 1000000) (hH : H <= w.heap.size) :
  Calls Tryz.prog 69 #[v, .int .i64 (n : Int)] w fun e w' => ∃ v', e = .returned v' /\ App w H v (bs ++ b16 n) w' v' := by
 have HB := lh h; clear h
 go_enter Tryz.func69, Tryz.ntmps69
 go_upto_region 1 with fail
 refine wp_region_lit ?_
 iterate 6 (refine rn rfl (by go_simp <;> with_reducible rfl) ?_; simp only [nrm])
 obtain ⟨b1, hb1⟩ := nm (UInt8.ofNat (n / 256)); obtain ⟨b0, hb0⟩ := nm (UInt8.ofNat n); have hw1 : IntKind.u8.wrap ((n : Int) / 256) = (b1.toNat : Int) := by rw [hb1, UInt8.toNat_ofNat', IntKind.wrap_u8]; omega
 have hw0 : IntKind.u8.wrap (n : Int) = (b0.toNat : Int) := by rw [hb0, UInt8.toNat_ofNat', IntKind.wrap_u8]; omega
 rw [hw1, hw0]; have HE : Hid (b16 n = [b1, b0]) := lh (by rw [hb1, hb0]; rfl); clear hw1 hw0 hb1 hb0; refine lp fun K hK => ?_; refine wp_run_value (v := .slice (some ⟨w.heap.size, 0, none⟩) 2 2) (w' := w.alloc (.cells #[.int .u8 (b1.toNat : Int), .int .u8 (b0.toNat : Int)] 5)) (by simp [execOp, Act.eval, build_two, Result.andThen]) (hK _ _ ?_); simp only [nrm]; clear hK; have hb5 : Blk (w.alloc (.cells #[.int .u8 (b1.toNat : Int), .int .u8 (b0.toNat : Int)] 5)) w.heap.size 5 (bcells [b1, b0]) := Blk.new w 5 (bcells [b1, b0]); have hf5 : Fr [] w (w.alloc (.cells #[.int .u8 (b1.toNat : Int), .int .u8 (b0.toNat : Int)] 5)) := (Fr.refl [] w).alloc _; have hz5 : (w.alloc (.cells #[.int .u8 (b1.toNat : Int), .int .u8 (b0.toNat : Int)] 5)).heap.size = w.heap.size + 1 := by simp
 generalize w.alloc (.cells #[.int .u8 (b1.toNat : Int), .int .u8 (b0.toNat : Int)] 5) = w5 at *; refine lp fun K hK => ?_; refine wp_append_buf (.tmp 5) (.tmp 11) rfl rfl (HB.out.fr hf5 (by simp)) (by omega) (BytesAt.of_blk hb5 2 (Nat.le_refl _)) (by omega) (by simp) fun v' w' hap => hK _ _ ?_; simp only [nrm]; clear hK; refine rn rfl (by go_simp <;> with_reducible rfl) ?_; simp only [nrm]; refine wpList_nil ?_
 have HX : Hid (App w H v (bs ++ b16 n) w' v') := lh (by
  rw [HE.out]
  exact ⟨hap.buf, (hf5.mono (by simp)).trans hap.fr (fun q hq => .inl hq), fun q hq => by
   rcases hap.row q hq with h1 | h1
   ·exact .inl h1
   ·exact .inr (by omega)⟩)
 clear hap hb5 hf5 hz5; go_wp2_with fail
 go_ret
 exact ⟨_, rfl, HX.out⟩
structure WSt (w0 wc : World) (H : Nat) (vb : Value) (bb : List UInt8) (wx : Nat) (X : List Value) : Prop where
 buf : Buf wc H vb bb
 blk : Blk wc wx 77 X
 ne : vb.ownBlock ≠ some wx
 fr : Fr [] w0 wc
 hz : w0.heap.size = H
section
variable {w0 wc w' : World} {H wx : Nat} {vb v' : Value} {bb b' : List UInt8} {X : List Value}
theorem WSt.hH (h : WSt w0 wc H vb bb wx X) : H <= wc.heap.size := by have := h.fr.size; have := h.hz; omega
theorem WSt.frame (h : WSt w0 wc H vb bb wx X) (hf : Fr [] wc w') : WSt w0 w' H vb bb wx X := ⟨h.buf.fr hf (by simp), h.blk.fr hf (by simp), h.ne, h.fr.trans hf (by simp), h.hz⟩
theorem WSt.app (h : WSt w0 wc H vb bb wx X) (ha : App wc H vb b' w' v') : WSt w0 w' H v' b' wx X := ⟨ha.buf, h.blk.fr ha.fr (fun hm => h.ne (by simpa using hm)), fun e => by
 rcases ha.row _ e with h1 | h1
 ·exact h.ne h1
 ·have := h.blk.lt; omega, h.fr.trans ha.fr (fun q hq => .inr (by have := (h.buf.lt q (by simpa using hq)).1; have := h.hz; omega)), h.hz⟩
end
theorem own_of_blk {w : World} {g H n : Nat} {e : TypeId} {cs : List Value} (h : Blk w g e cs) (hn : cs.length = n) (hH : H <= g) (hl : n <= 1048576) : w.ownsRow H e 1 (.slice (some ⟨g, 0, none⟩) n n) n cs :=
 ⟨by omega, .inr ⟨g, n, cs.toArray, rfl, hH, h, Nat.le_refl _, by unfold maxLen; omega, by simp [hn], by simp [<- hn]⟩⟩
def WRel (wb : World) (n : Nd) (v3 v24 : Value) (wr : World) : Prop := ∃ k : Nat, k <= n.l.length /\ v24 = .int .i64 (k : Int) /\ Buf wr wb.heap.size v3 (n.head ++ (n.l.take k).flatMap (ib n.lf)) /\ Fr [] wb wr
theorem part_len (n : Nd) (k : Nat) : (n.head ++ (n.l.take k).flatMap (ib n.lf)).length <= n.size := by
 rw [List.length_append, n.head_len, size_eq, ibs_len]; have := sumB_take n.lf n.l k; unfold sumB at this ⊢; omega
theorem enter_put16 (vs : Array Value) (w : World) : (callFunc 69 vs).run Tryz.prog w = .ok (.enter 69 vs) w := by kernel_rfl
theorem u8_wrap (m : Nat) (_h : m < 256) : IntKind.u8.wrap (m : Int) = ((UInt8.ofNat m).toNat : Int) := by rw [UInt8.toNat_ofNat', IntKind.wrap_u8]; omega
/-- A node as bytes. -/
theorem written_nd {D : Nat -> Prop} {w : World} {base : Nat} {v : Value} {n : Nd} (h : NdV D w base v n) (hok : n.ok) (hsz : n.size <= 65536) :
  Calls Tryz.prog 67 #[v] w fun e w' => ∃ v', e = .returned v' /\ (∃ g, BytesAt w' v' n.written g /\ w.heap.size <= g) /\ Fr [] w w' := by
 obtain ⟨A, c, cs, rfl, hc, hown, hits, hcell⟩ := h.parts; clear h; obtain ⟨wb, hwb⟩ := nm (w.alloc (.cells #[.int .i64 (kindOf n), .int .i64 (n.first : Int), .slice A n.l.length c] 88)); have hf0 : Fr [] w wb := by rw [hwb]; exact (Fr.refl [] w).alloc _
 have hb : Blk wb w.heap.size 88 [.int .i64 (kindOf n), .int .i64 (n.first : Int), .slice A n.l.length c] := by rw [hwb]; exact Blk.new w _ [.int .i64 (kindOf n), .int .i64 (n.first : Int), .slice A n.l.length c]
 have HZB : Hid (w.heap.size <= wb.heap.size) := lh hf0.size; have HB1 := lh hb; have HF0 := lh hf0; have HC := lh hcell; have HI := lh hits; have HOK := lh hok; have HSZ := lh hsz; have k0 := hb.at_ (i := 0) rfl; have k1 := hb.at_ (i := 1) rfl; have k2 := hb.at_ (i := 2) rfl; have hfew := hok.few; clear hb hf0 hcell hits hown hok hsz; refine calls_post fun R HQ => ?_
 go_enter Tryz.func67, Tryz.ntmps67
 go_upto_region 1 with fail
 rw [<- hwb]; obtain ⟨u, hu⟩ : ∃ u : UInt8, u = if n.lf then 1 else 2 := ⟨_, rfl⟩
 have hku : IntKind.u8.wrap (kindOf n) = (u.toNat : Int) := by rw [hu]; unfold kindOf; cases n.lf <;> decide
 have HU := lh hu; clear hu; refine wp_region_lit ?_
 iterate 3 (refine rn rfl (by go_simp <;> with_reducible rfl) ?_; simp only [nrm])
 obtain ⟨iu, hi, hz', hsz', hby⟩ := info_get info_u8z; refine lp fun K hK => ?_; refine wp_build_cell (.tmp 8) rfl Tryz.underlying23 hi hz' hsz' rfl (.int .u8 (u.toNat : Int)) rfl rfl wb.heap.size rfl fun wy hb5 hf5 hz5 => hK _ _ ?_; simp only [nrm]; clear hK k0 k1 k2 hku hwb; have k2 := (HB1.out.fr hf5 (by simp)).at_ (i := 2) rfl; have HBF : Hid (Buf wy wb.heap.size (.slice (some ⟨wb.heap.size, 0, none⟩) 1 1) [u]) := lh (own_of_blk hb5 rfl (Nat.le_refl _) (by omega)); have HFY := lh hf5; have HP := lh (put16_any HBF.out n.l.length hfew (by simp) (by omega)); clear hb5 hf5 hz5 hi hz' hsz' hby
 iterate 3 (refine rn rfl (by go_simp <;> with_reducible rfl) ?_; simp only [nrm])
 refine lp fun K hK => ?_; refine wp_call_f (l := [.tmp 9, .tmp 12]) rfl [.slice (some ⟨wb.heap.size, 0, none⟩) 1 1, .int .i64 (n.l.length : Int)] rfl (enter_put16 _) (HP.out.mono ?_); rintro e w2 ⟨v2, rfl, hap⟩; refine ⟨_, rfl, hK _ _ ?_⟩; simp only [nrm]; clear hK; refine rn rfl (by go_simp <;> with_reducible rfl) ?_; simp only [nrm]; refine wpList_nil ?_; have HF2 : Hid (Fr [] wb w2) := lh (HFY.out.trans hap.fr (fun q hq => .inr (by have := (HBF.out.lt q (by simpa using hq)).1; omega))); have HBF2 : Hid (Buf w2 wb.heap.size v2 (u :: b16 n.l.length)) := lh hap.buf; clear hap HP HBF HFY k2
 cases hlf : n.lf with
 | true =>
  have hkn : kindOf n = 1 := by unfold kindOf; rw [hlf]; rfl
  have HHD : Hid (n.head = u :: b16 n.l.length) := lh (by unfold Nd.head; rw [HU.out, hlf]; simp); have c0 := (HB1.out.fr HF2.out (by simp)).at_ (i := 0) rfl; have c1 := (HB1.out.fr HF2.out (by simp)).at_ (i := 1) rfl; have c2 := (HB1.out.fr HF2.out (by simp)).at_ (i := 2) rfl; rw [hkn] at c0; go_wp2_with fail; refine (leaf_any w2 1 _ _).mono ?_; rintro e w3 ⟨rfl, hwq⟩; have hf3 : Fr [] w2 w3 := by rw [hwq]; exact (Fr.refl [] w2).alloc _
  have HF3 := lh (HF2.out.trans hf3 (by simp)); have HBF3 : Hid (Buf w3 wb.heap.size v2 (n.head ++ (n.l.take 0).flatMap (ib n.lf))) := lh (by rw [HHD.out]; simpa using HBF2.out.fr hf3 (by simp)); clear hwq c0 c1 c2 hf3; have c1 := (HB1.out.fr HF3.out (by simp)).at_ (i := 1) rfl; have c2 := (HB1.out.fr HF3.out (by simp)).at_ (i := 2) rfl; go_wp2_with fail
  go_loopw [3, 24] (WRel wb n) (fun _ v _ => n.l.length - (intOf v).toNat)
  case atStart => exact ⟨0, Nat.zero_le _, rfl, HBF3.out, HF3.out⟩
  case round =>
   obtain ⟨k, hk, rfl, hbuf, hfr⟩ := hrel; have HBUF := lh hbuf; have HFR := lh hfr; clear hbuf hfr c1 c2
   by_cases hkn2 : k < n.l.length
   ·obtain ⟨x, hx⟩ := gx hkn2; have hxm := List.mem_of_getElem? hx; obtain ⟨kv, vv, av, d0, d1, d2, hic⟩ := HI.out.at_ hx; obtain ⟨g, rfl, hcg⟩ := HC.out (by omega); have hfw := HF0.out.trans HFR.out (by simp); have i0 := fr_keep hfw (hcg _ _ d0); have i1 := fr_keep hfw (hcg _ _ d1); have i2 := fr_keep hfw (hcg _ _ d2); have HIC := lh hic; have HON := lh hic.one; have HXO := lh (HOK.out.item x hxm); have HTK := lh (take_next hx); clear hx hxm hcg hic hfw d0 d1 d2
    go_wp2_with (first
     | (with_reducible refine wpList_alloc_z rfl 77 rfl (.agg #[.slice none 0 0, .slice none 0 0, .int .i64 0]) zit.toArray zero_it rfl ?_)
     | (refine wpList_store_z (W := wr) rfl 77 (.tmp 5) (.tmp 27) rfl [kv, vv, av] rfl rfl rfl size_it rfl HON.out ?_))
    intro w4 hb4 hf4 hz4; obtain ⟨bb, hbb⟩ := nm (n.head ++ (n.l.take k).flatMap (ib n.lf)); have hbl : bb.length <= 65536 := by rw [hbb]; exact Nat.le_trans (part_len n k) HSZ.out
    have HBB := lh hbb; have HS : Hid (WSt wb w4 wb.heap.size u3 bb wr.heap.size [kv, vv, av]) := lh ⟨by rw [hbb]; exact HBUF.out.fr hf4 (by simp), hb4, fun e => by have := own_lt HBUF.out _ e; omega, HFR.out.trans hf4 (by simp), rfl⟩; obtain ⟨⟨gk, hgk, _⟩, ⟨gv, hgv, _⟩, hav⟩ := HIC.out; have HGK := lh hgk; have HGV := lh hgv; obtain ⟨Ak, ck, ok, rfl, _, _⟩ := hgk; obtain ⟨Av, cv, ov, rfl, _, _⟩ := hgv; subst hav; have hkl := HXO.out.k2; have hvl := HXO.out.v; have hwk := u8_wrap x.key.length (by omega); have hwv := u8_wrap x.v.length (by omega); obtain ⟨uk, huk⟩ := nm (UInt8.ofNat x.key.length); obtain ⟨uv, huv⟩ := nm (UInt8.ofNat x.v.length); rw [<- huk] at hwk; rw [<- huv] at hwv; have HUK := lh huk; have HUV := lh huv; clear hb4 hf4 hz4 i0 i1 i2 hbb huk huv; have hwk1 := wi k (by omega)
    have x0 := HS.out.blk.at_ (i := 0) rfl; have x1 := HS.out.blk.at_ (i := 1) rfl; go_upto_region 7 with fail
    refine wp_region_lit ?_
    iterate 6 (refine rn rfl (by go_simp <;> with_reducible rfl) ?_; simp only [nrm])
    obtain ⟨iu, hi, hz', hsz', hby⟩ := info_get info_u8z; refine lp fun K hK => ?_; refine wp_build_cell (.tmp 33) rfl Tryz.underlying23 hi hz' hsz' rfl (.int .u8 (uk.toNat : Int)) rfl rfl w4.heap.size rfl fun wy5 hby5 hfy hzy => hK _ _ ?_; simp only [nrm]; clear hK; refine lp fun K hK => ?_; refine wp_append_buf (.tmp 28) (.tmp 34) rfl rfl (HS.out.buf.fr hfy (by simp)) (by have := HS.out.hH; omega) (BytesAt.of_blk (bs := [uk]) hby5 1 (Nat.le_refl _)) (by first | omega | (simp only [List.length_append, List.length_cons, List.length_nil]; omega)) (by simp) fun v5 w5 hap => hK _ _ ?_; simp only [nrm]; clear hK; refine rn rfl (by go_simp <;> with_reducible rfl) ?_; simp only [nrm]; refine wpList_nil ?_; have HS := lh ((HS.out.frame hfy).app hap); clear hap hby5 hfy hzy x0 x1 hi hz' hsz' hby; have c0 := (HB1.out.fr HS.out.fr (by simp)).at_ (i := 0) rfl; have c1 := (HB1.out.fr HS.out.fr (by simp)).at_ (i := 1) rfl; have c2 := (HB1.out.fr HS.out.fr (by simp)).at_ (i := 2) rfl; rw [hkn] at c0; go_wp2_with fail; refine (leaf_any w5 1 _ _).mono ?_; rintro e w6 ⟨rfl, hwq⟩; have HS := lh (HS.out.frame (show Fr [] w5 w6 by rw [hwq]; exact (Fr.refl [] w5).alloc _)); clear hwq c0 c1 c2; have x0 := HS.out.blk.at_ (i := 0) rfl; have x1 := HS.out.blk.at_ (i := 1) rfl; go_upto_region 9 with fail
    refine wp_region_lit ?_
    iterate 6 (refine rn rfl (by go_simp <;> with_reducible rfl) ?_; simp only [nrm])
    obtain ⟨iu, hi, hz', hsz', hby⟩ := info_get info_u8z; refine lp fun K hK => ?_; refine wp_build_cell (.tmp 43) rfl Tryz.underlying23 hi hz' hsz' rfl (.int .u8 (uv.toNat : Int)) rfl rfl w6.heap.size rfl fun wy7 hby5 hfy hzy => hK _ _ ?_; simp only [nrm]; clear hK; refine lp fun K hK => ?_; refine wp_append_buf (.tmp 38) (.tmp 44) rfl rfl (HS.out.buf.fr hfy (by simp)) (by have := HS.out.hH; omega) (BytesAt.of_blk (bs := [uv]) hby5 1 (Nat.le_refl _)) (by first | omega | (simp only [List.length_append, List.length_cons, List.length_nil]; omega)) (by simp) fun v7 w7 hap => hK _ _ ?_; simp only [nrm]; clear hK; refine rn rfl (by go_simp <;> with_reducible rfl) ?_; simp only [nrm]; refine wpList_nil ?_; have HS := lh ((HS.out.frame hfy).app hap); clear hap hby5 hfy hzy x0 x1 hi hz' hsz' hby; have x0 := HS.out.blk.at_ (i := 0) rfl; have x1 := HS.out.blk.at_ (i := 1) rfl; go_upto_region 10 with fail
    refine wp_region_lit ?_
    iterate 4 (refine rn rfl (by go_simp <;> with_reducible rfl) ?_; simp only [nrm])
    refine lp fun K hK => ?_; refine wp_append_buf (.tmp 46) (.tmp 49) rfl rfl HS.out.buf HS.out.hH (HGK.out.fr (HF0.out.trans HS.out.fr (by simp)) (by simp)) (by first | omega | (simp only [List.length_append, List.length_cons, List.length_nil]; omega)) (by omega) fun v8 w8 hap => hK _ _ ?_; simp only [nrm]; clear hK; refine rn rfl (by go_simp <;> with_reducible rfl) ?_; simp only [nrm]; refine wpList_nil ?_; have HS := lh (HS.out.app hap); clear hap x0 x1; have c0 := (HB1.out.fr HS.out.fr (by simp)).at_ (i := 0) rfl; have c1 := (HB1.out.fr HS.out.fr (by simp)).at_ (i := 1) rfl; have c2 := (HB1.out.fr HS.out.fr (by simp)).at_ (i := 2) rfl; rw [hkn] at c0; go_wp2_with fail; refine (leaf_any w8 1 _ _).mono ?_; rintro e w9 ⟨rfl, hwq⟩; have HS := lh (HS.out.frame (show Fr [] w8 w9 by rw [hwq]; exact (Fr.refl [] w8).alloc _)); clear hwq c0 c1 c2; have x0 := HS.out.blk.at_ (i := 0) rfl; have x1 := HS.out.blk.at_ (i := 1) rfl; go_upto_region 12 with fail
    refine wp_region_lit ?_
    iterate 4 (refine rn rfl (by go_simp <;> with_reducible rfl) ?_; simp only [nrm])
    refine lp fun K hK => ?_; refine wp_append_buf (.tmp 53) (.tmp 56) rfl rfl HS.out.buf HS.out.hH (HGV.out.fr (HF0.out.trans HS.out.fr (by simp)) (by simp)) (by first | omega | (simp only [List.length_append, List.length_cons, List.length_nil]; omega)) (by omega) fun v10 w10 hap => hK _ _ ?_; simp only [nrm]; clear hK; refine rn rfl (by go_simp <;> with_reducible rfl) ?_; simp only [nrm]; refine wpList_nil ?_; have HS := lh (HS.out.app hap); clear hap x0 x1
    have HX : Hid (WRel wb n v10 (.int .i64 ((k : Int) + 1)) w10) := lh ⟨k + 1, hkn2, rfl, by
     have e : n.head ++ (n.l.take (k + 1)).flatMap (ib n.lf) = (((bb ++ [uk]) ++ [uv]) ++ x.key) ++ x.v := by
      rw [HTK.out, List.flatMap_append, <- List.append_assoc, <- HBB.out]
      simp [ib, hlf, HUK.out, HUV.out]
     rw [e]; exact HS.out.buf, HS.out.fr⟩
    clear HS; go_wp2_with fail
    go_roundw
    case rel => exact HX.out
    case measure => simp [intOf]; omega
   ·obtain rfl : k = n.l.length := by omega
    obtain ⟨gb, hgb, hgg⟩ := bytes_of_own (own_base HBUF.out (fun _ _ => Nat.zero_le _)) (fun q hq => (HBUF.out.lt q hq).1)
    have HE : Hid (R (.returned u3) wr) := lh (HQ.out _ _ ⟨_, rfl, ⟨gb, by
     have e : n.head ++ (n.l.take n.l.length).flatMap (ib n.lf) = n.written := by rw [List.take_of_length_le (Nat.le_refl _)]; rfl
     rw [e] at hgb; obtain ⟨_, _, hsh⟩ := HBUF.out.shape; rw [e] at hsh; exact hgb, by have := HZB.out; omega⟩, HF0.out.trans HFR.out (by simp)⟩)
    clear hgb hgg; go_wp2_with fail

    exact HE.out
 | false =>
  have hkn : kindOf n = 2 := by unfold kindOf; rw [hlf]; rfl
  have HHD : Hid (n.head = (u :: b16 n.l.length) ++ b16 n.first) := lh (by unfold Nd.head; rw [HU.out, hlf]; simp); have hfst := HOK.out.first; have c0 := (HB1.out.fr HF2.out (by simp)).at_ (i := 0) rfl; have c1 := (HB1.out.fr HF2.out (by simp)).at_ (i := 1) rfl; have c2 := (HB1.out.fr HF2.out (by simp)).at_ (i := 2) rfl; rw [hkn] at c0; go_wp2_with fail; refine (leaf_any w2 2 _ _).mono ?_; rintro e w3 ⟨rfl, hwq⟩; have hf3 : Fr [] w2 w3 := by rw [hwq]; exact (Fr.refl [] w2).alloc _
  have HF3 := lh (HF2.out.trans hf3 (by simp)); have HBF3 := lh (HBF2.out.fr hf3 (by simp)); clear hwq c0 c1 c2 hf3; have c1 := (HB1.out.fr HF3.out (by simp)).at_ (i := 1) rfl; have HPU := lh (put16_any HBF3.out n.first hfst (by simp [b16]) (by have := HF3.out.size; omega)); go_wp2_with fail; refine HPU.out.mono ?_; rintro e w33 ⟨v3, rfl, hap⟩; have HF33 : Hid (Fr [] wb w33) := lh (hap.fr0 HBF3.out (Nat.le_refl _) HF3.out); have HBF33 : Hid (Buf w33 wb.heap.size v3 (n.head ++ (n.l.take 0).flatMap (ib n.lf))) := lh (by rw [HHD.out]; simpa using hap.buf); clear hap HPU c1 HBF3 HF3; have HF3 := HF33; have HBF3 := HBF33; have c1 := (HB1.out.fr HF3.out (by simp)).at_ (i := 1) rfl; have c2 := (HB1.out.fr HF3.out (by simp)).at_ (i := 2) rfl; go_wp2_with fail
  go_loopw [3, 24] (WRel wb n) (fun _ v _ => n.l.length - (intOf v).toNat)
  case atStart => exact ⟨0, Nat.zero_le _, rfl, HBF3.out, HF3.out⟩
  case round =>
   obtain ⟨k, hk, rfl, hbuf, hfr⟩ := hrel; have HBUF := lh hbuf; have HFR := lh hfr; clear hbuf hfr c1 c2
   by_cases hkn2 : k < n.l.length
   ·obtain ⟨x, hx⟩ := gx hkn2; have hxm := List.mem_of_getElem? hx; obtain ⟨kv, vv, av, d0, d1, d2, hic⟩ := HI.out.at_ hx; obtain ⟨g, rfl, hcg⟩ := HC.out (by omega); have hfw := HF0.out.trans HFR.out (by simp); have i0 := fr_keep hfw (hcg _ _ d0); have i1 := fr_keep hfw (hcg _ _ d1); have i2 := fr_keep hfw (hcg _ _ d2); have HIC := lh hic; have HON := lh hic.one; have HXO := lh (HOK.out.item x hxm); have HTK := lh (take_next hx); clear hx hxm hcg hic hfw d0 d1 d2
    go_wp2_with (first
     | (with_reducible refine wpList_alloc_z rfl 77 rfl (.agg #[.slice none 0 0, .slice none 0 0, .int .i64 0]) zit.toArray zero_it rfl ?_)
     | (refine wpList_store_z (W := wr) rfl 77 (.tmp 5) (.tmp 27) rfl [kv, vv, av] rfl rfl rfl size_it rfl HON.out ?_))
    intro w4 hb4 hf4 hz4; obtain ⟨bb, hbb⟩ := nm (n.head ++ (n.l.take k).flatMap (ib n.lf)); have hbl : bb.length <= 65536 := by rw [hbb]; exact Nat.le_trans (part_len n k) HSZ.out
    have HBB := lh hbb; have HS : Hid (WSt wb w4 wb.heap.size u3 bb wr.heap.size [kv, vv, av]) := lh ⟨by rw [hbb]; exact HBUF.out.fr hf4 (by simp), hb4, fun e => by have := own_lt HBUF.out _ e; omega, HFR.out.trans hf4 (by simp), rfl⟩; obtain ⟨⟨gk, hgk, _⟩, ⟨gv, hgv, _⟩, hav⟩ := HIC.out; have HGK := lh hgk; have HGV := lh hgv; obtain ⟨Ak, ck, ok, rfl, _, _⟩ := hgk; obtain ⟨Av, cv, ov, rfl, _, _⟩ := hgv; subst hav; have hkl := HXO.out.k2; have hvl := HXO.out.v; have hwk := u8_wrap x.key.length (by omega); have hwv := u8_wrap x.v.length (by omega); obtain ⟨uk, huk⟩ := nm (UInt8.ofNat x.key.length); obtain ⟨uv, huv⟩ := nm (UInt8.ofNat x.v.length); rw [<- huk] at hwk; rw [<- huv] at hwv; have HUK := lh huk; have HUV := lh huv; clear hb4 hf4 hz4 i0 i1 i2 hbb huk huv; have hwk1 := wi k (by omega)
    have x0 := HS.out.blk.at_ (i := 0) rfl; have x1 := HS.out.blk.at_ (i := 1) rfl; go_upto_region 7 with fail
    refine wp_region_lit ?_
    iterate 6 (refine rn rfl (by go_simp <;> with_reducible rfl) ?_; simp only [nrm])
    obtain ⟨iu, hi, hz', hsz', hby⟩ := info_get info_u8z; refine lp fun K hK => ?_; refine wp_build_cell (.tmp 33) rfl Tryz.underlying23 hi hz' hsz' rfl (.int .u8 (uk.toNat : Int)) rfl rfl w4.heap.size rfl fun wy5 hby5 hfy hzy => hK _ _ ?_; simp only [nrm]; clear hK; refine lp fun K hK => ?_; refine wp_append_buf (.tmp 28) (.tmp 34) rfl rfl (HS.out.buf.fr hfy (by simp)) (by have := HS.out.hH; omega) (BytesAt.of_blk (bs := [uk]) hby5 1 (Nat.le_refl _)) (by first | omega | (simp only [List.length_append, List.length_cons, List.length_nil]; omega)) (by simp) fun v5 w5 hap => hK _ _ ?_; simp only [nrm]; clear hK; refine rn rfl (by go_simp <;> with_reducible rfl) ?_; simp only [nrm]; refine wpList_nil ?_; have HS := lh ((HS.out.frame hfy).app hap); clear hap hby5 hfy hzy x0 x1 hi hz' hsz' hby; have c0 := (HB1.out.fr HS.out.fr (by simp)).at_ (i := 0) rfl; have c1 := (HB1.out.fr HS.out.fr (by simp)).at_ (i := 1) rfl; have c2 := (HB1.out.fr HS.out.fr (by simp)).at_ (i := 2) rfl; rw [hkn] at c0; go_wp2_with fail; refine (leaf_any w5 2 _ _).mono ?_; rintro e w6 ⟨rfl, hwq⟩; have HS := lh (HS.out.frame (show Fr [] w5 w6 by rw [hwq]; exact (Fr.refl [] w5).alloc _)); clear hwq c0 c1 c2; have x0 := HS.out.blk.at_ (i := 0) rfl; have x1 := HS.out.blk.at_ (i := 1) rfl; go_upto_region 10 with fail
    refine wp_region_lit ?_
    iterate 4 (refine rn rfl (by go_simp <;> with_reducible rfl) ?_; simp only [nrm])
    refine lp fun K hK => ?_; refine wp_append_buf (.tmp 46) (.tmp 49) rfl rfl HS.out.buf HS.out.hH (HGK.out.fr (HF0.out.trans HS.out.fr (by simp)) (by simp)) (by first | omega | (simp only [List.length_append, List.length_cons, List.length_nil]; omega)) (by omega) fun v8 w8 hap => hK _ _ ?_; simp only [nrm]; clear hK; refine rn rfl (by go_simp <;> with_reducible rfl) ?_; simp only [nrm]; refine wpList_nil ?_; have HS := lh (HS.out.app hap); clear hap x0 x1; have c0 := (HB1.out.fr HS.out.fr (by simp)).at_ (i := 0) rfl; have c1 := (HB1.out.fr HS.out.fr (by simp)).at_ (i := 1) rfl; have c2 := (HB1.out.fr HS.out.fr (by simp)).at_ (i := 2) rfl; rw [hkn] at c0; go_wp2_with fail; refine (leaf_any w8 2 _ _).mono ?_; rintro e w9 ⟨rfl, hwq⟩; have HS := lh (HS.out.frame (show Fr [] w8 w9 by rw [hwq]; exact (Fr.refl [] w8).alloc _)); clear hwq c0 c1 c2; have x2 := HS.out.blk.at_ (i := 2) rfl; have HPX := lh (put16_any HS.out.buf x.at_ HXO.out.at_ (by simp only [List.length_append, List.length_cons, List.length_nil]; omega) HS.out.hH); go_wp2_with fail; refine HPX.out.mono ?_; rintro e w10 ⟨v10, rfl, hap⟩; have HS := lh (HS.out.app hap); clear hap x2 HPX
    have HX : Hid (WRel wb n v10 (.int .i64 ((k : Int) + 1)) w10) := lh ⟨k + 1, hkn2, rfl, by
     have e : n.head ++ (n.l.take (k + 1)).flatMap (ib n.lf) = ((bb ++ [uk]) ++ x.key) ++ b16 x.at_ := by
      rw [HTK.out, List.flatMap_append, <- List.append_assoc, <- HBB.out]
      simp [ib, hlf, HUK.out]
     rw [e]; exact HS.out.buf, HS.out.fr⟩
    clear HS; go_wp2_with fail
    go_roundw
    case rel => exact HX.out
    case measure => simp [intOf]; omega
   ·obtain rfl : k = n.l.length := by omega
    obtain ⟨gb, hgb, hgg⟩ := bytes_of_own (own_base HBUF.out (fun _ _ => Nat.zero_le _)) (fun q hq => (HBUF.out.lt q hq).1)
    have HE : Hid (R (.returned u3) wr) := lh (HQ.out _ _ ⟨_, rfl, ⟨gb, by
     have e : n.head ++ (n.l.take n.l.length).flatMap (ib n.lf) = n.written := by rw [List.take_of_length_le (Nat.le_refl _)]; rfl
     rw [e] at hgb; obtain ⟨_, _, hsh⟩ := HBUF.out.shape; rw [e] at hsh; exact hgb, by have := HZB.out; omega⟩, HF0.out.trans HFR.out (by simp)⟩)
    clear hgb hgg; go_wp2_with fail

    exact HE.out
end
end Go.Proofs.YtpjbdpepofnleaaGreat
