/-
  The contract of (*Pager).replay.
-/
import Derived.Test.YtidpleejgalljaaPd
import Derived.Test.YtidpleejgalljaaBitsB
import Derived.Maps.OwnIn
namespace Go.Proofs.Ytidpleejgalljaa
open Go.RowKit Go.Shelf

/-! ### A record, a chunk at a time -/
def atC (b : List UInt8) (k : Nat) : Nat := wordOf ((b.drop (514 * k)).take 2)
def pgC (b : List UInt8) (k : Nat) : List UInt8 := (b.drop (514 * k + 2)).take 512
theorem atC_drop (b : List UInt8) (k : Nat) : atC (b.drop 514) k = atC b (k + 1) := by unfold atC; rw [List.drop_drop, show 514 + 514 * k = 514 * (k + 1) by omega]
theorem pgC_drop (b : List UInt8) (k : Nat) : pgC (b.drop 514) k = pgC b (k + 1) := by unfold pgC; rw [List.drop_drop, show 514 + (514 * k + 2) = 514 * (k + 1) + 2 by omega]
theorem replay_chunks {n : Nat} : ∀ (m : Nat) (b : List UInt8) (h H : PgM), b.length = 514 * m → replayP n m b h = some H →
    (∀ k, k < m → atC b k < n) ∧ H = (List.range m).foldl (fun h k => putP h (atC b k) (pgC b k)) h
  | 0, b, h, H, _, e => ⟨fun k hk => absurd hk (by omega), by injection e with e; exact e.symm⟩
  | m + 1, b, h, H, hl, e => by
    have hb : b ≠ [] := fun h0 => by rw [h0] at hl; simp at hl
    unfold replayP at e
    rw [if_neg hb] at e
    split at e
    · cases e
    · rename_i h1
      obtain ⟨h2, h3⟩ := replay_chunks m (b.drop 514) _ H (by rw [List.length_drop]; omega) e
      have a0 : atC b 0 = wordOf (b.take 2) := by unfold atC; simp
      have p0 : pgC b 0 = (b.drop 2).take 512 := by unfold pgC; simp
      refine ⟨fun k hk => ?_, ?_⟩
      · cases k with
        | zero => rw [a0]; omega
        | succ k => rw [← atC_drop]; exact h2 k (by omega)
      · rw [h3, List.range_succ_eq_map, List.foldl_cons, List.foldl_map, a0, p0]
        simp only [atC_drop, pgC_drop]
/-- What the chunks that have come make of the pages. -/
def laidC {m : Nat} (b : List UInt8) (h : PgM) (pre : List (Fin m)) : PgM := pre.foldl (fun h x => putP h (atC b x.1) (pgC b x.1)) h
theorem laidC_snoc {m : Nat} (b : List UInt8) (h : PgM) (pre : List (Fin m)) (x : Fin m) : laidC b h (pre ++ [x]) = putP (laidC b h pre) (atC b x.1) (pgC b x.1) := by simp [laidC]
theorem laidC_first {m : Nat} (b : List UInt8) (h : PgM) : ∀ k, k ≤ m → laidC b h (firstN m k) = (List.range k).foldl (fun h k => putP h (atC b k) (pgC b k)) h
  | 0, _ => rfl
  | k + 1, hk => by rw [firstN_succ (by omega), laidC_snoc, laidC_first b h k (by omega), List.range_succ, List.foldl_append]; rfl
theorem laidC_all {m : Nat} (b : List UInt8) (h : PgM) : laidC b h (List.finRange m) = (List.range m).foldl (fun h k => putP h (atC b k) (pgC b k)) h := by
  rw [← laidC_first b h m (Nat.le_refl _)]
  unfold firstN
  rw [List.take_of_length_le (by simp)]
theorem laidC_ok {n m : Nat} {b : List UInt8} {h : PgM} (hl : b.length = 514 * m) (hn : ∀ k, k < m → atC b k < n) (hh : PgOk n h) (pre : List (Fin m)) : PgOk n (laidC b h pre) := by
  unfold laidC
  induction pre generalizing h with
  | nil => exact hh
  | cons x pre ih =>
    rw [List.foldl_cons]
    exact ih (hh.put (hn x.1 x.2) (by have := x.2; unfold pgC; rw [List.length_take, List.length_drop]; omega))

attribute [local go_sem] Oper.semAt_some
def RyRes (w : World) (g d lg bl bh : Nat) (s : PS) (fp : List Nat) (H : PgM) (e : Ending) (w' : World) : Prop :=
  e = .returned (.int .i64 0) ∧ PStep w w' g d lg bl bh { s with held := H } fp
set_option maxRecDepth 100000 in
set_option maxHeartbeats 4000000 in
theorem replay_P {w : World} {g d lg bl bh gb : Nat} {s : PS} {fp : List Nat} {v : Value} {b : List UInt8} {H : PgM} (h : PgrAt w g d lg bl bh s fp) (hv : BytesAt w v b gb) (hgb : gb ≠ bh) (hbl : b.length ≤ 4194304) (ht : takeP s.n b s.held = some H) :
    Calls Try.prog 27 #[.pointer (some ⟨g, 0, none⟩), v] w (RyRes w g d lg bl bh s fp H) := by
  obtain ⟨m, hm⟩ : ∃ m, b.length = 514 * m := ⟨b.length / 514, by
    unfold takeP at ht
    split at ht
    · cases ht
    · omega⟩
  have hrep : replayP s.n m b s.held = some H := by
    unfold takeP at ht
    rw [if_neg (by omega), hm, Nat.mul_div_cancel_left _ (by omega)] at ht
    exact ht
  obtain ⟨hat, hH⟩ := replay_chunks m b _ _ hm hrep
  rw [← laidC_all (m := m)] at hH
  obtain ⟨A, c, off, rfl, hc, hcell⟩ := hv
  rw [hm] at hc ⊢
  have HA := Lib.hid h; have HAT := Lib.hid hat; have HH := Lib.hid hH; have HCE := Lib.hid hcell
  clear h hat hH hcell ht hrep
  refine (callsIn_wide (n := 5)).1 ?_
  refine callsIn_of_wp_marks Try.func27 rfl trivial ?_ rfl
  simp only [Try.ntmps27, List.size_toArray, List.length_cons, List.length_nil, Nat.reduceAdd, Nat.reduceSub, Array.replicate_succ, Array.replicate_zero, List.push_toArray, List.append_toArray, List.nil_append, List.cons_append]
  gi_wp2_with (refine ⟨trivial, ?_⟩; gi_at_call 39; refine (callsIn_wide.2 (chunk_any A (514 * m) c _)).mono ?_; rintro e w' ⟨rfl, rfl⟩)
  obtain ⟨wl, hwl⟩ : ∃ wl, wl = (((w.alloc (.cells #[.pointer (some ⟨g, 0, none⟩)] 30)).alloc (.cells #[.int .i64 0] 27)).alloc (.cells #[.slice A (514 * m) c] 35)).alloc (.cells #[.int .i64 514] 3) := ⟨_, rfl⟩
  have cP : Boxed wl w.heap.size 30 (.pointer (some ⟨g, 0, none⟩)) := by rw [hwl]; exact (((Boxed.new w _ _).alloc _).alloc _).alloc _
  have cE : Boxed wl (w.heap.size + 1) 27 (.int .i64 0) := by rw [hwl]; have := (((Boxed.new (w.alloc (.cells #[.pointer (some ⟨g, 0, none⟩)] 30)) 27 (.int .i64 0)).alloc (.cells #[.slice A (514 * m) c] 35)).alloc (.cells #[.int .i64 514] 3)); rwa [World.size_alloc] at this
  have cB : Boxed wl (w.heap.size + 1 + 1) 35 (.slice A (514 * m) c) := by rw [hwl]; have := ((Boxed.new ((w.alloc (.cells #[.pointer (some ⟨g, 0, none⟩)] 30)).alloc (.cells #[.int .i64 0] 27)) 35 (.slice A (514 * m) c)).alloc (.cells #[.int .i64 514] 3)); rwa [World.size_alloc, World.size_alloc] at this
  have cN : Boxed wl (w.heap.size + 1 + 1 + 1) 3 (.int .i64 514) := by rw [hwl]; have := (Boxed.new (((w.alloc (.cells #[.pointer (some ⟨g, 0, none⟩)] 30)).alloc (.cells #[.int .i64 0] 27)).alloc (.cells #[.slice A (514 * m) c] 35)) 3 (.int .i64 514)); rwa [World.size_alloc, World.size_alloc, World.size_alloc] at this
  have hfl : Fr [] w wl := by rw [hwl]; exact ((((Fr.refl [] w).alloc _).alloc _).alloc _).alloc _
  have hzl : wl.heap.size = w.heap.size + 1 + 1 + 1 + 1 := by rw [hwl]; simp
  rw [← hwl]
  clear hwl
  have HFL := Lib.hid hfl; have HP := Lib.hid cP; have HE := Lib.hid cE; have HB := Lib.hid cB; have HN := Lib.hid cN
  have HAL := Lib.hid (HA.out.fr hfl (by simp))
  have hbhl : bh < w.heap.size := HA.out.held.lt
  have hm0 : MapAt wl bh s.held := HAL.out.held
  clear hfl cP cE
  refine wpIn_rangeFunc_ownG (F := Fence.wide) (n := 5) rfl (by omega) (gf := 48) (lb := #[.pointer (some ⟨w.heap.size + 1 + 1, 0, none⟩), .pointer (some ⟨w.heap.size + 1 + 1 + 1, 0, none⟩)]) rfl trivial (enters_of Try.func48 (by kernel_rfl) rfl)
    (chunk_stops 4 (w.heap.size + 1 + 1) (w.heap.size + 1 + 1 + 1) gb off m c A (fun h => (HCE.out (by omega)).1) hc (by omega) (by omega) wl cB.cell cN.cell) KeepsTwo.trans ?kb (Below.refl _ _) (fun _ => rfl)
    (fun pre W => MapAt W bh (laidC b s.held pre) ∧ Fr [bh] wl W) (fun _ _ _ => False) ?oi (fun _ _ _ _ _ hs _ _ => hs) ⟨hm0, Fr.refl _ _⟩
    (fun x => { tmps := #[.pointer (some ⟨g, 0, none⟩), .slice A (514 * m) c, .pointer (some ⟨w.heap.size, 0, none⟩), undef, .pointer (some ⟨w.heap.size + 1, 0, none⟩), chV gb off x.1, undef, .slice A (514 * m) c, .int .i64 (514 * (m : Int)), .int .i64 0, .bool false, .slice A (514 * m) c,
      .func (.func 48) #[] #[.pointer (some ⟨w.heap.size + 1 + 1, 0, none⟩), .pointer (some ⟨w.heap.size + 1 + 1 + 1, 0, none⟩)], chV gb off x.1, undef, undef, undef, undef, undef, undef, undef, undef, undef, undef, undef, undef, undef, undef, undef, undef, undef, undef, undef, undef, undef, undef, undef, undef, undef], defers := [] }) ?assign ?body ?done ?stop
  case kb =>
    intro W l o o' hl ho _ _
    have h1 : ∀ b, b < wl.heap.size → (W.putObj l o').cell? ⟨b, 0, none⟩ = W.cell? ⟨b, 0, none⟩ := fun b hb => by
      unfold World.cell?
      rw [World.putObj_heap_other (show b ≠ l by omega)]
    exact ⟨h1 _ (by omega), h1 _ (by omega)⟩
  case oi =>
    intro s' W W' row hs hg hr
    have hf : Fr row.toList W W' := (Fr.refl row.toList W).grown hg (fun r e => .inl (by simp [e]))
    refine ⟨hs.1.fr hf (fun hm => ?_), hs.2.grown hg (fun r e => .inr (hr r e).1)⟩
    have := (hr bh (by simpa using hm)).1
    omega
  case assign =>
    intro l x W K hK
    gi_wp2
    exact hK
  case stop =>
    rintro D c pre W _ _ h _
    exact h.elim
  case done =>
    rintro D ys W hD rfl ⟨hm', hf⟩ hK
    have hE : Boxed W (w.heap.size + 1) 27 (.int .i64 0) := (hf.block _ (by omega) (by simp only [List.mem_singleton]; omega)).trans HE.out
    have ce := hE.cell
    have fe := hE.frozen
    have HM := Lib.hid hm'; have HF := Lib.hid hf
    clear hm' hf
    gi_wp2
    have hK' := (KeepsOthers.setCell W ⟨w.heap.size + 1, 0, none⟩ (.int .i64 0)).same D _ hK rfl
    refine ⟨by simp, .inl ⟨_, _, rfl, run_takeDeferred hK', ?_⟩⟩
    have hc5 := cell_kept (World.cell?_setCell_same' W ⟨w.heap.size + 1, 0, none⟩ (.int .i64 0) (by rw [ce]; rfl)) (grownBy_putObj' _ D (.deferred none)) (fun r e => by cases e; exact ⟨_, hK', rfl⟩)
    have hpl := HA.out.lt
    have hAW := HAL.out.held_ HM.out HF.out (laidC_ok hm HAT.out HAL.out.hok _)
    have hs1 : Fr [w.heap.size + 1] W (W.setCell ⟨w.heap.size + 1, 0, none⟩ (.int .i64 0)) := (Fr.refl _ _).setCell (.inl (by simp)) _
    have hs2 : Fr [D] (W.setCell ⟨w.heap.size + 1, 0, none⟩ (.int .i64 0)) ((W.setCell ⟨w.heap.size + 1, 0, none⟩ (.int .i64 0)).putObj D (.deferred none)) := (Fr.refl [D] _).grown (grownBy_putObj' _ D _) (fun r e => by cases e; exact .inl (by simp))
    have hA5 := (hAW.fr hs1 (fun k hk hm => by have := hpl k hk; simp only [List.mem_singleton] at hm; omega)).fr hs2 (fun k hk hm => by have := hpl k hk; simp only [List.mem_singleton] at hm; omega)
    have hf5 : Fr (pfp g lg bl bh fp) w ((W.setCell ⟨w.heap.size + 1, 0, none⟩ (.int .i64 0)).putObj D (.deferred none)) :=
      (((HFL.out.mono (T := pfp g lg bl bh fp) (by simp)).trans HF.out (fun x hx => .inl (by simp only [List.mem_singleton] at hx; simp [pfp, hx]))).trans hs1 (fun x hx => .inr (by simp only [List.mem_singleton] at hx; omega))).trans hs2 (fun x hx => .inr (by simp only [List.mem_singleton] at hx; omega))
    refine ⟨.int .i64 0, ?_, rfl, fp, by rw [HH.out]; exact hA5, hf5, fun _ hk => .inl hk⟩
    simp [results, Try.f27, go_sem, hc5]
  case body =>
    rintro l pre x W ⟨hm', hf⟩ hlt
    unfold chV
    have hxm := x.2
    obtain ⟨hA0, hcb⟩ := HCE.out (by omega)
    have hgl : gb < w.heap.size := by
      obtain ⟨u, hu⟩ : ∃ u, (bcells b)[0]? = some u := ⟨_, List.getElem?_eq_getElem (by rw [bcells_len]; omega)⟩
      exact World.block_lt_of_cell? w _ (hcb 0 u hu)
    have hfw : Fr [bh] w W := (HFL.out.mono (T := [bh]) (by simp)).trans hf (fun x hx => .inl hx)
    have hcW : ∀ (j : Nat) (u : Value), (bcells b)[j]? = some u → W.cell? ⟨gb, off + j, none⟩ = some u := fun j u hu => by
      rw [hfw.cell (by exact hgl) (by simpa using hgb)]
      exact hcb j u hu
    obtain ⟨u, hu⟩ : ∃ u, b[514 * x.1]? = some u := ⟨_, List.getElem?_eq_getElem (by omega)⟩
    obtain ⟨v, hv⟩ : ∃ v, b[514 * x.1 + 1]? = some v := ⟨_, List.getElem?_eq_getElem (by omega)⟩
    have cu : W.cell? ⟨gb, off + 514 * x.1, none⟩ = some (.int .u8 (u.toNat : Int)) := hcW _ _ (by simp [bcells, hu, B8])
    have cv : W.cell? ⟨gb, off + 514 * x.1 + 1, none⟩ = some (.int .u8 (v.toNat : Int)) := by
      have := hcW (514 * x.1 + 1) _ (by simp only [bcells, List.getElem?_map, hv]; rfl)
      rw [← Nat.add_assoc] at this
      exact this
    have hatx : atC b x.1 = u.toNat * 256 + v.toNat := by
      unfold atC
      have e : (b.drop (514 * x.1)).take 2 = [u, v] := by
        obtain ⟨h1, h2⟩ := List.getElem?_eq_some_iff.1 hu
        obtain ⟨h3, h4⟩ := List.getElem?_eq_some_iff.1 hv
        rw [List.drop_eq_getElem_cons h1, List.take_succ_cons, List.drop_eq_getElem_cons h3, List.take_succ_cons, List.take_zero, h2, h4]
      rw [e]
      simp [wordOf]
    have hub : u.toNat < 256 := u.toNat_lt
    have hvb : v.toNat < 256 := v.toNat_lt
    have hor := or_i64 u.toNat v.toNat hub hvb
    rw [← hatx] at hor
    have hln := HAT.out x.1 hxm
    have hWP : PgrAt W g d lg bl bh { s with held := laidC b s.held pre } fp := HAL.out.held_ hm' hf (laidC_ok hm HAT.out HAL.out.hok _)
    have HOR := Lib.hid hor; have HM := Lib.hid hm'; have HF := Lib.hid hf; have HCW := Lib.hid hcW; have HWP := Lib.hid hWP; have HFW := Lib.hid hfw
    have hP : Boxed W w.heap.size 30 (.pointer (some ⟨g, 0, none⟩)) := (hf.block _ (by omega) (by simp only [List.mem_singleton]; omega)).trans HP.out
    have cP := hP.cell
    have c2 := hWP.blk.at_ (i := 2) rfl
    have c5 := hWP.blk.at_ (i := 5) rfl
    have hwz := hf.size
    clear hor hm' hf hcW hWP hfw hP hu hv hatx hcb hA0
    gi_wp2
    refine wpIn_region_KR (fun W => W.cell? ⟨gb, off + 514 * x.1, none⟩ = some (.int .u8 (u.toNat : Int)) ∧ W.cell? ⟨gb, off + 514 * x.1 + 1, none⟩ = some (.int .u8 (v.toNat : Int))) [0, 1, 2, 3, 4, 5, 6, 7, 8, 9] (by kernel_rfl) (by kernel_rfl) (fun _ _ h => h) ?_
    refine wpAnyK_take (i := 0) (some 14) ?vq1_0 rfl rfl (by kernel_rfl) (fun _ _ _ h => h) ⟨cu, cv⟩ (.inl ⟨rfl, fun W hW => ?yq1_0⟩) ?_
    case yq1_0 => (obtain ⟨c1', c2'⟩ := hW; go_simp) <;> with_reducible rfl
    simp only [Act.put, List.setIfInBounds_toArray, List.set_cons_zero, List.set_cons_succ]
    refine wpAnyK_take (i := 1) (some 15) ?vq1_1 rfl rfl (by kernel_rfl) (fun _ _ _ h => h) ⟨cu, cv⟩ (.inl ⟨rfl, fun W hW => ?yq1_1⟩) ?_
    case yq1_1 => (obtain ⟨c1', c2'⟩ := hW; go_simp) <;> with_reducible rfl
    simp only [Act.put, List.setIfInBounds_toArray, List.set_cons_zero, List.set_cons_succ]
    refine wpAnyK_take (i := 2) (some 16) ?vq1_2 rfl rfl (by kernel_rfl) (fun _ _ _ h => h) ⟨cu, cv⟩ (.inl ⟨rfl, fun W hW => ?yq1_2⟩) ?_
    case yq1_2 => (obtain ⟨c1', c2'⟩ := hW; go_simp) <;> with_reducible rfl
    simp only [Act.put, List.setIfInBounds_toArray, List.set_cons_zero, List.set_cons_succ]
    refine wpAnyK_take (i := 3) (some 17) ?vq1_3 rfl rfl (by kernel_rfl) (fun _ _ _ h => h) ⟨cu, cv⟩ (.inl ⟨rfl, fun W hW => ?yq1_3⟩) ?_
    case yq1_3 => (obtain ⟨c1', c2'⟩ := hW; go_simp) <;> with_reducible rfl
    simp only [Act.put, List.setIfInBounds_toArray, List.set_cons_zero, List.set_cons_succ]
    refine wpAnyK_take (i := 4) (some 18) ?vq1_4 rfl rfl (by kernel_rfl) (fun _ _ _ h => h) ⟨cu, cv⟩ (.inl ⟨rfl, fun W hW => ?yq1_4⟩) ?_
    case yq1_4 => (obtain ⟨c1', c2'⟩ := hW; go_simp) <;> with_reducible rfl
    simp only [Act.put, List.setIfInBounds_toArray, List.set_cons_zero, List.set_cons_succ]
    refine wpAnyK_take (i := 5) (some 19) ?vq1_5 rfl rfl (by kernel_rfl) (fun _ _ _ h => h) ⟨cu, cv⟩ (.inl ⟨rfl, fun W hW => ?yq1_5⟩) ?_
    case yq1_5 => (obtain ⟨c1', c2'⟩ := hW; go_simp) <;> with_reducible rfl
    simp only [Act.put, List.setIfInBounds_toArray, List.set_cons_zero, List.set_cons_succ]
    refine wpAnyK_take (i := 6) (some 20) ?vq1_6 rfl rfl (by kernel_rfl) (fun _ _ _ h => h) ⟨cu, cv⟩ (.inl ⟨rfl, fun W hW => ?yq1_6⟩) ?_
    case yq1_6 => (obtain ⟨c1', c2'⟩ := hW; go_simp) <;> with_reducible rfl
    simp only [Act.put, List.setIfInBounds_toArray, List.set_cons_zero, List.set_cons_succ]
    refine wpAnyK_take (i := 7) (some 21) ?vq1_7 rfl rfl (by kernel_rfl) (fun _ _ _ h => h) ⟨cu, cv⟩ (.inl ⟨rfl, fun W hW => ?yq1_7⟩) ?_
    case yq1_7 => (obtain ⟨c1', c2'⟩ := hW; go_simp) <;> with_reducible rfl
    simp only [Act.put, List.setIfInBounds_toArray, List.set_cons_zero, List.set_cons_succ]
    refine wpAnyK_take (i := 8) (some 22) ?vq1_8 rfl rfl (by kernel_rfl) (fun _ _ _ h => h) ⟨cu, cv⟩ (.inl ⟨rfl, fun W hW => ?yq1_8⟩) ?_
    case yq1_8 => (obtain ⟨c1', c2'⟩ := hW; go_simp) <;> with_reducible rfl
    simp only [Act.put, List.setIfInBounds_toArray, List.set_cons_zero, List.set_cons_succ]
    refine wpAnyK_take (i := 9) (some 23) ?vq1_9 rfl rfl (by kernel_rfl) (fun _ _ _ h => h) ⟨cu, cv⟩ (.inl ⟨rfl, fun W hW => ?yq1_9⟩) ?_
    case yq1_9 => (obtain ⟨c1', c2'⟩ := hW; go_simp) <;> with_reducible rfl
    simp only [Act.put, List.setIfInBounds_toArray, List.set_cons_zero, List.set_cons_succ]
    refine wpAnyK_step (j := 10) (some 6) rfl rfl (by kernel_rfl) rfl fun K hK => ?_
    refine wp_run_same (v := ?aq1_10) ?yq1_10 (hK _ _ (fun h => absurd h (by decide +kernel)) ?_)
    case yq1_10 => go_simp <;> with_reducible rfl
    simp only [Act.put, List.setIfInBounds_toArray, List.set_cons_zero, List.set_cons_succ]
    refine wpAnyK_done (by kernel_rfl) ?_ _
    have y1 : IntKind.i64.wrap (u.toNat : Int) = (u.toNat : Int) := by rw [IntKind.wrap_i64]; omega
    have y2 : IntKind.i64.wrap ((u.toNat : Int) * 256) = (u.toNat : Int) * 256 := by rw [IntKind.wrap_i64]; omega
    have y3 : IntKind.i64.wrap (v.toNat : Int) = (v.toNat : Int) := by rw [IntKind.wrap_i64]; omega
    rw [y1, y2, y3, HOR.out]
    have hdr : Fr [] W W.drew := (Fr.refl [] W).drew
    have cP' : W.drew.cell? ⟨w.heap.size, 0, none⟩ = some (.pointer (some ⟨g, 0, none⟩)) := cP
    have c2' : W.drew.cell? ⟨g, 2, none⟩ = some (.int .i64 (s.n : Int)) := c2
    have c5' : W.drew.cell? ⟨g, 5, none⟩ = some (.map (some bh)) := c5
    have hcW' : ∀ (j : Nat) (u : Value), (bcells b)[j]? = some u → W.drew.cell? ⟨gb, off + j, none⟩ = some u := HCW.out
    have HCW' := Lib.hid hcW'
    have hge : ¬((s.n : Int) ≤ ((atC b x.1 : Nat) : Int)) := by omega
    obtain ⟨k, hk⟩ : ∃ k, k = atC b x.1 := ⟨_, rfl⟩
    rw [← hk] at hge hln ⊢
    have HK := Lib.hid hk
    have hWPd := HWP.out.fr hdr (by simp)
    have HWPd := Lib.hid hWPd
    clear hcW' y1 y2 y3 HOR cP c2 c5 cu cv hk hWPd
    obtain ⟨Wd, hWd⟩ : ∃ Wd, Wd = W.drew := ⟨_, rfl⟩
    rw [← hWd] at hdr cP' c2' c5' HCW' HWPd ⊢
    clear hWd
    have hsl := slice_run_from Try.underlying35 size_u8 (some ⟨gb, off + 514 * x.1, none⟩) 514 514 2 .i64 (by omega)
    rw [if_neg (by omega)] at hsl
    simp only [Option.map_some, Addr.add_mid, Nat.reduceSub] at hsl
    have hsl2 : ∀ W, (Instr.sliceAt 35 (.slice (some ⟨gb, off + 514 * x.1, none⟩) 514 514) (some (.int .i64 2)) none none).run Try.prog W = .ok (.slice (some ⟨gb, off + 514 * x.1 + 2, none⟩) 512 512) W := hsl
    have hap : ∀ W, (Instr.arrayAt 66 (.slice (some ⟨gb, off + 514 * x.1 + 2, none⟩) 512 512)).run Try.prog W = .ok (.pointer (some ⟨gb, off + 514 * x.1 + 2, none⟩)) W := fun W => run_arrayAt (P := Try.prog) W _ _ _ _ _ _ Try.underlying66 (Nat.le_refl _)
    have hpl : (pgC b x.1).length = 512 := by unfold pgC; rw [List.length_take, List.length_drop]; omega
    have hcp : ∀ W : World, (∀ (j : Nat) (u : Value), (bcells b)[j]? = some u → W.cell? ⟨gb, off + j, none⟩ = some u) → W.rangeAt gb (off + 514 * x.1 + 2) (bcells (pgC b x.1)) := fun W hW j u hu => by
      unfold pgC at hu
      rw [bcells_take, bcells_drop, List.getElem?_take] at hu
      split at hu
      · rw [List.getElem?_drop] at hu
        have := hW _ _ hu
        rw [show off + 514 * x.1 + 2 + j = off + (514 * x.1 + 2 + j) by omega]
        exact this
      · cases hu
    have HCP := Lib.hid hcp; have HPL := Lib.hid hpl
    clear hsl hcp hpl
    gi_wp2
    refine wpIn_region_KR (fun W => W.cell? ⟨w.heap.size, 0, none⟩ = some (.pointer (some ⟨g, 0, none⟩)) ∧ W.cell? ⟨g, 5, none⟩ = some (.map (some bh)) ∧ ∀ (j : Nat) (u : Value), (bcells b)[j]? = some u → W.cell? ⟨gb, off + j, none⟩ = some u) [0, 1, 2, 3, 4, 5, 6, 7, 8] (by kernel_rfl) (by kernel_rfl) (fun _ _ h => h) ?_
    refine wpAnyK_take (i := 0) (some 30) ?vq2_0 rfl rfl (by kernel_rfl) (fun _ _ _ h => h) ⟨cP', c5', HCW'.out⟩ (.inl ⟨rfl, fun W hW => ?yq2_0⟩) ?_
    case yq2_0 => (obtain ⟨c1', c2', c3'⟩ := hW; go_simp) <;> with_reducible rfl
    simp only [Act.put, List.setIfInBounds_toArray, List.set_cons_zero, List.set_cons_succ]
    refine wpAnyK_take (i := 1) (some 31) ?vq2_1 rfl rfl (by kernel_rfl) (fun _ _ _ h => h) ⟨cP', c5', HCW'.out⟩ (.inl ⟨rfl, fun W hW => ?yq2_1⟩) ?_
    case yq2_1 => (obtain ⟨c1', c2', c3'⟩ := hW; go_simp) <;> with_reducible rfl
    simp only [Act.put, List.setIfInBounds_toArray, List.set_cons_zero, List.set_cons_succ]
    refine wpAnyK_take (i := 2) (some 32) ?vq2_2 rfl rfl (by kernel_rfl) (fun _ _ _ h => h) ⟨cP', c5', HCW'.out⟩ (.inl ⟨rfl, fun W hW => ?yq2_2⟩) ?_
    case yq2_2 => (obtain ⟨c1', c2', c3'⟩ := hW; go_simp) <;> with_reducible rfl
    simp only [Act.put, List.setIfInBounds_toArray, List.set_cons_zero, List.set_cons_succ]
    refine wpAnyK_take (i := 3) (some 33) ?vq2_3 rfl rfl (by kernel_rfl) (fun _ _ _ h => h) ⟨cP', c5', HCW'.out⟩ (.inl ⟨rfl, fun W hW => ?yq2_3⟩) ?_
    case yq2_3 => (obtain ⟨c1', c2', c3'⟩ := hW; go_simp) <;> with_reducible rfl
    simp only [Act.put, List.setIfInBounds_toArray, List.set_cons_zero, List.set_cons_succ]
    refine wpAnyK_take (i := 4) (some 34) ?vq2_4 rfl rfl (by kernel_rfl) (fun _ _ _ h => h) ⟨cP', c5', HCW'.out⟩ (.inl ⟨rfl, fun W hW => ?yq2_4⟩) ?_
    case yq2_4 => (obtain ⟨c1', c2', c3'⟩ := hW; go_simp) <;> with_reducible rfl
    simp only [Act.put, List.setIfInBounds_toArray, List.set_cons_zero, List.set_cons_succ]
    refine wpAnyK_take (i := 5) (some 35) ?vq2_5 rfl rfl (by kernel_rfl) (fun _ _ _ h => h) ⟨cP', c5', HCW'.out⟩ (.inl ⟨rfl, fun W hW => ?yq2_5⟩) ?_
    case yq2_5 => (obtain ⟨c1', c2', c3'⟩ := hW; go_simp) <;> with_reducible rfl
    simp only [Act.put, List.setIfInBounds_toArray, List.set_cons_zero, List.set_cons_succ]
    refine wpAnyK_take (i := 6) (some 36) (.slice (some ⟨gb, off + 514 * x.1 + 2, none⟩) 512 512) rfl rfl (by kernel_rfl) (fun _ _ _ h => h) ⟨cP', c5', HCW'.out⟩ (.inl ⟨rfl, fun W _ => exec_slice rfl rfl rfl rfl (hsl2 W)⟩) ?_
    simp only [Act.put, List.setIfInBounds_toArray, List.set_cons_zero, List.set_cons_succ]
    refine wpAnyK_take (i := 7) (some 37) (.pointer (some ⟨gb, off + 514 * x.1 + 2, none⟩)) rfl rfl (by kernel_rfl) (fun _ _ _ h => h) ⟨cP', c5', HCW'.out⟩ (.inl ⟨rfl, fun W _ => by simp [execOp, Act.eval, hap, Result.andThen]⟩) ?_
    simp only [Act.put, List.setIfInBounds_toArray, List.set_cons_zero, List.set_cons_succ]
    refine wpAnyK_take (i := 8) (some 38) (.agg (bcells (pgC b x.1)).toArray) rfl rfl (by kernel_rfl) (fun _ _ _ h => h) ⟨cP', c5', HCW'.out⟩ (yieldsIf_load_mid rfl 66 (.tmp 37) rfl gb (off + 514 * x.1 + 2) rfl (bcells (pgC b x.1)) _ (fun W hW => HCP.out W hW.2.2) Try.underlying66 rfl (by rw [bcells_len, HPL.out]; exact size_pg)) ?_
    simp only [Act.put, List.setIfInBounds_toArray, List.set_cons_zero, List.set_cons_succ]
    refine wpAnyK_step (j := 9) none rfl rfl (by kernel_rfl) rfl fun K hK => ?_
    have hd2 : Fr [] Wd Wd.drew := (Fr.refl [] Wd).drew
    have hkl : (laidC b s.held pre).length < 9223372036854775807 := by have := HWPd.out.hok.few; have := HWPd.out.few; simp only at *; omega
    have hk4 : k ≤ 9223372036854775807 := by have := HWPd.out.few; simp only at *; omega
    obtain ⟨w9, hr, hm9, hf9, _⟩ := (HWPd.out.held.fr hd2 (by simp)).store hk4 hkl HPL.out
    unfold pageV at hr
    refine wp_run_skip (w' := w9) (by simp [execOp, Act.eval, hr, Result.andThen]) (hK _ _ (fun h => absurd h (by decide +kernel)) ?_)
    simp only [Act.put]
    refine wpAnyK_done (by kernel_rfl) ?_ _
    have hWf : Fr [bh] W w9 := ((hdr.mono (T := [bh]) (by simp)).trans (hd2.mono (T := [bh]) (by simp)) (fun x hx => .inl hx)).trans hf9 (fun x hx => .inl hx)
    have hX : ownPostG wl.heap.size (KeepsTwo (w.heap.size + 1 + 1) (w.heap.size + 1 + 1 + 1)) (fun pre W => MapAt W bh (laidC b s.held pre) ∧ Fr [bh] wl W) (fun _ _ _ => False) (pre ++ [x]) W .normal { tmps := #[], defers := [] } w9 :=
      ⟨⟨hWf.size, fun q o hB hq _ => (hWf.block q (Array.getElem?_eq_some_iff.1 hq).1 (by simp only [List.mem_singleton]; omega)).trans hq⟩,
        ⟨hWf.cell (p := ⟨w.heap.size + 1 + 1, 0, none⟩) (show w.heap.size + 1 + 1 < W.heap.size by omega) (by simp only [List.mem_singleton]; omega), hWf.cell (p := ⟨w.heap.size + 1 + 1 + 1, 0, none⟩) (show w.heap.size + 1 + 1 + 1 < W.heap.size by omega) (by simp only [List.mem_singleton]; omega)⟩,
        by rw [laidC_snoc, ← HK.out]; exact hm9, HF.out.trans hWf (fun x hx => .inl hx)⟩
    clear hK hr hm9 hf9
    gi_wp2
    exact hX

end Go.Proofs.Ytidpleejgalljaa
