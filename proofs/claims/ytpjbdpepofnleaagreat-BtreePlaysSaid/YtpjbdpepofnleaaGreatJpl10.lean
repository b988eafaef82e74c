/-
  Joined by join.py: Pe Pf Pg Na
-/
import Derived.Maps.OwnIn
import Derived.Lib.SlBytesConst
import Derived.Lib.Bytealg
import Derived.Test.YtpjbdpepofnleaaGreatJpl9
set_option maxRecDepth 100000
set_option maxHeartbeats 32000000
namespace Go.Proofs.YtpjbdpepofnleaaGreat
section
open Go.RowKit Go.Shelf
def atC (b : List UInt8) (k : Nat) : Nat := wordOf ((b.drop (514 * k)).take 2)
def pgC (b : List UInt8) (k : Nat) : List UInt8 := (b.drop (514 * k + 2)).take 512
theorem atC_drop (b : List UInt8) (k : Nat) : atC (b.drop 514) k = atC b (k + 1) := by unfold atC; rw [List.drop_drop, show 514 + 514 * k = 514 * (k + 1) by omega]
theorem pgC_drop (b : List UInt8) (k : Nat) : pgC (b.drop 514) k = pgC b (k + 1) := by unfold pgC; rw [List.drop_drop, show 514 + (514 * k + 2) = 514 * (k + 1) + 2 by omega]
theorem replay_chunks {n : Nat} : ∀ (m : Nat) (b : List UInt8) (h H : PgM), b.length = 514 * m -> replayP n m b h = some H ->
  (∀ k, k < m -> atC b k < n) /\ H = (List.range m).foldl (fun h k => putP h (atC b k) (pgC b k)) h
 | 0, b, h, H, _, e => ⟨fun k hk => absurd hk (by omega), by injection e with e; exact e.symm⟩
 | m + 1, b, h, H, hl, e => by
  have hb : b ≠ [] := fun h0 => by rw [h0] at hl; simp at hl
  unfold replayP at e; rw [if_neg hb] at e
  split at e
  ·cases e
  ·rename_i h1
   obtain ⟨h2, h3⟩ := replay_chunks m (b.drop 514) _ H (by rw [List.length_drop]; omega) e; have a0 : atC b 0 = wordOf (b.take 2) := by unfold atC; simp
   have p0 : pgC b 0 = (b.drop 2).take 512 := by unfold pgC; simp
   refine ⟨fun k hk => ?_, ?_⟩
   ·cases k with
    | zero => rw [a0]; omega
    | succ k => rw [<- atC_drop]; exact h2 k (by omega)
   ·rw [h3, List.range_succ_eq_map, List.foldl_cons, List.foldl_map, a0, p0]; simp only [atC_drop, pgC_drop]
def laidC {m : Nat} (b : List UInt8) (h : PgM) (pre : List (Fin m)) : PgM := pre.foldl (fun h x => putP h (atC b x.1) (pgC b x.1)) h
theorem laidC_snoc {m : Nat} (b : List UInt8) (h : PgM) (pre : List (Fin m)) (x : Fin m) : laidC b h (pre ++ [x]) = putP (laidC b h pre) (atC b x.1) (pgC b x.1) := by simp [laidC]
theorem laidC_first {m : Nat} (b : List UInt8) (h : PgM) : ∀ k, k <= m -> laidC b h (firstN m k) = (List.range k).foldl (fun h k => putP h (atC b k) (pgC b k)) h
 | 0, _ => rfl
 | k + 1, hk => by rw [firstN_succ (by omega), laidC_snoc, laidC_first b h k (by omega), List.range_succ, List.foldl_append]; rfl
theorem laidC_all {m : Nat} (b : List UInt8) (h : PgM) : laidC b h (List.finRange m) = (List.range m).foldl (fun h k => putP h (atC b k) (pgC b k)) h := by
 rw [<- laidC_first b h m (Nat.le_refl _)]; unfold firstN; rw [List.take_of_length_le (by simp)]
theorem laidC_ok {n m : Nat} {b : List UInt8} {h : PgM} (hl : b.length = 514 * m) (hn : ∀ k, k < m -> atC b k < n) (hh : PgOk n h) (pre : List (Fin m)) : PgOk n (laidC b h pre) := by
 unfold laidC
 induction pre generalizing h with
 | nil => exact hh
 | cons x pre ih =>
  rw [List.foldl_cons]; exact ih (hh.put (hn x.1 x.2) (by have := x.2; unfold pgC; rw [List.length_take, List.length_drop]; omega))
attribute [local go_sem] Oper.semAt_some
def RyRes (w : World) (g d lg bl bh : Nat) (s : PS) (fp : List Nat) (H : PgM) (e : Ending) (w' : World) : Prop :=
 e = .returned (.int .i64 0) /\ PStep w w' g d lg bl bh { s with held := H } fp
theorem replay_P {w : World} {g d lg bl bh gb : Nat} {s : PS} {fp : List Nat} {v : Value} {b : List UInt8} {H : PgM} (h : PgrAt w g d lg bl bh s fp) (hv : BytesAt w v b gb) (hgb : gb ≠ bh) (hbl : b.length <= 4194304) (ht : takeP s.n b s.held = some H) :
  Calls Tryz.prog 59 #[.pointer (some ⟨g, 0, none⟩), v] w (RyRes w g d lg bl bh s fp H) := by
 obtain ⟨m, hm⟩ : ∃ m, b.length = 514 * m := ⟨b.length / 514, by
  unfold takeP at ht
  split at ht
  ·cases ht
  ·omega⟩
 have hrep : replayP s.n m b s.held = some H := by
  unfold takeP at ht; rw [if_neg (by omega), hm, Nat.mul_div_cancel_left _ (by omega)] at ht; exact ht
 obtain ⟨hat, hH⟩ := replay_chunks m b _ _ hm hrep; rw [<- laidC_all (m := m)] at hH; obtain ⟨A, c, off, rfl, hc, hcell⟩ := hv; rw [hm] at hc ⊢; have HA := lh h; have HAT := lh hat; have HH := lh hH; have HCE := lh hcell; clear h hat hH hcell ht hrep; refine (callsIn_wide (n := 5)).1 ?_; refine callsIn_of_wp_marks Tryz.func59 rfl trivial ?_ rfl; simp only [Tryz.ntmps59, List.size_toArray, List.length_cons, List.length_nil, Nat.reduceAdd, Nat.reduceSub, Array.replicate_succ, Array.replicate_zero, List.push_toArray, List.append_toArray, List.nil_append, List.cons_append]
 gi_wp2_with (refine ⟨trivial, ?_⟩; gi_at_call 94; refine (callsIn_wide.2 (chunk_any A (514 * m) c _)).mono ?_; rintro e w' ⟨rfl, rfl⟩)
 obtain ⟨wl, hwl⟩ := nm ((((w.alloc (.cells #[.pointer (some ⟨g, 0, none⟩)] 26)).alloc (.cells #[.int .i64 0] 29)).alloc (.cells #[.slice A (514 * m) c] 23)).alloc (.cells #[.int .i64 514] 3)); have cP : Boxed wl w.heap.size 26 (.pointer (some ⟨g, 0, none⟩)) := by rw [hwl]; exact (((Boxed.new w _ _).alloc _).alloc _).alloc _
 have cE : Boxed wl (w.heap.size + 1) 29 (.int .i64 0) := by rw [hwl]; have := (((Boxed.new (w.alloc (.cells #[.pointer (some ⟨g, 0, none⟩)] 26)) 29 (.int .i64 0)).alloc (.cells #[.slice A (514 * m) c] 23)).alloc (.cells #[.int .i64 514] 3)); rwa [World.size_alloc] at this
 have cB : Boxed wl (w.heap.size + 1 + 1) 23 (.slice A (514 * m) c) := by rw [hwl]; have := ((Boxed.new ((w.alloc (.cells #[.pointer (some ⟨g, 0, none⟩)] 26)).alloc (.cells #[.int .i64 0] 29)) 23 (.slice A (514 * m) c)).alloc (.cells #[.int .i64 514] 3)); rwa [World.size_alloc, World.size_alloc] at this
 have cN : Boxed wl (w.heap.size + 1 + 1 + 1) 3 (.int .i64 514) := by rw [hwl]; have := (Boxed.new (((w.alloc (.cells #[.pointer (some ⟨g, 0, none⟩)] 26)).alloc (.cells #[.int .i64 0] 29)).alloc (.cells #[.slice A (514 * m) c] 23)) 3 (.int .i64 514)); rwa [World.size_alloc, World.size_alloc, World.size_alloc] at this
 have hfl : Fr [] w wl := by rw [hwl]; exact ((((Fr.refl [] w).alloc _).alloc _).alloc _).alloc _
 have hzl : wl.heap.size = w.heap.size + 1 + 1 + 1 + 1 := by rw [hwl]; simp
 rw [<- hwl]; clear hwl; have HFL := lh hfl; have HP := lh cP; have HE := lh cE; have HB := lh cB; have HN := lh cN; have HAL := lh (HA.out.fr hfl (by simp)); have hbhl : bh < w.heap.size := HA.out.held.lt; have hm0 : MapAt wl bh s.held := HAL.out.held; clear hfl cP cE
 refine wpIn_rangeFunc_ownG (F := Fence.wide) (n := 5) rfl (by omega) (gf := 118) (lb := #[.pointer (some ⟨w.heap.size + 1 + 1, 0, none⟩), .pointer (some ⟨w.heap.size + 1 + 1 + 1, 0, none⟩)]) rfl trivial (enters_of Tryz.func118 (by kernel_rfl) rfl)
  (chunk_stops 4 (w.heap.size + 1 + 1) (w.heap.size + 1 + 1 + 1) gb off m c A (fun h => (HCE.out (by omega)).1) hc (by omega) (by omega) wl cB.cell cN.cell) KeepsTwo.trans ?kb (Below.refl _ _) (fun _ => rfl)
  (fun pre W => MapAt W bh (laidC b s.held pre) /\ Fr [bh] wl W) (fun _ _ _ => False) ?oi (fun _ _ _ _ _ hs _ _ => hs) ⟨hm0, Fr.refl _ _⟩
  (fun x => { tmps := #[.pointer (some ⟨g, 0, none⟩), .slice A (514 * m) c, .pointer (some ⟨w.heap.size, 0, none⟩), undef, .pointer (some ⟨w.heap.size + 1, 0, none⟩), chV gb off x.1, undef, .slice A (514 * m) c, .int .i64 (514 * (m : Int)), .int .i64 0, .bool false, .slice A (514 * m) c,
   .func (.func 118) #[] #[.pointer (some ⟨w.heap.size + 1 + 1, 0, none⟩), .pointer (some ⟨w.heap.size + 1 + 1 + 1, 0, none⟩)], chV gb off x.1, undef, undef, undef, undef, undef, undef, undef, undef, undef, undef, undef, undef, undef, undef, undef, undef, undef, undef, undef, undef, undef, undef, undef, undef, undef], defers := [] }) ?assign ?body ?done ?stop
 case kb =>
  intro W l o o' hl ho _ _
  have h1 : ∀ b, b < wl.heap.size -> (W.putObj l o').cell? ⟨b, 0, none⟩ = W.cell? ⟨b, 0, none⟩ := fun b hb => by
   unfold World.cell?; rw [World.putObj_heap_other (show b ≠ l by omega)]
  exact ⟨h1 _ (by omega), h1 _ (by omega)⟩
 case oi =>
  intro s' W W' row hs hg hr; have hf : Fr row.toList W W' := (Fr.refl row.toList W).grown hg (fun r e => .inl (by simp [e])); refine ⟨hs.1.fr hf (fun hm => ?_), hs.2.grown hg (fun r e => .inr (hr r e).1)⟩; have := (hr bh (by simpa using hm)).1; omega
 case assign =>
  intro l x W K hK
  gi_wp2
  exact hK
 case stop =>
  rintro D c pre W _ _ h _; exact h.elim
 case done =>
  rintro D ys W hD rfl ⟨hm', hf⟩ hK; have hE : Boxed W (w.heap.size + 1) 29 (.int .i64 0) := (hf.block _ (by omega) (by simp only [List.mem_singleton]; omega)).trans HE.out; have ce := hE.cell; have fe := hE.frozen; have HM := lh hm'; have HF := lh hf; clear hm' hf
  gi_wp2
  have hK' := (KeepsOthers.setCell W ⟨w.heap.size + 1, 0, none⟩ (.int .i64 0)).same D _ hK rfl; refine ⟨by simp, .inl ⟨_, _, rfl, run_takeDeferred hK', ?_⟩⟩; have hc5 := cell_kept (World.cell?_setCell_same' W ⟨w.heap.size + 1, 0, none⟩ (.int .i64 0) (by rw [ce]; rfl)) (grownBy_putObj' _ D (.deferred none)) (fun r e => by cases e; exact ⟨_, hK', rfl⟩); have hpl := HA.out.lt; have hAW := HAL.out.held_ HM.out HF.out (laidC_ok hm HAT.out HAL.out.hok _); have hs1 : Fr [w.heap.size + 1] W (W.setCell ⟨w.heap.size + 1, 0, none⟩ (.int .i64 0)) := (Fr.refl _ _).setCell (.inl (by simp)) _; have hs2 : Fr [D] (W.setCell ⟨w.heap.size + 1, 0, none⟩ (.int .i64 0)) ((W.setCell ⟨w.heap.size + 1, 0, none⟩ (.int .i64 0)).putObj D (.deferred none)) := (Fr.refl [D] _).grown (grownBy_putObj' _ D _) (fun r e => by cases e; exact .inl (by simp)); have hA5 := (hAW.fr hs1 (fun k hk hm => by have := hpl k hk; simp only [List.mem_singleton] at hm; omega)).fr hs2 (fun k hk hm => by have := hpl k hk; simp only [List.mem_singleton] at hm; omega)
  have hf5 : Fr (pfp g lg bl bh fp) w ((W.setCell ⟨w.heap.size + 1, 0, none⟩ (.int .i64 0)).putObj D (.deferred none)) :=
   (((HFL.out.mono (T := pfp g lg bl bh fp) (by simp)).trans HF.out (fun x hx => .inl (by simp only [List.mem_singleton] at hx; simp [pfp, hx]))).trans hs1 (fun x hx => .inr (by simp only [List.mem_singleton] at hx; omega))).trans hs2 (fun x hx => .inr (by simp only [List.mem_singleton] at hx; omega))
  refine ⟨.int .i64 0, ?_, rfl, fp, by rw [HH.out]; exact hA5, hf5, fun _ hk => .inl hk⟩
  simp [results, Tryz.f59, go_sem, hc5]
 case body =>
  rintro l pre x W ⟨hm', hf⟩ hlt; unfold chV; have hxm := x.2; obtain ⟨hA0, hcb⟩ := HCE.out (by omega)
  have hgl : gb < w.heap.size := by
   obtain ⟨u, hu⟩ : ∃ u, (bcells b)[0]? = some u := gx (by rw [bcells_len]; omega); exact World.block_lt_of_cell? w _ (hcb 0 u hu)
  have hfw : Fr [bh] w W := (HFL.out.mono (T := [bh]) (by simp)).trans hf (fun x hx => .inl hx)
  have hcW : ∀ (j : Nat) (u : Value), (bcells b)[j]? = some u -> W.cell? ⟨gb, off + j, none⟩ = some u := fun j u hu => by
   rw [hfw.cell (by exact hgl) (by simpa using hgb)]; exact hcb j u hu
  obtain ⟨u, hu⟩ : ∃ u, b[514 * x.1]? = some u := gx (by omega); obtain ⟨v, hv⟩ : ∃ v, b[514 * x.1 + 1]? = some v := gx (by omega); have cu : W.cell? ⟨gb, off + 514 * x.1, none⟩ = some (.int .u8 (u.toNat : Int)) := hcW _ _ (by simp [bcells, hu, B8])
  have cv : W.cell? ⟨gb, off + 514 * x.1 + 1, none⟩ = some (.int .u8 (v.toNat : Int)) := by
   have := hcW (514 * x.1 + 1) _ (by simp only [bcells, List.getElem?_map, hv]; rfl); rw [<- Nat.add_assoc] at this; exact this
  have hatx : atC b x.1 = u.toNat * 256 + v.toNat := by
   unfold atC
   have e : (b.drop (514 * x.1)).take 2 = [u, v] := by
    obtain ⟨h1, h2⟩ := List.getElem?_eq_some_iff.1 hu; obtain ⟨h3, h4⟩ := List.getElem?_eq_some_iff.1 hv; rw [List.drop_eq_getElem_cons h1, List.take_succ_cons, List.drop_eq_getElem_cons h3, List.take_succ_cons, List.take_zero, h2, h4]
   rw [e]
   simp [wordOf]
  have hub : u.toNat < 256 := u.toNat_lt; have hvb : v.toNat < 256 := v.toNat_lt; have hor := or_i64 u.toNat v.toNat hub hvb; rw [<- hatx] at hor; have hln := HAT.out x.1 hxm; have hWP : PgrAt W g d lg bl bh { s with held := laidC b s.held pre } fp := HAL.out.held_ hm' hf (laidC_ok hm HAT.out HAL.out.hok _); have HOR := lh hor; have HM := lh hm'; have HF := lh hf; have HCW := lh hcW; have HWP := lh hWP; have HFW := lh hfw; have hP : Boxed W w.heap.size 26 (.pointer (some ⟨g, 0, none⟩)) := (hf.block _ (by omega) (by simp only [List.mem_singleton]; omega)).trans HP.out; have cP := hP.cell; have c2 := hWP.blk.at_ (i := 2) rfl; have c5 := hWP.blk.at_ (i := 5) rfl; have hwz := hf.size; clear hor hm' hf hcW hWP hfw hP hu hv hatx hcb hA0
  gi_wp2
  refine wpIn_region_KR (fun W => W.cell? ⟨gb, off + 514 * x.1, none⟩ = some (.int .u8 (u.toNat : Int)) /\ W.cell? ⟨gb, off + 514 * x.1 + 1, none⟩ = some (.int .u8 (v.toNat : Int))) [0, 1, 2, 3, 4, 5, 6, 7, 8, 9] (by kernel_rfl) (by kernel_rfl) (fun _ _ h => h) ?_; refine tks [0, 1, 2, 3, 4, 5, 6, 7, 8, 9] ?_
  iterate 10 (refine tk rfl rfl ⟨cu, cv⟩ rfl (fun _ hW => by (obtain ⟨c1', c2'⟩ := hW; go_simp) <;> with_reducible rfl) ?_; simp only [nrm])
  refine tke ?_; refine sp 10 rfl rfl rfl fun K hK => ?_; refine wp_run_same (v := ?aq1_10) ?yq1_10 (hK _ _ (fun h => absurd h (by decide +kernel)) ?_)
  case yq1_10 => go_simp <;> with_reducible rfl
  simp only [nrm]; refine wd ?_ _; have y1 : IntKind.i64.wrap (u.toNat : Int) = (u.toNat : Int) := by rw [IntKind.wrap_i64]; omega
  have y2 : IntKind.i64.wrap ((u.toNat : Int) * 256) = (u.toNat : Int) * 256 := by rw [IntKind.wrap_i64]; omega
  have y3 : IntKind.i64.wrap (v.toNat : Int) = (v.toNat : Int) := by rw [IntKind.wrap_i64]; omega
  rw [y1, y2, y3, HOR.out]; have hdr : Fr [] W W.drew := (Fr.refl [] W).drew; have cP' : W.drew.cell? ⟨w.heap.size, 0, none⟩ = some (.pointer (some ⟨g, 0, none⟩)) := cP; have c2' : W.drew.cell? ⟨g, 2, none⟩ = some (.int .i64 (s.n : Int)) := c2; have c5' : W.drew.cell? ⟨g, 5, none⟩ = some (.map (some bh)) := c5; have hcW' : ∀ (j : Nat) (u : Value), (bcells b)[j]? = some u -> W.drew.cell? ⟨gb, off + j, none⟩ = some u := HCW.out; have HCW' := lh hcW'; have hge : ¬((s.n : Int) <= ((atC b x.1 : Nat) : Int)) := by omega
  obtain ⟨k, hk⟩ := nm (atC b x.1); rw [<- hk] at hge hln ⊢; have HK := lh hk; have hWPd := HWP.out.fr hdr (by simp); have HWPd := lh hWPd; clear hcW' y1 y2 y3 HOR cP c2 c5 cu cv hk hWPd; obtain ⟨Wd, hWd⟩ := nm (W.drew); rw [<- hWd] at hdr cP' c2' c5' HCW' HWPd ⊢; clear hWd; have hsl := slice_run_from Tryz.underlying23 size_u8 (some ⟨gb, off + 514 * x.1, none⟩) 514 514 2 .i64 (by omega); rw [if_neg (by omega)] at hsl; simp only [Option.map_some, Addr.add_mid, Nat.reduceSub] at hsl; have hsl2 : ∀ W, (Instr.sliceAt 23 (.slice (some ⟨gb, off + 514 * x.1, none⟩) 514 514) (some (.int .i64 2)) none none).run Tryz.prog W = .ok (.slice (some ⟨gb, off + 514 * x.1 + 2, none⟩) 512 512) W := hsl; have hap : ∀ W, (Instr.arrayAt 123 (.slice (some ⟨gb, off + 514 * x.1 + 2, none⟩) 512 512)).run Tryz.prog W = .ok (.pointer (some ⟨gb, off + 514 * x.1 + 2, none⟩)) W := fun W => run_arrayAt (P := Tryz.prog) W _ _ _ _ _ _ Tryz.underlying123 (Nat.le_refl _); have hpl : (pgC b x.1).length = 512 := by unfold pgC; rw [List.length_take, List.length_drop]; omega
  have hcp : ∀ W : World, (∀ (j : Nat) (u : Value), (bcells b)[j]? = some u -> W.cell? ⟨gb, off + j, none⟩ = some u) -> W.rangeAt gb (off + 514 * x.1 + 2) (bcells (pgC b x.1)) := fun W hW j u hu => by
   unfold pgC at hu; rw [bcells_take, bcells_drop, List.getElem?_take] at hu
   split at hu
   ·rw [List.getElem?_drop] at hu; have := hW _ _ hu; rw [show off + 514 * x.1 + 2 + j = off + (514 * x.1 + 2 + j) by omega]; exact this
   ·cases hu
  have HCP := lh hcp; have HPL := lh hpl; clear hsl hcp hpl
  gi_wp2
  refine wpIn_region_KR (fun W => W.cell? ⟨w.heap.size, 0, none⟩ = some (.pointer (some ⟨g, 0, none⟩)) /\ W.cell? ⟨g, 5, none⟩ = some (.map (some bh)) /\ ∀ (j : Nat) (u : Value), (bcells b)[j]? = some u -> W.cell? ⟨gb, off + j, none⟩ = some u) [0, 1, 2, 3, 4, 5, 6, 7, 8] (by kernel_rfl) (by kernel_rfl) (fun _ _ h => h) ?_; refine tks [0, 1, 2, 3, 4, 5] ?_
  iterate 6 (refine tk rfl rfl ⟨cP', c5', HCW'.out⟩ rfl (fun _ hW => by (obtain ⟨c1', c2', c3'⟩ := hW; go_simp) <;> with_reducible rfl) ?_; simp only [nrm])
  refine tke ?_; refine tv 6 (.slice (some ⟨gb, off + 514 * x.1 + 2, none⟩) 512 512) rfl rfl ⟨cP', c5', HCW'.out⟩ (.inl ⟨rfl, fun W _ => exec_slice rfl rfl rfl rfl (hsl2 W)⟩) ?_; simp only [nrm]; refine tv 7 (.pointer (some ⟨gb, off + 514 * x.1 + 2, none⟩)) rfl rfl ⟨cP', c5', HCW'.out⟩ (.inl ⟨rfl, fun W _ => by simp [execOp, Act.eval, hap, Result.andThen]⟩) ?_; simp only [nrm]; refine tv 8 (.agg (bcells (pgC b x.1)).toArray) rfl rfl ⟨cP', c5', HCW'.out⟩ (yieldsIf_load_mid rfl 123 (.tmp 37) rfl gb (off + 514 * x.1 + 2) rfl (bcells (pgC b x.1)) _ (fun W hW => HCP.out W hW.2.2) Tryz.underlying123 rfl (by rw [bcells_len, HPL.out]; exact size_pg)) ?_; simp only [nrm]; refine wpAnyK_step (j := 9) none rfl rfl (by kernel_rfl) rfl fun K hK => ?_; have hd2 : Fr [] Wd Wd.drew := (Fr.refl [] Wd).drew; have hkl : (laidC b s.held pre).length < 9223372036854775807 := by have := HWPd.out.hok.few; have := HWPd.out.few; simp only at *; omega
  have hk4 : k <= 9223372036854775807 := by have := HWPd.out.few; simp only at *; omega
  obtain ⟨w9, hr, hm9, hf9, _⟩ := (HWPd.out.held.fr hd2 (by simp)).store hk4 hkl HPL.out; unfold pageV at hr; refine wp_run_skip (w' := w9) (by simp [execOp, Act.eval, hr, Result.andThen]) (hK _ _ (fun h => absurd h (by decide +kernel)) ?_); simp only [Act.put]; refine wd ?_ _; have hWf : Fr [bh] W w9 := ((hdr.mono (T := [bh]) (by simp)).trans (hd2.mono (T := [bh]) (by simp)) (fun x hx => .inl hx)).trans hf9 (fun x hx => .inl hx)
  have hX : ownPostG wl.heap.size (KeepsTwo (w.heap.size + 1 + 1) (w.heap.size + 1 + 1 + 1)) (fun pre W => MapAt W bh (laidC b s.held pre) /\ Fr [bh] wl W) (fun _ _ _ => False) (pre ++ [x]) W .normal { tmps := #[], defers := [] } w9 :=
   ⟨⟨hWf.size, fun q o hB hq _ => (hWf.block q (Array.getElem?_eq_some_iff.1 hq).1 (by simp only [List.mem_singleton]; omega)).trans hq⟩,
    ⟨hWf.cell (p := ⟨w.heap.size + 1 + 1, 0, none⟩) (show w.heap.size + 1 + 1 < W.heap.size by omega) (by simp only [List.mem_singleton]; omega), hWf.cell (p := ⟨w.heap.size + 1 + 1 + 1, 0, none⟩) (show w.heap.size + 1 + 1 + 1 < W.heap.size by omega) (by simp only [List.mem_singleton]; omega)⟩,
    by rw [laidC_snoc, <- HK.out]; exact hm9, HF.out.trans hWf (fun x hx => .inl hx)⟩
  clear hK hr hm9 hf9
  gi_wp2
  exact hX
end
section
open Go.RowKit
theorem collectP_len {st : Stamp} : ∀ (L : List (List UInt8)) (k : Nat) (b : List UInt8), collect st k L = some b -> b.length <= 48 * L.length
 | [], _, b, h => by injection h with h; subst h; simp
 | s :: L, k, b, h => by
  unfold collect at h
  split at h
  ·cases h
  ·rename_i q hq
   split at h
   ·obtain ⟨c, hc, rfl⟩ := Option.map_eq_some_iff.1 h; have h1 := collectP_len L (k + 1) c hc; have h2 := piece_len hq; simp only [List.length_append, List.length_cons]; omega
   ·cases h
theorem recordOf_len {L : List (List UInt8)} {x : Stamp × List UInt8} (h : recordOf L = some x) : x.2.length <= 48 * L.length := by
 unfold recordOf at h
 split at h
 ·cases h
 ·rename_i s T
  split at h
  ·cases h
  ·rename_i p hp
   split at h
   ·cases h
   ·obtain ⟨b, hb, rfl⟩ := Option.map_eq_some_iff.1 h; have := collectP_len _ _ _ hb; rw [List.length_take] at this
    show b.length <= _
    omega
theorem records_len : ∀ (n : Nat) (last : Option Stamp) (L : List (List UInt8)), ∀ x ∈ recordsOf n last L, x.2.length <= 48 * L.length
 | 0, _, _, x, h => by simp [recordsOf] at h
 | n + 1, last, L, x, h => by
  unfold recordsOf at h
  split at h
  ·cases h
  ·rename_i st b hr
   have h' : x ∈ (st, b) :: recordsOf n (some st) (L.drop st.count) := by
    cases last with
    | none => simpa using h
    | some l =>
     simp only at h
     split at h
     ·cases h
     ·exact h
   rcases List.mem_cons.1 h' with rfl | h'
   ·exact recordOf_len hr
   ·have := records_len n _ _ x h'; rw [List.length_drop] at this; omega
theorem part_take {D : DM} {log : Nat} (hd : D.dead = false) (hp : D.P = []) (hl : log <= D.S.length) : D.part 0 log = D.S.take log := (st_of hd hp).view (by rw [List.length_take]; omega)
def OpRes (w : World) (d n log : Nat) (D : DM) (H : PgM) (fp : List Nat) (e : Ending) (w' : World) : Prop :=
 ∃ g lg bl bh fp', e = .returned (.tuple #[.pointer (some ⟨g, 0, none⟩), .int .i64 0]) /\ PgrAt w' g d lg bl bh (openP n log D H) fp' /\ Fr fp w w' /\ (∀ k ∈ fp', k ∈ fp ∨ w.heap.size <= k) /\ w.heap.size <= g /\ w.heap.size <= lg /\ w.heap.size <= bl /\ w.heap.size <= bh
theorem open_P {w : World} {d n log : Nat} {D : DM} {H : PgM} {fp : List Nat} (hd : DiskAt w d D fp) (hdead : D.dead = false) (hpend : D.P = []) (h1 : 1 <= n) (h2 : n <= 4096) (h3 : 1 <= log) (hfit : log + 8 * n <= D.S.length) (hnew : (newestOf (D.S.take log)).1 < 4294967295) (ht : takeAll n ((recordsOf log none (D.S.take log)).map (·.2)) [] = some H) :
  Calls Tryz.prog 29 #[.pointer (some ⟨d, 0, none⟩), .int .i64 (n : Int), .int .i64 (log : Int)] w (OpRes w d n log D H fp) := by
 refine calls_post fun R HQ => ?_; have hpart := part_take hdead hpend (by omega : log <= D.S.length); have hmost := (DiskAt.ok hd).most; have hlo : openL D 0 log = logOf log (D.S.take log) := by unfold openL openR logOf; rw [hpart]; rfl
 have HLO := lh (openL_ok (D := D) (f := 0) (n := log) (by omega) (by rw [hpart]; exact hnew)); rw [hlo] at HLO; have HJ := lh (open_ok (f := 0) hd hdead h3 (by omega) (by rw [hpart]; exact hnew)); rw [hpart] at HJ; have HD := lh hd; have HDE := lh (dead_at hd); have HSZ := lh (size_at hd); have HT := lh ht
 have hrl : ∀ x ∈ (recordsOf log none (D.S.take log)).map (·.2), x.length <= 4194304 := fun x hx => by
  obtain ⟨y, hy, rfl⟩ := List.mem_map.1 hx; have := records_len _ _ _ y hy; rw [List.length_take] at this; omega
 have HRL := lh hrl; rw [hdead] at HDE; have y1 : IntKind.i64.wrap (8 * (n : Int)) = 8 * (n : Int) := by rw [IntKind.wrap_i64]; omega
 have y2 : IntKind.i64.wrap ((D.S.length : Int) - 8 * (n : Int)) = (D.S.length : Int) - 8 * (n : Int) := by rw [IntKind.wrap_i64]; omega
 clear hd hdead hpend ht hrl hpart hnew hlo; have hmm := @run_makeMap Tryz.prog; have e1 : decide ((n : Int) < 1) = false := by simp; omega
 have e2 : decide ((4096 : Int) < (n : Int)) = false := by simp; omega
 have e3 : decide ((log : Int) < 1) = false := by simp; omega
 have e4 : decide ((D.S.length : Int) - 8 * (n : Int) < (log : Int)) = false := by simp; omega
 go_enter Tryz.func29, Tryz.ntmps29
 go_wp2_with fail; refine HDE.out.mono ?_; rintro e w' ⟨rfl, rfl⟩; go_wp2_with fail; refine HSZ.out.mono ?_; rintro e w' ⟨rfl, rfl⟩; go_wp2_with fail; refine HJ.out.mono ?_; rintro e w2 ⟨out, rfl, ⟨vs, hrows⟩, hlog, hf2⟩; obtain ⟨oA, oc, rfl, hoc, hmx⟩ := own_shape hrows.own; unfold maxLen at hmx; have hd2 := HD.out.fr hf2 (by simp); have hlo2 := hlog.lt; have hz2 := hf2.size; have HROWS := lh hrows; have HLOG := lh hlog; have HF2 := lh hf2; have HD2 := lh hd2; obtain ⟨rows, hrw⟩ := nm ((recordsOf log none (D.S.take log)).map (·.2)); rw [<- hrw] at HROWS HT HRL hoc ⊢; clear hrows hlog hf2 hd2 HJ hrw; go_wp2_with fail; have hfw : Fr [] w2 (((w2.alloc (.map #[] 0)).alloc (.map #[] 0)).alloc (.cells (pgCells d w.heap.size w2.heap.size (w2.heap.size + 1) (openP n log D [])).toArray 118)) := (((Fr.refl [] w2).alloc _).alloc _).alloc _
 have hm1 : MapAt (((w2.alloc (.map #[] 0)).alloc (.map #[] 0)).alloc (.cells (pgCells d w.heap.size w2.heap.size (w2.heap.size + 1) (openP n log D [])).toArray 118)) w2.heap.size [] :=
  (MapAt.new w2).fr (((Fr.refl [] _).alloc _).alloc _) (by simp)
 have hm2 : MapAt (((w2.alloc (.map #[] 0)).alloc (.map #[] 0)).alloc (.cells (pgCells d w.heap.size w2.heap.size (w2.heap.size + 1) (openP n log D [])).toArray 118)) (w2.heap.size + 1) [] := by
  have := (MapAt.new (w2.alloc (.map #[] 0))).fr ((Fr.refl [] _).alloc (.cells (pgCells d w.heap.size w2.heap.size (w2.heap.size + 1) (openP n log D [])).toArray 118)) (by simp)
  rwa [World.size_alloc] at this
 have hb1 : Blk (((w2.alloc (.map #[] 0)).alloc (.map #[] 0)).alloc (.cells (pgCells d w.heap.size w2.heap.size (w2.heap.size + 1) (openP n log D [])).toArray 118)) (w2.heap.size + 1 + 1) 118 (pgCells d w.heap.size w2.heap.size (w2.heap.size + 1) (openP n log D [])) := by
  have := Blk.new ((w2.alloc (.map #[] 0)).alloc (.map #[] 0)) 118 (pgCells d w.heap.size w2.heap.size (w2.heap.size + 1) (openP n log D []))
  rwa [World.size_alloc, World.size_alloc] at this
 have hz3 : (((w2.alloc (.map #[] 0)).alloc (.map #[] 0)).alloc (.cells (pgCells d w.heap.size w2.heap.size (w2.heap.size + 1) (openP n log D [])).toArray 118)).heap.size = w2.heap.size + 1 + 1 + 1 := by simp
 show Code.wp _ _ _ _ (((w2.alloc (.map #[] 0)).alloc (.map #[] 0)).alloc (.cells (pgCells d w.heap.size w2.heap.size (w2.heap.size + 1) (openP n log D [])).toArray 118))
 generalize ((w2.alloc (.map #[] 0)).alloc (.map #[] 0)).alloc (.cells (pgCells d w.heap.size w2.heap.size (w2.heap.size + 1) (openP n log D [])).toArray 118) = w3 at *; have hdl := HD2.out.lt; have hdlt := HD.out.lt
 have hP3 : PgrAt w3 (w2.heap.size + 1 + 1) d w.heap.size w2.heap.size (w2.heap.size + 1) (openP n log D []) fp :=
  ⟨hb1, ⟨HLOG.out.fr hfw (by simp), HD2.out.fr hfw (by simp), fun hm => by have := hdlt _ hm; omega, HLO.out.at_, HLO.out.fit, HLO.out.num, HLO.out.ses⟩, hm1, hm2, by omega, fun hm => by have := hdl _ hm; omega, fun hm => by have := hdl _ hm; omega, fun hm => by have := hdl _ hm; omega, PgOk.nil _, PgOk.nil _, h2⟩
 have hR3 := HROWS.out.fr hfw (by simp); have HP3 := lh hP3; have HFW := lh hfw
 have hrout : ∀ x ∈ pfp (w2.heap.size + 1 + 1) w.heap.size w2.heap.size (w2.heap.size + 1) fp, x < w.heap.size + 1 ∨ w2.heap.size <= x := fun x hx => by
  simp only [pfp, List.mem_cons] at hx; rcases hx with rfl | rfl | rfl | rfl | hx
  ·omega
  ·omega
  ·omega
  ·omega
  ·have := hdlt _ hx; omega
 have HRO := lh hrout; clear hfw hm1 hm2 hb1 hP3 hR3 hdl hrout; go_wp2_with fail
 go_loopw [58] (fun v58 wr => ∃ (k : Nat) (Hk : PgM), k <= rows.length /\ v58 = .int .i64 (k : Int) /\ takeAll n (rows.drop k) Hk = some H /\ PStep w3 wr (w2.heap.size + 1 + 1) d w.heap.size w2.heap.size (w2.heap.size + 1) (openP n log D Hk) fp) (fun v _ => rows.length - (intOf v).toNat)
 case atStart => exact ⟨0, [], Nat.zero_le _, rfl, HT.out, PStep.same HP3.out⟩
 case round =>
  obtain ⟨k, Hk, hk, rfl, htk, fpk, hAk, hfk, hnk⟩ := hrel; have HAK := lh hAk; have HFK := lh hfk; have HNK := lh hnk; have HTK := lh htk; clear hAk hfk hnk htk
  by_cases hkn : k < rows.length
  ·have hf2k : Fr (pfp (w2.heap.size + 1 + 1) w.heap.size w2.heap.size (w2.heap.size + 1) fp) w2 wr := (HFW.out.mono (by simp)).trans HFK.out (fun x hx => .inl hx); have hRk := HROWS.out.fr hf2k HRO.out; obtain ⟨ga, hga, hcell⟩ := own_cell hRk.own (by omega); obtain ⟨u, hu⟩ : ∃ u, vs[k]? = some u := gx (by rw [hRk.len]; exact hkn); obtain ⟨bs, hbs⟩ := gx hkn; obtain ⟨gb, hby, hgb, hgbl, _⟩ := HROWS.out.row k u bs hu hbs; have hby' := hby.fr hf2k (fun hm => by have := HRO.out gb hm; omega); obtain ⟨uA, uc, uo, rfl, _⟩ := id hby; have cu := hcell k _ hu
   obtain ⟨H1, hH1, hH2⟩ : ∃ H1, takeP n bs Hk = some H1 /\ takeAll n (rows.drop (k + 1)) H1 = some H := by
    have h := HTK.out; obtain ⟨h3, h4⟩ := List.getElem?_eq_some_iff.1 hbs; rw [List.drop_eq_getElem_cons h3, h4] at h; unfold takeAll at h
    cases hq : takeP n bs Hk with
    | none => rw [hq] at h; cases h
    | some H1 => rw [hq] at h; exact ⟨H1, rfl, h⟩
   have HRP := lh (replay_P HAK.out hby' (by omega) (HRL.out bs (List.mem_of_getElem? hbs)) hH1); have HH2 := lh hH2; obtain ⟨rl, hrl⟩ := nm (rows.length); subst hga; clear hf2k hRk hcell hu hby hgb hgbl hby' hH1 hH2 hrl; go_wp2_with fail; refine HRP.out.mono ?_; rintro e w5 ⟨rfl, hs5⟩; have HX : Hid (PStep w3 w5 (w2.heap.size + 1 + 1) d w.heap.size w2.heap.size (w2.heap.size + 1) (openP n log D H1) fp) := lh (PStep.comp HFK.out HNK.out hs5); clear hs5 cu; go_wp2_with fail
   go_roundw
   case rel => exact ⟨k + 1, H1, by omega, by go_num, HH2.out, HX.out⟩
   case measure => simp [intOf]; omega
  ·obtain rfl : k = rows.length := by omega
   have hH : Hk = H := by
    have := HTK.out; rw [List.drop_of_length_le (Nat.le_refl _)] at this; injection this
   subst hH
   have HX : Hid (OpRes w d n log D Hk fp (.returned (.tuple #[.pointer (some ⟨w2.heap.size + 1 + 1, 0, none⟩), .int .i64 0])) wr) := lh (by
    have hfw2 : Fr [] w w3 := HF2.out.trans HFW.out (by simp); refine ⟨_, _, _, _, fpk, rfl, HAK.out, (hfw2.mono (T := fp) (by simp)).trans HFK.out (fun x hx => ?_), fun x hx => ?_, by omega, Nat.le_refl _, by omega, by omega⟩
    ·simp only [pfp, List.mem_cons] at hx; rcases hx with rfl | rfl | rfl | rfl | hx
     ·exact .inr (by omega)
     ·exact .inr (by omega)
     ·exact .inr (by omega)
     ·exact .inr (by omega)
     ·exact .inl hx
    ·rcases HNK.out x hx with h | h
     ·exact .inl h
     ·exact .inr (by have := hfw2.size; omega))
   go_wp2_with fail; exact HQ.out _ _ HX.out
def PgX (w0 w : World) (d g : Nat) (s : PS) (X : Nat -> Prop) : Prop := ∃ lg bl bh fp, PgrAt w g d lg bl bh s fp /\ (∀ k ∈ pfp g lg bl bh fp, w0.heap.size <= k /\ ¬ X k) /\ Fr [] w0 w /\ ∀ k, X k -> k < w.heap.size
section
variable {w0 w w' : World} {d g : Nat} {s s' : PS} {X Y : Nat -> Prop}
theorem PgX.step {lg bl bh : Nat} {fp : List Nat} (h2 : ∀ k ∈ pfp g lg bl bh fp, w0.heap.size <= k /\ ¬ X k) (h3 : Fr [] w0 w) (h4 : ∀ k, X k -> k < w.heap.size) (hs : PStep w w' g d lg bl bh s' fp) : PgX w0 w' d g s' X /\ Kp X w w' := by
 obtain ⟨fp', h1, hf, hn⟩ := hs; have hz := h3.size; have hz' := hf.size; refine ⟨⟨lg, bl, bh, fp', h1, fun k hk => ?_, h3.trans hf (fun x hx => .inr (h2 x hx).1), fun k hk => Nat.lt_of_lt_of_le (h4 k hk) hz'⟩, _, hf, fun x hx => (h2 x hx).2⟩; simp only [pfp, List.mem_cons] at hk; rcases hk with rfl | rfl | rfl | rfl | hk
 ·exact h2 _ (by simp [pfp])
 ·exact h2 _ (by simp [pfp])
 ·exact h2 _ (by simp [pfp])
 ·exact h2 _ (by simp [pfp])
 ·rcases hn k hk with h | h
  ·exact h2 k (by simp [pfp, h])
  ·exact ⟨by omega, fun hx => by have := h4 k hx; omega⟩
theorem PgX.fr (h : PgX w0 w d g s X) (hf : Fr [] w w') : PgX w0 w' d g s (fun k => X k ∨ w.heap.size <= k /\ k < w'.heap.size) := by
 obtain ⟨lg, bl, bh, fp, h1, h2, h3, h4⟩ := h; have hz := hf.size; refine ⟨lg, bl, bh, fp, h1.fr hf (by simp), fun k hk => ⟨(h2 k hk).1, ?_⟩, h3.trans hf (by simp), ?_⟩
 ·rintro (hx | hx)
  ·exact (h2 k hk).2 hx
  ·have := h1.lt k hk; omega
 ·rintro k (hx | hx)
  ·have := h4 k hx; omega
  ·exact hx.2
theorem PgX.weak (h : PgX w0 w d g s X) (hY : ∀ k, Y k -> X k) : PgX w0 w d g s Y := by
 obtain ⟨lg, bl, bh, fp, h1, h2, h3, h4⟩ := h; exact ⟨lg, bl, bh, fp, h1, fun k hk => ⟨(h2 k hk).1, fun hy => (h2 k hk).2 (hY k hy)⟩, h3, fun k hk => h4 k (hY k hk)⟩
theorem PgX.stay (h : PgX w0 w d g s X) (hf : Fr [] w w') : PgX w0 w' d g s X := (h.fr hf).weak fun _ hk => .inl hk
theorem PgX.frame (h : PgX w0 w d g s X) : Fr [] w0 w := by obtain ⟨_, _, _, _, _, _, h, _⟩ := h; exact h
theorem open_Y {n log : Nat} {D : DM} {H : PgM} (h : DkX w0 w d D X) (hdead : D.dead = false) (hpend : D.P = []) (h1 : 1 <= n) (h2 : n <= 4096) (h3 : 1 <= log) (hfit : log + 8 * n <= D.S.length) (hnew : (newestOf (D.S.take log)).1 < 4294967295) (ht : takeAll n ((recordsOf log none (D.S.take log)).map (·.2)) [] = some H) :
  Calls Tryz.prog 29 #[.pointer (some ⟨d, 0, none⟩), .int .i64 (n : Int), .int .i64 (log : Int)] w fun e w' => ∃ g, e = .returned (.tuple #[.pointer (some ⟨g, 0, none⟩), .int .i64 0]) /\ PgX w0 w' d g (openP n log D H) X /\ Kp X w w' := by
 obtain ⟨fp, g1, g2, g3, g4⟩ := h; refine (open_P g1 hdead hpend h1 h2 h3 hfit hnew ht).mono ?_; rintro e w' ⟨g, lg, bl, bh, fp', he, hp, hf, hn, k1, k2, k3, k4⟩; have hz := g3.size; have hz' := hf.size; have new : ∀ k, w.heap.size <= k -> w0.heap.size <= k /\ ¬ X k := fun k hk => ⟨by omega, fun hx => by have := g4 k hx; omega⟩; refine ⟨g, he, ⟨lg, bl, bh, fp', hp, fun k hk => ?_, g3.trans hf (fun x hx => .inr (g2 x hx).1), fun k hk => Nat.lt_of_lt_of_le (g4 k hk) hz'⟩, fp, hf, fun x hx => (g2 x hx).2⟩; simp only [pfp, List.mem_cons] at hk; rcases hk with rfl | rfl | rfl | rfl | hk
 ·exact new _ k1
 ·exact new _ k2
 ·exact new _ k3
 ·exact new _ k4
 ·rcases hn k hk with h | h
  ·exact g2 k h
  ·exact new k h
theorem write_Y (h : PgX w0 w d g s X) (hbr : s.br = false) (k : Nat) (hk : k < s.n) (v : Value) (b : List UInt8) (gb : Nat) (hv : BytesAt w v b gb) (hb : b.length <= 512) :
  Calls Tryz.prog 66 #[.pointer (some ⟨g, 0, none⟩), .int .i64 (k : Int), v] w fun e w' => e = .returned (.int .i64 0) /\ PgX w0 w' d g (s.write k b) X /\ Kp X w w' := by
 obtain ⟨lg, bl, bh, fp, h1, h2, h3, h4⟩ := h; exact (write_P h1 hbr k hk v b gb hv hb).mono fun e w' ⟨he, hs⟩ => ⟨he, PgX.step h2 h3 h4 hs⟩
theorem commit_Y (h : PgX w0 w d g s X) (hdone : s.D.done + 400000 < 1099511627776) :
  Calls Tryz.prog 22 #[.pointer (some ⟨g, 0, none⟩)] w fun e w' => e = .returned (.int .i64 s.commit.2) /\ PgX w0 w' d g s.commit.1 X /\ Kp X w w' := by
 obtain ⟨lg, bl, bh, fp, h1, h2, h3, h4⟩ := h; exact (commit_P h1 hdone).mono fun e w' ⟨he, hs⟩ => ⟨he, PgX.step h2 h3 h4 hs⟩
theorem rollback_Y (h : PgX w0 w d g s X) :
  Calls Tryz.prog 24 #[.pointer (some ⟨g, 0, none⟩)] w fun e w' => e = .returned (.tuple #[]) /\ PgX w0 w' d g { s with late := [] } X /\ Kp X w w' := by
 obtain ⟨lg, bl, bh, fp, h1, h2, h3, h4⟩ := h; exact (rollback_P h1).mono fun e w' ⟨he, hs⟩ => ⟨he, PgX.step h2 h3 h4 hs⟩
theorem read_Y (h : PgX w0 w d g s X) (hbr : s.br = false) (hc : Calm s) (k : Nat) (hk : k < s.n) : Calls Tryz.prog 60 #[.pointer (some ⟨g, 0, none⟩), .int .i64 (k : Int)] w (PgAns w (s.page k)) := by
 obtain ⟨lg, bl, bh, fp, h1, _⟩ := h; exact read_P h1 hbr hc k hk
end

open Go.RowKit

open Go.RowKit
end
section
abbrev Ky := List UInt8
def klt (a b : Ky) : Prop := Lib.compareBytes a b < 0
instance (a b : Ky) : Decidable (klt a b) := by unfold klt; infer_instance
theorem cmp_cases : ∀ a b : Ky, Lib.compareBytes a b = -1 ∨ Lib.compareBytes a b = 0 ∨ Lib.compareBytes a b = 1
 | [], [] => .inr (.inl rfl)
 | [], _ :: _ => .inl rfl
 | _ :: _, [] => .inr (.inr rfl)
 | a :: u, b :: bs => by
  unfold Lib.compareBytes
  split
  ·exact .inl rfl
  ·split
   ·exact .inr (.inr rfl)
   ·exact cmp_cases u bs
theorem cmp_zero : ∀ {a b : Ky}, Lib.compareBytes a b = 0 -> a = b
 | [], [], _ => rfl
 | [], _ :: _, h => by cases h
 | _ :: _, [], h => by cases h
 | a :: u, b :: bs, h => by
  unfold Lib.compareBytes at h
  split at h
  ·cases h
  ·split at h
   ·cases h
   ·rename_i h1 h2
    have e : a = b := UInt8.le_antisymm (UInt8.not_lt.1 h2) (UInt8.not_lt.1 h1); rw [e, cmp_zero h]
theorem cmp_self : ∀ a : Ky, Lib.compareBytes a a = 0
 | [] => rfl
 | a :: u => by
  unfold Lib.compareBytes; rw [if_neg (UInt8.lt_irrefl a), if_neg (UInt8.lt_irrefl a)]; exact cmp_self u
theorem cmp_anti : ∀ a b : Ky, Lib.compareBytes b a = - Lib.compareBytes a b
 | [], [] => rfl
 | [], _ :: _ => rfl
 | _ :: _, [] => rfl
 | a :: u, b :: bs => by
  have ih := cmp_anti u bs; unfold Lib.compareBytes
  by_cases h1 : a < b
  ·have h2 : ¬ b < a := fun h => UInt8.lt_irrefl a (UInt8.lt_trans h1 h); rw [if_neg h2, if_pos h1, if_pos h1]; rfl
  ·by_cases h2 : b < a
   ·rw [if_pos h2, if_neg h1, if_pos h2]
   ·rw [if_neg h2, if_neg h1, if_neg h1, if_neg h2]; exact ih
theorem klt_irrefl (a : Ky) : ¬ klt a a := by unfold klt; rw [cmp_self]; decide
theorem klt_trans : ∀ {a b c : Ky}, klt a b -> klt b c -> klt a c
 | [], [], _, h, _ => absurd h (klt_irrefl _)
 | _ :: _, [], _, h, _ => by unfold klt Lib.compareBytes at h; cases h
 | [], _ :: _, [], _, h => by unfold klt Lib.compareBytes at h; cases h
 | [], _ :: _, _ :: _, _, _ => by unfold klt Lib.compareBytes; decide
 | _ :: _, _ :: _, [], _, h => by unfold klt Lib.compareBytes at h; cases h
 | a :: u, b :: bs, c :: cs, h1, h2 => by
  have ih := @klt_trans u bs cs; unfold klt Lib.compareBytes at h1 h2 ⊢; unfold klt at ih; have L : ∀ x y : UInt8, x < y ↔ x.toNat < y.toNat := fun x y => UInt8.lt_iff_toNat_lt; simp only [L] at h1 h2 ⊢
  by_cases a1 : a.toNat < b.toNat
  ·by_cases b1 : b.toNat < c.toNat
   ·rw [if_pos (by omega)]; decide
   ·rw [if_neg b1] at h2
    by_cases b2 : c.toNat < b.toNat
    ·rw [if_pos b2] at h2; cases h2
    ·rw [if_pos (by omega)]; decide
  ·rw [if_neg a1] at h1
   by_cases a2 : b.toNat < a.toNat
   ·rw [if_pos a2] at h1; cases h1
   ·rw [if_neg a2] at h1
    by_cases b1 : b.toNat < c.toNat
    ·rw [if_pos (by omega)]; decide
    ·rw [if_neg b1] at h2
     by_cases b2 : c.toNat < b.toNat
     ·rw [if_pos b2] at h2; cases h2
     ·rw [if_neg b2] at h2; rw [if_neg (by omega), if_neg (by omega)]; exact ih h1 h2
theorem klt_asymm {a b : Ky} (h : klt a b) : ¬ klt b a := fun h2 => klt_irrefl a (klt_trans h h2)
theorem klt_tri {a b : Ky} (h1 : ¬ klt a b) (h2 : ¬ klt b a) : a = b := by
 have h := cmp_anti a b; unfold klt at h1 h2; exact cmp_zero (by omega)
theorem klt_le_lt {a b c : Ky} (h1 : ¬ klt b a) (h2 : klt b c) : klt a c := by
 by_cases h : klt a b
 ·exact klt_trans h h2
 ·rw [klt_tri h h1]; exact h2
theorem klt_lt_le {a b c : Ky} (h1 : klt a b) (h2 : ¬ klt c b) : klt a c := by
 by_cases h : klt b c
 ·exact klt_trans h1 h
 ·rw [<- klt_tri h h2]; exact h1
theorem kle_trans {a b c : Ky} (h1 : ¬ klt b a) (h2 : ¬ klt c b) : ¬ klt c a := fun h => h1 (klt_le_lt h2 h)
def geLo (lo : Option Ky) (k : Ky) : Prop := ∀ a, lo = some a -> ¬ klt k a
def ltHi (hi : Option Ky) (k : Ky) : Prop := ∀ b, hi = some b -> klt k b
structure It where
 key : Ky
 v : List UInt8
 at_ : Nat
structure Nd where
 lf : Bool
 first : Nat
 l : List It
def b16 (n : Nat) : List UInt8 := [UInt8.ofNat (n / 256), UInt8.ofNat n]
def ib (lf : Bool) (x : It) : List UInt8 := if lf then [UInt8.ofNat x.key.length, UInt8.ofNat x.v.length] ++ x.key ++ x.v else [UInt8.ofNat x.key.length] ++ x.key ++ b16 x.at_
def Nd.head (n : Nd) : List UInt8 := (if n.lf then 1 else 2) :: (b16 n.l.length ++ if n.lf then [] else b16 n.first)
def Nd.written (n : Nd) : List UInt8 := n.head ++ n.l.flatMap (ib n.lf)
def ibn (lf : Bool) (x : It) : Nat := if lf then 2 + x.key.length + x.v.length else 3 + x.key.length
def Nd.size (n : Nd) : Nat := (if n.lf then 3 else 5) + (n.l.map (ibn n.lf)).sum
theorem ib_len (lf : Bool) (x : It) : (ib lf x).length = ibn lf x := by unfold ib ibn b16; split <;> simp <;> omega
theorem ibs_len (lf : Bool) : ∀ l : List It, (l.flatMap (ib lf)).length = (l.map (ibn lf)).sum
 | [] => rfl
 | x :: l => by rw [List.flatMap_cons, List.length_append, ib_len, ibs_len lf l]; rfl
theorem Nd.head_len (n : Nd) : n.head.length = if n.lf then 3 else 5 := by unfold Nd.head b16; cases n.lf <;> simp
theorem Nd.written_len (n : Nd) : n.written.length = n.size := by
 unfold Nd.written Nd.size; rw [List.length_append, ibs_len, n.head_len]
structure It.ok (lf : Bool) (x : It) : Prop where
 k1 : 1 <= x.key.length
 k2 : x.key.length <= 96
 v : x.v.length <= 64
 at_ : x.at_ < 65536
 bare : if lf then x.at_ = 0 else x.v = []
structure Nd.ok (n : Nd) : Prop where
 few : n.l.length < 65536
 item : ∀ x ∈ n.l, x.ok n.lf
 first : n.first < 65536
 bare : n.lf = true -> n.first = 0
def r16 (b : List UInt8) : Nat := (b.getD 0 0).toNat * 256 + (b.getD 1 0).toNat
theorem r16_b16 {n : Nat} (h : n < 65536) (r : List UInt8) : r16 (b16 n ++ r) = n := by
 show (UInt8.ofNat (n / 256)).toNat * 256 + (UInt8.ofNat n).toNat = n
 rw [UInt8.toNat_ofNat', UInt8.toNat_ofNat']; omega
def rdIts (lf : Bool) : Nat -> List UInt8 -> List It
 | 0, _ => []
 | k + 1, b =>
  if lf then ⟨(b.drop 2).take (b.getD 0 0).toNat, (b.drop (2 + (b.getD 0 0).toNat)).take (b.getD 1 0).toNat, 0⟩ :: rdIts lf k (b.drop (2 + (b.getD 0 0).toNat + (b.getD 1 0).toNat))
  else ⟨(b.drop 1).take (b.getD 0 0).toNat, [], r16 (b.drop (1 + (b.getD 0 0).toNat))⟩ :: rdIts lf k (b.drop (3 + (b.getD 0 0).toNat))
theorem rd_its (lf : Bool) : ∀ (l : List It) (r : List UInt8), (∀ x ∈ l, x.ok lf) -> rdIts lf l.length (l.flatMap (ib lf) ++ r) = l
 | [], _, _ => rfl
 | x :: l, r, h => by
  have hx := h x (List.mem_cons_self ..); have ih := rd_its lf l r (fun y hy => h y (List.mem_cons_of_mem _ hy)); have hk : (UInt8.ofNat x.key.length).toNat = x.key.length := by rw [UInt8.toNat_ofNat']; have := hx.k2; omega
  have hv : (UInt8.ofNat x.v.length).toNat = x.v.length := by rw [UInt8.toNat_ofNat']; have := hx.v; omega
  have hb := hx.bare; rw [List.flatMap_cons, List.append_assoc, List.length_cons]; generalize l.flatMap (ib lf) ++ r = q at ih ⊢; obtain ⟨key, v, at_⟩ := x
  simp only at hk hv hb
  cases lf with
  | true =>
   rw [if_pos rfl] at hb; have e : ib true ⟨key, v, at_⟩ ++ q = UInt8.ofNat key.length :: UInt8.ofNat v.length :: (key ++ (v ++ q)) := by simp [ib]
   rw [e]; unfold rdIts; rw [if_pos rfl]; have g0 : ∀ z : List UInt8, (UInt8.ofNat key.length :: z).getD 0 0 = UInt8.ofNat key.length := fun _ => rfl; have g1 : ∀ (y : UInt8) (z : List UInt8), (y :: UInt8.ofNat v.length :: z).getD 1 0 = UInt8.ofNat v.length := fun _ _ => rfl; rw [g0, g1, hk, hv]
   have d2 : (UInt8.ofNat key.length :: UInt8.ofNat v.length :: (key ++ (v ++ q))).drop (2 + key.length) = v ++ q := by
    rw [show 2 + key.length = key.length + 1 + 1 by omega, List.drop_succ_cons, List.drop_succ_cons, List.drop_left]
   have d3 : (UInt8.ofNat key.length :: UInt8.ofNat v.length :: (key ++ (v ++ q))).drop (2 + key.length + v.length) = q := by
    rw [<- List.drop_drop, d2, List.drop_left]
   rw [d2, d3, ih, show (UInt8.ofNat key.length :: UInt8.ofNat v.length :: (key ++ (v ++ q))).drop 2 = key ++ (v ++ q) from rfl, List.take_left, List.take_left, hb]
  | false =>
   rw [if_neg (by decide)] at hb; have e : ib false ⟨key, v, at_⟩ ++ q = UInt8.ofNat key.length :: (key ++ (b16 at_ ++ q)) := by simp [ib]
   rw [e]; unfold rdIts; rw [if_neg (by decide)]; have g0 : ∀ z : List UInt8, (UInt8.ofNat key.length :: z).getD 0 0 = UInt8.ofNat key.length := fun _ => rfl; rw [g0, hk]
   have d2 : (UInt8.ofNat key.length :: (key ++ (b16 at_ ++ q))).drop (1 + key.length) = b16 at_ ++ q := by
    rw [show 1 + key.length = key.length + 1 by omega, List.drop_succ_cons, List.drop_left]
   have d3 : (UInt8.ofNat key.length :: (key ++ (b16 at_ ++ q))).drop (3 + key.length) = q := by
    rw [show 3 + key.length = (1 + key.length) + 2 by omega, <- List.drop_drop, d2]; rfl
   rw [d2, d3, ih, r16_b16 hx.at_, show (UInt8.ofNat key.length :: (key ++ (b16 at_ ++ q))).drop 1 = key ++ (b16 at_ ++ q) from rfl, List.take_left, hb]
def rdNd (b : List UInt8) : Nd :=
 if b.getD 0 0 = 1 then ⟨true, 0, rdIts true (r16 (b.drop 1)) (b.drop 3)⟩ else ⟨false, r16 (b.drop 3), rdIts false (r16 (b.drop 1)) (b.drop 5)⟩
theorem rd_nd {n : Nd} (h : n.ok) (r : List UInt8) : rdNd (n.written ++ r) = n := by
 have hi := rd_its n.lf n.l r h.item; obtain ⟨lf, first, l⟩ := n; unfold Nd.written; rw [List.append_assoc]
 simp only at hi ⊢
 generalize l.flatMap (ib lf) ++ r = q at hi ⊢
 cases lf with
 | true =>
  have hz := h.bare rfl
  simp only at hz
  have e : Nd.head ⟨true, first, l⟩ ++ q = 1 :: (b16 l.length ++ q) := by unfold Nd.head; simp
  have e1 : (1 :: (b16 l.length ++ q)).getD 0 0 = (1 : UInt8) := rfl; have e2 : (1 :: (b16 l.length ++ q)).drop 1 = b16 l.length ++ q := rfl; have e3 : (1 :: (b16 l.length ++ q)).drop 3 = q := rfl; rw [e]; unfold rdNd; rw [e1, if_pos rfl, e2, e3, r16_b16 h.few, hi, hz]
 | false =>
  have e : Nd.head ⟨false, first, l⟩ ++ q = 2 :: (b16 l.length ++ (b16 first ++ q)) := by unfold Nd.head; simp
  have e1 : (2 :: (b16 l.length ++ (b16 first ++ q))).getD 0 0 = (2 : UInt8) := rfl; have e2 : (2 :: (b16 l.length ++ (b16 first ++ q))).drop 1 = b16 l.length ++ (b16 first ++ q) := rfl; have e3 : (2 :: (b16 l.length ++ (b16 first ++ q))).drop 3 = b16 first ++ q := rfl; have e5 : (2 :: (b16 l.length ++ (b16 first ++ q))).drop 5 = q := rfl; rw [e]; unfold rdNd; rw [e1, if_neg (by decide), e2, e3, e5, r16_b16 h.few, r16_b16 h.first, hi]
open Classical in
/-- A page as a node, if it is one. -/
noncomputable def decP (b : List UInt8) : Option Nd := if (rdNd b).ok /\ b = pad512 (rdNd b).written /\ (rdNd b).size <= 512 then some (rdNd b) else none
theorem decP_of {n : Nd} (h : n.ok) (hs : n.size <= 512) : decP (pad512 n.written) = some n := by
 have e : rdNd (pad512 n.written) = n := rd_nd h _; unfold decP; rw [e, if_pos ⟨h, rfl, hs⟩]
theorem decP_inv {b : List UInt8} {n : Nd} (h : decP b = some n) : n.ok /\ b = pad512 n.written /\ n.size <= 512 := by
 unfold decP at h
 split at h
 ·rename_i h1
  injection h with h; rw [<- h]; exact h1
 ·cases h
section
variable {α : Type}
def insA (x : Nat × α) : List (Nat × α) -> List (Nat × α)
 | [] => [x]
 | y :: m => if x.1 < y.1 then x :: y :: m else y :: insA x m
def putA (m : List (Nat × α)) (k : Nat) (b : α) : List (Nat × α) := insA (k, b) (m.filter fun p => !decide (p.1 = k))
def getA (m : List (Nat × α)) (k : Nat) : Option α := (m.find? fun p => decide (p.1 = k)).map (·.2)
def delA (m : List (Nat × α)) (k : Nat) : List (Nat × α) := m.filter fun p => !decide (p.1 = k)
theorem getA_ins (x : Nat × α) (k : Nat) : ∀ m : List (Nat × α), (∀ p ∈ m, p.1 ≠ x.1) -> getA (insA x m) k = if k = x.1 then some x.2 else getA m k
 | [], _ => by
  unfold insA getA
  by_cases h : x.1 = k
  ·rw [List.find?_cons_of_pos (by simpa using h), if_pos h.symm]; rfl
  ·rw [List.find?_cons_of_neg (by simpa using h), if_neg (fun e => h e.symm)]
 | y :: m, hm => by
  have ih := getA_ins x k m (fun p hp => hm p (List.mem_cons_of_mem _ hp)); have hy := hm y (List.mem_cons_self ..); unfold insA
  split
  ·unfold getA
   by_cases h : x.1 = k
   ·rw [List.find?_cons_of_pos (by simpa using h), if_pos h.symm]; rfl
   ·rw [List.find?_cons_of_neg (by simpa using h), if_neg (fun e => h e.symm)]
  ·unfold getA at ih ⊢
   by_cases h : y.1 = k
   ·rw [List.find?_cons_of_pos (by simpa using h), List.find?_cons_of_pos (by simpa using h), if_neg (fun e => hy (by rw [h, e]))]
   ·rw [List.find?_cons_of_neg (by simpa using h), List.find?_cons_of_neg (by simpa using h)]; exact ih
theorem getA_del (m : List (Nat × α)) (k j : Nat) : getA (delA m k) j = if j = k then none else getA m j := by
 unfold getA delA
 induction m with
 | nil => by_cases h : j = k <;> simp [h]
 | cons p m ih =>
  by_cases hp : p.1 = k
  ·rw [List.filter_cons_of_neg (by simpa using hp), ih]
   by_cases h : j = k
   ·rw [if_pos h, if_pos h]
   ·rw [if_neg h, if_neg h, List.find?_cons_of_neg (by simp; omega)]
  ·rw [List.filter_cons_of_pos (by simpa using hp)]
   by_cases h1 : p.1 = j
   ·rw [List.find?_cons_of_pos (by simpa using h1), List.find?_cons_of_pos (by simpa using h1), if_neg (by omega)]
   ·rw [List.find?_cons_of_neg (by simpa using h1), List.find?_cons_of_neg (by simpa using h1)]; exact ih
theorem getA_put (m : List (Nat × α)) (k j : Nat) (b : α) : getA (putA m k b) j = if j = k then some b else getA m j := by
 unfold putA; rw [getA_ins (k, b) j _ (fun p hp => by simpa using (List.mem_filter.1 hp).2)]
 by_cases h : j = k
 ·rw [if_pos h, if_pos h]
 ·rw [if_neg h, if_neg h]; have := getA_del m k j; rw [if_neg h] at this; exact this
theorem getA_nil (k : Nat) : getA ([] : List (Nat × α)) k = none := rfl
def RiseA (m : List (Nat × α)) : Prop := m.Pairwise fun p q => p.1 < q.1
theorem mem_insA {x y : Nat × α} : ∀ {m : List (Nat × α)}, y ∈ insA x m ↔ y = x ∨ y ∈ m
 | [] => by simp [insA]
 | z :: m => by
  unfold insA
  split
  ·simp
  ·rw [List.mem_cons, mem_insA, List.mem_cons]
   constructor
   ·rintro (h | h | h)
    ·exact .inr (.inl h)
    ·exact .inl h
    ·exact .inr (.inr h)
   ·rintro (h | h | h)
    ·exact .inr (.inl h)
    ·exact .inl h
    ·exact .inr (.inr h)
theorem RiseA.ins {x : Nat × α} : ∀ {m : List (Nat × α)}, RiseA m -> (∀ p ∈ m, p.1 ≠ x.1) -> RiseA (insA x m)
 | [], _, _ => by simp [insA, RiseA]
 | y :: m, h, hx => by
  obtain ⟨h1, h2⟩ := List.pairwise_cons.1 h; have hy := hx y (List.mem_cons_self ..); unfold insA
  split
  ·rename_i hlt
   refine List.pairwise_cons.2 ⟨fun p hp => ?_, h⟩; rcases List.mem_cons.1 hp with rfl | hp
   ·exact hlt
   ·have := h1 p hp; omega
  ·refine List.pairwise_cons.2 ⟨fun p hp => ?_, RiseA.ins h2 (fun p hp => hx p (List.mem_cons_of_mem _ hp))⟩; rcases mem_insA.1 hp with rfl | hp
   ·omega
   ·exact h1 p hp
theorem RiseA.del {m : List (Nat × α)} (h : RiseA m) (k : Nat) : RiseA (delA m k) := List.Pairwise.filter _ h
theorem RiseA.put {m : List (Nat × α)} (h : RiseA m) (k : Nat) (b : α) : RiseA (putA m k b) := (h.del k).ins fun p hp => by simpa using (List.mem_filter.1 hp).2
theorem getA_mem {m : List (Nat × α)} {k : Nat} {b : α} (h : getA m k = some b) : (k, b) ∈ m := by
 unfold getA at h; obtain ⟨p, hp, rfl⟩ := Option.map_eq_some_iff.1 h; have h1 := List.find?_some hp; have h2 := List.mem_of_find?_eq_some hp; simp only [decide_eq_true_eq] at h1; rw [<- h1]; exact h2
end
end
end Go.Proofs.YtpjbdpepofnleaaGreat
