/-
  Joined by join.py: Of Og Oh
-/
import Derived.Test.YtpjbdpepofnleaaGreatJpl14
set_option maxRecDepth 100000
set_option maxHeartbeats 32000000
namespace Go.Proofs.YtpjbdpepofnleaaGreat
section
open Go.RowKit Go.Sort Go.Shelf
def KRise (l : List It) : Prop := l.Pairwise fun x y => klt x.key y.key
theorem enter_way1 (vs : Array Value) (w : World) : (callFunc 104 vs).run Tryz.prog w = .ok (.enter 104 vs) w := by kernel_rfl
theorem enter_place1 (vs : Array Value) (w : World) : (callFunc 77 vs).run Tryz.prog w = .ok (.enter 77 vs) w := by kernel_rfl
theorem mono_of {f : It -> Bool} {l : List It} (h : l.Pairwise (fun x y => f x = true -> f y = true)) : ∀ a b, a <= b -> b < l.length -> ((l[a]?).map f).getD false = true -> ((l[b]?).map f).getD false = true := by
 intro a b hab hb ha; rcases Nat.lt_or_eq_of_le hab with hlt | rfl
 ·have h1 := List.pairwise_iff_getElem.1 h a b (by omega) hb hlt; rw [List.getElem?_eq_getElem (by omega)] at ha; rw [List.getElem?_eq_getElem hb]; exact h1 ha
 ·exact ha
/-- Which child a key belongs to. -/
theorem way_nd {D : Nat -> Prop} {w : World} {base gk : Nat} {v kv : Value} {n : Nd} {key : Ky} (h : NdV D w base v n) (hkb : BytesAt w kv key gk) (hs : KRise n.l) (hfew : n.l.length <= 65536) :
  Calls Tryz.prog 73 #[v, kv] w fun e w' => e = .returned (.int .i64 ((n.way key : Nat) : Int)) /\ Fr [] w w' := by
 obtain ⟨A, c, cs, rfl, hc, hown, hits, hcell⟩ := h.parts; clear h; obtain ⟨wb, hwb⟩ := nm ((w.alloc (.cells #[.int .i64 (kindOf n), .int .i64 (n.first : Int), .slice A n.l.length c] 88)).alloc (.cells #[kv] 23)); have hf0 : Fr [] w wb := by rw [hwb]; exact ((Fr.refl [] w).alloc _).alloc _
 have b1 : Blk wb w.heap.size 88 [.int .i64 (kindOf n), .int .i64 (n.first : Int), .slice A n.l.length c] := by
  rw [hwb]; exact (Blk.new w _ [.int .i64 (kindOf n), .int .i64 (n.first : Int), .slice A n.l.length c]).alloc _
 have b2 : Blk wb (w.heap.size + 1) 23 [kv] := by
  rw [hwb]; have := Blk.new (w.alloc (.cells #[.int .i64 (kindOf n), .int .i64 (n.first : Int), .slice A n.l.length c] 88)) 23 [kv]
  rwa [World.size_alloc] at this
 have hsr := search_fr (w := wb) (g := 104) (cb := #[.pointer (some ⟨w.heap.size, 0, none⟩), .pointer (some ⟨w.heap.size + 1, 0, none⟩)]) (n := n.l.length) (fun i => ((n.l[i]?).map fun x => decide (klt key x.key)).getD false) enter_way1 hfew
  (fun w' hf i hi => by
   obtain ⟨x, hx⟩ := gx hi; obtain ⟨ikv, ivv, iav, c0, c1, c2, hic⟩ := hits.at_ hx; obtain ⟨g, rfl, hcg⟩ := hcell (by omega); obtain ⟨gi, hgi, _⟩ := hic.1; rw [hx]; exact way_clos (b1.fr hf (by simp) |>.at_ (i := 2) rfl) ((b2.fr hf (by simp)).at_ (i := 0) rfl) ((hkb.fr hf0 (by simp)).fr hf (by simp)) (fr_keep (hf0.trans hf (by simp)) (hcg _ _ c0)) ((hgi.fr hf0 (by simp)).fr hf (by simp)) hi hfew)
  (mono_of (hs.imp fun {x y} hxy hx => by
   rw [decide_eq_true_iff] at hx ⊢; exact klt_trans hx hxy))
 rw [count_while (f := fun x => decide (klt key x.key)) (hs.imp fun {x y} hxy hx => by
   rw [decide_eq_true_iff] at hx ⊢; exact klt_trans hx hxy)] at hsr
 have HS := lh hsr; have HF := lh hf0; have e : (n.l.takeWhile fun x => !decide (klt key x.key)).length = n.way key := rfl; rw [<- e]; clear hsr hf0 b1 b2 hits hown hcell e; obtain ⟨Ak, ck, ok, rfl, _, _⟩ := hkb
 go_enter Tryz.func73, Tryz.ntmps73
 go_wp2_with fail; rw [<- hwb]; refine HS.out.mono ?_; rintro e w' ⟨rfl, hf⟩; have HF' := lh (HF.out.trans hf (by simp)); clear hf HS HF
 go_wp2
 go_ret
 exact ⟨rfl, HF'.out⟩
theorem place_clos {w : World} {bn bk g i n c gk gi : Nat} {kv iv : Value} {key ik : Ky} (h2 : w.cell? ⟨bn, 2, none⟩ = some (.slice (some ⟨g, 0, none⟩) n c)) (hk : w.cell? ⟨bk, 0, none⟩ = some kv) (hkb : BytesAt w kv key gk)
  (hi : w.cell? ⟨g, i * 3, none⟩ = some iv) (hib : BytesAt w iv ik gi) (hin : i < n) (_hn : n <= 65536) :
  Calls Tryz.prog 77 (#[.int .i64 (i : Int)] ++ #[.pointer (some ⟨bn, 0, none⟩), .pointer (some ⟨bk, 0, none⟩)]) w fun e w' => e = .returned (.bool (!decide (klt ik key))) /\ ∃ q, w' = w.drewN q := by
 have r1 : Hid (∀ nq, Calls Tryz.prog 78 #[iv, kv] (w.drewN nq) fun e w' => e = .returned (.int .i64 (Lib.compareBytes ik key)) /\ ∃ m, w' = w.drewN m) := lh fun nq => Calls.quiet_of_same (by
  have h := bytes_compare (hib.fr ((Fr.refl [] w).drewN nq) (by simp)) (hkb.fr ((Fr.refl [] w).drewN nq) (by simp)); exact h.mono fun e w' ⟨h1, h2⟩ => ⟨h1, h2.symm⟩)
 have HCP := lh (cmp_nonneg ik key); obtain ⟨Ak, ck, ok, rfl, _, _⟩ := hkb; obtain ⟨Ai, ci, oi, rfl, _, _⟩ := hib; generalize Lib.compareBytes ik key = cb at *; have hz : (i : Int) < (n : Int) := by omega
 go_enter Tryz.func77, Tryz.ntmps77
 go_wp2
 go_quiet (first | with_reducible exact r1.out _)
 go_wp2
 go_ret
 exact ⟨by rw [<- HCP.out]; rfl, _, rfl⟩
theorem place_head {l : List It} {key : Ky} : placeOf l key < l.length /\ (∃ x, l[placeOf l key]? = some x /\ isAt l key = decide (x.key = key)) ∨ placeOf l key = l.length /\ isAt l key = false := by
 unfold placeOf isAt; have h := List.takeWhile_append_dropWhile (p := fun y => decide (klt y.key key)) (l := l); generalize l.takeWhile (fun y => decide (klt y.key key)) = A at *; generalize l.dropWhile (fun y => decide (klt y.key key)) = B at *; subst h
 cases B with
 | nil => exact .inr ⟨by simp, rfl⟩
 | cons y B => exact .inl ⟨by simp, y, by simp, rfl⟩
/-- Where a key is, or would be. -/
theorem place_nd {D : Nat -> Prop} {w : World} {base gk : Nat} {v kv : Value} {n : Nd} {key : Ky} (h : NdV D w base v n) (hkb : BytesAt w kv key gk) (hs : KRise n.l) (hfew : n.l.length <= 65536) :
  Calls Tryz.prog 40 #[v, kv] w fun e w' => e = .returned (.tuple #[.int .i64 ((placeOf n.l key : Nat) : Int), .bool (isAt n.l key)]) /\ Fr [] w w' := by
 obtain ⟨A, c, cs, rfl, hc, hown, hits, hcell⟩ := h.parts; clear h; obtain ⟨wb, hwb⟩ := nm ((w.alloc (.cells #[.int .i64 (kindOf n), .int .i64 (n.first : Int), .slice A n.l.length c] 88)).alloc (.cells #[kv] 23)); have hf0 : Fr [] w wb := by rw [hwb]; exact ((Fr.refl [] w).alloc _).alloc _
 have b1 : Blk wb w.heap.size 88 [.int .i64 (kindOf n), .int .i64 (n.first : Int), .slice A n.l.length c] := by
  rw [hwb]; exact (Blk.new w _ [.int .i64 (kindOf n), .int .i64 (n.first : Int), .slice A n.l.length c]).alloc _
 have b2 : Blk wb (w.heap.size + 1) 23 [kv] := by
  rw [hwb]; have := Blk.new (w.alloc (.cells #[.int .i64 (kindOf n), .int .i64 (n.first : Int), .slice A n.l.length c] 88)) 23 [kv]
  rwa [World.size_alloc] at this
 have hmo : n.l.Pairwise fun x y => (!decide (klt x.key key)) = true -> (!decide (klt y.key key)) = true := hs.imp fun {x y} hxy hx => by
   rw [Bool.not_eq_true', decide_eq_false_iff_not] at hx ⊢; exact fun hy => hx (klt_trans hxy hy)
 have hsr := search_fr (w := wb) (g := 77) (cb := #[.pointer (some ⟨w.heap.size, 0, none⟩), .pointer (some ⟨w.heap.size + 1, 0, none⟩)]) (n := n.l.length) (fun i => ((n.l[i]?).map fun x => !decide (klt x.key key)).getD false) enter_place1 hfew
  (fun w' hf i hi => by
   obtain ⟨x, hx⟩ := gx hi; obtain ⟨ikv, ivv, iav, c0, c1, c2, hic⟩ := hits.at_ hx; obtain ⟨g, rfl, hcg⟩ := hcell (by omega); obtain ⟨gi, hgi, _⟩ := hic.1; rw [hx]; exact place_clos (b1.fr hf (by simp) |>.at_ (i := 2) rfl) ((b2.fr hf (by simp)).at_ (i := 0) rfl) ((hkb.fr hf0 (by simp)).fr hf (by simp)) (fr_keep (hf0.trans hf (by simp)) (hcg _ _ c0)) ((hgi.fr hf0 (by simp)).fr hf (by simp)) hi hfew)
  (mono_of hmo)
 rw [count_while (f := fun x => !decide (klt x.key key)) hmo] at hsr; have e : (n.l.takeWhile fun x => !!decide (klt x.key key)).length = placeOf n.l key := by unfold placeOf; simp only [Bool.not_not]
 rw [e] at hsr; have HS := lh hsr; have HF := lh hf0; have HB1 := lh b1; have HB2 := lh b2; have HC := lh hcell; have HI := lh hits; have HKB := lh (hkb.fr hf0 (by simp)); have hpl := place_head (l := n.l) (key := key); have HPL := lh hpl; generalize placeOf n.l key = k at *; generalize isAt n.l key = is at *; clear hsr hf0 b1 b2 hits hown hcell e hmo hpl; obtain ⟨Ak, ck, ok, rfl, _, _⟩ := hkb
 go_enter Tryz.func40, Tryz.ntmps40
 go_wp2_with fail; rw [<- hwb]; refine HS.out.mono ?_; rintro e w' ⟨rfl, hf⟩; have HF' := lh (HF.out.trans hf (by simp)); have hb1 := HB1.out.fr hf (by simp); have hb2 := HB2.out.fr hf (by simp); have k2 := hb1.at_ (i := 2) rfl; have kk := hb2.at_ (i := 0) rfl; have HKB' := lh (HKB.out.fr hf (by simp)); rcases HPL.out with ⟨hlt, x, hx, rfl⟩ | ⟨rfl, rfl⟩
 ·obtain ⟨ikv, ivv, iav, c0, c1, c2, hic⟩ := HI.out.at_ hx; obtain ⟨g, rfl, hcg⟩ := HC.out (by omega); obtain ⟨gi, hgi, _⟩ := hic.1; have ki := fr_keep HF'.out (hcg _ _ c0)
  have r1 : Hid (∀ nq, Calls Tryz.prog 79 #[ikv, .slice Ak key.length ck] (w'.drewN nq) fun e w'' => e = .returned (.bool (decide (x.key = key))) /\ ∃ m, w'' = w'.drewN m) := lh fun nq => Calls.quiet_of_same (by
   have h := bytes_equal ((hgi.fr HF'.out (by simp)).fr ((Fr.refl [] w').drewN nq) (by simp)) (HKB'.out.fr ((Fr.refl [] w').drewN nq) (by simp)); exact h.mono fun e w' ⟨h1, h2⟩ => ⟨h1, h2.symm⟩)
  have hz1 : (k : Int) < (n.l.length : Int) := by omega
  obtain ⟨Ai, ci, oi, rfl, _, _⟩ := hgi; clear hf hb1 hb2 hcg hic hx HPL HI HC HS HF HB1 HB2 HKB HKB' c0 c1 c2; generalize hdd : decide (x.key = key) = is at *; have HDD := lh hdd; clear hdd; go_wp2_with fail
  go_quiet (first | with_reducible exact r1.out _)
  go_wp2
  go_ret2
  exact ⟨by rw [HDD.out]; rfl, HF'.out.drewN _⟩
 ·have hz1 : ¬ ((n.l.length : Int) < (n.l.length : Int)) := by omega
  clear hf hb1 hb2 HPL HI HC HS HF HB1 HB2 HKB HKB'; go_wp2_with fail
  go_quiet (first | fail)
  go_wp2
  go_ret2
  exact ⟨rfl, HF'.out.drewN _⟩
/-- How many bytes an item takes. -/
theorem bytes_it {w : World} {a b : Value} (n : Nd) {kv vv av : Value} {x : It} {gk gv : Nat} (hk : BytesAt w kv x.key gk) (hv : BytesAt w vv x.v gv) (h1 : x.key.length <= 65536) (h2 : x.v.length <= 65536) (ha : av = .int .i64 (x.at_ : Int)) :
  Calls Tryz.prog 123 #[.agg #[.int .i64 (kindOf n), a, b], .agg #[kv, vv, av]] w fun e w' => e = .returned (.int .i64 ((ibn n.lf x : Nat) : Int)) /\ Fr [] w w' := by
 obtain ⟨Ak, ck, ok, rfl, _, _⟩ := hk; obtain ⟨Av, cv, ov, rfl, _, _⟩ := hv; subst ha; have hw1 : IntKind.i64.wrap (2 + (x.key.length : Int)) = 2 + (x.key.length : Int) := by rw [IntKind.wrap_i64]; omega
 have hw2 : IntKind.i64.wrap (2 + (x.key.length : Int) + (x.v.length : Int)) = 2 + (x.key.length : Int) + (x.v.length : Int) := by rw [IntKind.wrap_i64]; omega
 have hw3 : IntKind.i64.wrap (3 + (x.key.length : Int)) = 3 + (x.key.length : Int) := by rw [IntKind.wrap_i64]; omega
 have hf : Fr [] w ((((w.alloc (.cells #[.int .i64 (kindOf n), a, b] 88)).alloc (.cells #[.slice Ak x.key.length ck, .slice Av x.v.length cv, .int .i64 (x.at_ : Int)] 77))).alloc (.cells #[.int .i64 (kindOf n), a, b] 88)) := (((Fr.refl [] w).alloc _).alloc _).alloc _; have HF := lh hf; have HL := lh (leaf_any ((w.alloc (.cells #[.int .i64 (kindOf n), a, b] 88)).alloc (.cells #[.slice Ak x.key.length ck, .slice Av x.v.length cv, .int .i64 (x.at_ : Int)] 77)) (kindOf n) a b); clear hf h1 h2
 cases hlf : n.lf with
 | true =>
  have hkn : kindOf n = 1 := by unfold kindOf; rw [hlf]; rfl
  rw [hkn] at HF HL; rw [hkn]; clear hkn hlf
  go_enter Tryz.func123, Tryz.ntmps123
  go_wp2_with fail; refine HL.out.mono ?_; rintro e w' ⟨rfl, rfl⟩
  go_wp2
  go_ret
  exact ⟨by unfold ibn; simp, HF.out⟩
 | false =>
  have hkn : kindOf n = 2 := by unfold kindOf; rw [hlf]; rfl
  rw [hkn] at HF HL; rw [hkn]; clear hkn hlf
  go_enter Tryz.func123, Tryz.ntmps123
  go_wp2_with fail; refine HL.out.mono ?_; rintro e w' ⟨rfl, rfl⟩
  go_wp2
  go_ret
  exact ⟨by unfold ibn; simp, HF.out⟩
def SizeRel (wb : World) (n : Nd) (b0 : Nat) (v3 v14 : Value) (wr : World) : Prop := ∃ k S : Nat, k <= n.l.length /\ v14 = .int .i64 (k : Int) /\ v3 = .int .i64 (S : Int) /\ S = b0 + sumB n.lf (n.l.take k) /\ Fr [] wb wr
theorem base_nd (n : Nd) : (3 : Int) + 2 * (kindOf n - 1) = ((if n.lf then 3 else 5 : Nat) : Int) := by unfold kindOf; cases n.lf <;> rfl
theorem ibn_small {n : Nd} (h : n.ok) {x : It} (hx : x ∈ n.l) : ibn n.lf x <= 162 := by
 have := ibn_le (h.item x hx)
 split at this <;> omega
theorem take_next {l : List It} {k : Nat} {x : It} (hx : l[k]? = some x) : l.take (k + 1) = l.take k ++ [x] := by
 obtain ⟨h1, h2⟩ := List.getElem?_eq_some_iff.1 hx; rw [List.take_succ_eq_append_getElem h1, h2]
theorem sumB_next {lf : Bool} {l : List It} {k : Nat} {x : It} (hx : l[k]? = some x) : sumB lf (l.take (k + 1)) = sumB lf (l.take k) + ibn lf x := by
 rw [take_next hx, sumB_append]; rfl
/-- How many bytes a node takes. -/
theorem size_fn {D : Nat -> Prop} {w : World} {base : Nat} {v : Value} {n : Nd} (h : NdV D w base v n) (hok : n.ok) (hsz : n.size <= 65536) :
  Calls Tryz.prog 102 #[v] w fun e w' => e = .returned (.int .i64 ((n.size : Nat) : Int)) /\ Fr [] w w' := by
 obtain ⟨A, c, cs, rfl, hc, hown, hits, hcell⟩ := h.parts; clear h; obtain ⟨wb, hwb⟩ := nm (w.alloc (.cells #[.int .i64 (kindOf n), .int .i64 (n.first : Int), .slice A n.l.length c] 88)); have hf0 : Fr [] w wb := by rw [hwb]; exact (Fr.refl [] w).alloc _
 have hb : Blk wb w.heap.size 88 [.int .i64 (kindOf n), .int .i64 (n.first : Int), .slice A n.l.length c] := by rw [hwb]; exact Blk.new w _ [.int .i64 (kindOf n), .int .i64 (n.first : Int), .slice A n.l.length c]
 have hw1 : IntKind.i64.wrap (kindOf n - 1) = kindOf n - 1 := by rw [IntKind.wrap_i64]; unfold kindOf; split <;> omega
 have hw2 : IntKind.i64.wrap (2 * (kindOf n - 1)) = 2 * (kindOf n - 1) := by rw [IntKind.wrap_i64]; unfold kindOf; split <;> omega
 have hw3 : IntKind.i64.wrap (3 + 2 * (kindOf n - 1)) = ((if n.lf then 3 else 5 : Nat) : Int) := by rw [IntKind.wrap_i64, base_nd]; split <;> omega
 generalize hb0 : (if n.lf then 3 else 5 : Nat) = b0 at *; have HB0 := lh hb0; have HS : Hid (n.size = b0 + sumB n.lf n.l) := lh (by rw [size_eq, hb0]); have HSZ := lh hsz; have k0 := hb.at_ (i := 0) rfl; have k1 := hb.at_ (i := 1) rfl; have k2 := hb.at_ (i := 2) rfl; have HB := lh hb; have HF0 := lh hf0; have HC := lh hcell; have HI := lh hits; have HOK := lh hok; have HWB := lh hwb; clear hb0 hb hf0 hcell hits hown hok hsz
 go_enter Tryz.func102, Tryz.ntmps102
 go_wp2_with fail; rw [<- hwb]
 go_loopw [3, 14] (SizeRel wb n b0) (fun _ v _ => n.l.length - (intOf v).toNat)
 case atStart => exact ⟨0, b0, Nat.zero_le _, rfl, rfl, by simp [sumB], Fr.refl _ _⟩
 case round =>
  obtain ⟨k, S, hk, rfl, rfl, hS, hfr⟩ := hrel; have HSS := lh hS; clear hS; clear k0 k1 k2; have hb := HB.out.fr hfr (by simp); have k0 := hb.at_ (i := 0) rfl; have k1 := hb.at_ (i := 1) rfl; have k2 := hb.at_ (i := 2) rfl; have HFR := lh hfr; have HBR := lh hb; have hcmp : ((k : Int) < (n.l.length : Int)) ↔ k < n.l.length := by omega
  clear hb hfr
  by_cases hkn : k < n.l.length
  ·obtain ⟨x, hx⟩ := gx hkn; have hxm := List.mem_of_getElem? hx; obtain ⟨kv, vv, av, c0, c1, c2, hic⟩ := HI.out.at_ hx; obtain ⟨g, rfl, hcg⟩ := HC.out (by omega); have hfw := HF0.out.trans HFR.out (by simp); have i0 := fr_keep hfw (hcg _ _ c0); have i1 := fr_keep hfw (hcg _ _ c1); have i2 := fr_keep hfw (hcg _ _ c2); have HIC := lh (hic.fr hfw (by simp)); have HON := lh hic.one; have HIB := lh (ibn_small HOK.out hxm); have HXO := lh (HOK.out.item x hxm); have HNX := lh (sumB_next (lf := n.lf) hx); have HLE : Hid (sumB n.lf (n.l.take (k + 1)) <= sumB n.lf n.l) := lh (by have := sumB_take n.lf n.l (k + 1); omega); clear hx hxm hcg hic hfw c0 c1 c2
   go_wp2_with (first
    | (with_reducible refine wpList_alloc_z rfl 77 rfl (.agg #[.slice none 0 0, .slice none 0 0, .int .i64 0]) zit.toArray zero_it rfl ?_)
    | (refine wpList_store_z (W := wr) rfl 77 (.tmp 5) (.tmp 17) rfl [kv, vv, av] rfl rfl rfl size_it rfl HON.out ?_))
   intro w3 hb3 hf3 hz3; have hb1 := HBR.out.fr hf3 (by simp); have HIC3 := lh (HIC.out.fr hf3 (by simp)); have HF3 := lh (HFR.out.trans hf3 (by simp)); have HB1 := lh hb1; have HB3 := lh hb3; obtain ⟨⟨gk, hgk, _⟩, ⟨gv, hgv, _⟩, hav⟩ := HIC3.out; have HR := lh (bytes_it (w := w3) (a := .int .i64 (n.first : Int)) (b := .slice (some ⟨g, 0, none⟩) n.l.length c) n hgk hgv (by have := HXO.out.k2; omega) (by have := HXO.out.v; omega) hav); clear hb1 hb3 hf3 hz3 i0 i1 i2 HIC HIC3 HFR hgk hgv hav; clear k0 k1 k2
   go_wp2_with (first
    | (refine wpL_load rfl 88 (.tmp 1) rfl rfl HB1.out Tryz.underlying88 rfl size_nd ?_)
    | (refine wpL_load rfl 77 (.tmp 5) rfl rfl HB3.out Tryz.underlying77 rfl size_it ?_))
   refine HR.out.mono ?_; rintro e w4 ⟨rfl, hf4⟩
   have hw : IntKind.i64.wrap ((S : Int) + ((ibn n.lf x : Nat) : Int)) = (S : Int) + ((ibn n.lf x : Nat) : Int) := by
    have h1 := HNX.out; have h2 := HLE.out; have h3 := HS.out; have h4 := HSZ.out; have h5 := HSS.out; rw [IntKind.wrap_i64]; omega
   have hwk : IntKind.i64.wrap ((k : Int) + 1) = (k : Int) + 1 := by
    have h1 := HOK.out.few; rw [IntKind.wrap_i64]; omega
   have HX : Hid (SizeRel wb n b0 (.int .i64 ((S : Int) + ((ibn n.lf x : Nat) : Int))) (.int .i64 ((k : Int) + 1)) w4) := lh ⟨k + 1, S + ibn n.lf x, hkn, rfl, rfl, by rw [HNX.out, HSS.out]; omega, HF3.out.trans hf4 (by simp)⟩; clear hf4 HF3 HB1 HB3 HR HON hk; generalize ibn n.lf x = s1 at *; go_wp2_with fail
   go_roundw
   case rel => exact HX.out
   case measure => simp [intOf]; omega
  ·obtain rfl : k = n.l.length := by omega
   have e : S = n.size := by rw [HSS.out, List.take_of_length_le (Nat.le_refl _), HS.out]
   subst e; have HX : Hid (Fr [] w wr) := lh (HF0.out.trans HFR.out (by simp)); clear k0 k1 k2
   go_wp2
   go_ret
   exact ⟨rfl, HX.out⟩
theorem enter_bytes (vs : Array Value) (w : World) : (callFunc 123 vs).run Tryz.prog w = .ok (.enter 123 vs) w := by kernel_rfl
def HalfRel (wb : World) (n : Nd) (v4 v5 : Value) (wr : World) : Prop := ∃ k S : Nat, k <= n.l.length - 1 /\ v4 = .int .i64 (k : Int) /\ v5 = .int .i64 (S : Int) /\ S = sumB n.lf (n.l.take k) /\ halfGo n.lf (n.size - 3) n.l 0 0 = halfGo n.lf (n.size - 3) (n.l.drop k) k S /\ Fr [] wb wr
/-- The item behind which about half a node's bytes are. -/
theorem half_fn {D : Nat -> Prop} {w : World} {base : Nat} {v : Value} {n : Nd} (h : NdV D w base v n) (hok : n.ok) (hsz : n.size <= 65536) :
  Calls Tryz.prog 124 #[v] w fun e w' => e = .returned (.int .i64 ((n.half : Nat) : Int)) /\ Fr [] w w' := by
 obtain ⟨A, c, cs, rfl, hc, hown, hits, hcell⟩ := h.parts; obtain ⟨wb, hwb⟩ := nm (w.alloc (.cells #[.int .i64 (kindOf n), .int .i64 (n.first : Int), .slice A n.l.length c] 88)); have hf0 : Fr [] w wb := by rw [hwb]; exact (Fr.refl [] w).alloc _
 have hb : Blk wb w.heap.size 88 [.int .i64 (kindOf n), .int .i64 (n.first : Int), .slice A n.l.length c] := by rw [hwb]; exact Blk.new w _ [.int .i64 (kindOf n), .int .i64 (n.first : Int), .slice A n.l.length c]
 have HSF := lh (size_fn (h.fr hf0 (by simp)) hok hsz); have h3 : 3 <= n.size := by rw [size_eq]; split <;> omega
 have HSZ := lh (And.intro hsz h3); have HSE : Hid (sumB n.lf n.l <= n.size) := lh (by rw [size_eq]; omega); have k0 := hb.at_ (i := 0) rfl; have k1 := hb.at_ (i := 1) rfl; have k2 := hb.at_ (i := 2) rfl; have HB := lh hb; have HF0 := lh hf0; have HC := lh hcell; have HI := lh hits; have HOK := lh hok; have hw3 : IntKind.i64.wrap ((n.size : Int) - 3) = (n.size : Int) - 3 := by rw [IntKind.wrap_i64]; omega
 have hwl : IntKind.i64.wrap ((n.l.length : Int) - 1) = (n.l.length : Int) - 1 := by have := hok.few; rw [IntKind.wrap_i64]; omega
 clear hb hf0 hcell hits hown hok hsz h h3
 go_enter Tryz.func124, Tryz.ntmps124
 go_wp2_with fail; rw [<- hwb]; refine HSF.out.mono ?_; rintro e w1 ⟨rfl, hf1⟩; have HF1 := lh (HF0.out.trans hf1 (by simp)); have HB1 := lh (HB.out.fr hf1 (by simp)); clear hf1 HSF HF0 HB k0 k1 k2; go_wp2_with fail
 go_loopw [4, 5] (HalfRel w1 n) (fun v _ _ => n.l.length - (intOf v).toNat)
 case atStart => exact ⟨0, 0, Nat.zero_le _, rfl, rfl, by simp [sumB], rfl, Fr.refl _ _⟩
 case round =>
  obtain ⟨k, S, hk, rfl, rfl, hS, hgo, hfr⟩ := hrel; have hb := HB1.out.fr hfr (by simp); have k0 := hb.at_ (i := 0) rfl; have k1 := hb.at_ (i := 1) rfl; have k2 := hb.at_ (i := 2) rfl; have HFR := lh hfr; have HBR := lh hb; have HGO := lh hgo
  have hSle : S <= 65536 := by
   have h1 := sumB_take n.lf n.l k; have h2 := HSE.out; have h3 := HSZ.out; omega
  have HSS := lh hS; have hw2 : IntKind.i64.wrap (2 * (S : Int)) = 2 * (S : Int) := by rw [IntKind.wrap_i64]; omega
  clear hb hfr hS hgo
  by_cases hgn : k < n.l.length - 1 /\ 2 * S < n.size - 3
  ·obtain ⟨hkn, hlt⟩ := hgn; obtain ⟨x, hx⟩ : ∃ x, n.l[k]? = some x := gx (by omega); have hxm := List.mem_of_getElem? hx; obtain ⟨kv, vv, av, c0, c1, c2, hic⟩ := HI.out.at_ hx; obtain ⟨g, rfl, hcg⟩ := HC.out (by omega); have hfw := HF1.out.trans HFR.out (by simp); have i0 := fr_keep hfw (hcg _ _ c0); have i1 := fr_keep hfw (hcg _ _ c1); have i2 := fr_keep hfw (hcg _ _ c2); have hib := ibn_small HOK.out hxm; have hxo := HOK.out.item x hxm; have hnx := sumB_next (lf := n.lf) hx
   have hst : halfGo n.lf (n.size - 3) (n.l.drop k) k S = halfGo n.lf (n.size - 3) (n.l.drop (k + 1)) (k + 1) (S + ibn n.lf x) := by
    obtain ⟨h1, h2⟩ := List.getElem?_eq_some_iff.1 hx; have h3 : n.l.drop k = x :: n.l.drop (k + 1) := by rw [List.drop_eq_getElem_cons h1, h2]
    have h4 : n.l.drop (k + 1) ≠ [] := by intro e; have := List.drop_eq_nil_iff.1 e; omega
    rw [h3]; generalize n.l.drop (k + 1) = q at *
    cases q with
    | nil => exact absurd rfl h4
    | cons y q => rw [halfGo, if_pos hlt]
   have hic' := hic.fr hfw (by simp); obtain ⟨⟨gk, hgk, _⟩, ⟨gv, hgv, _⟩, hav⟩ := hic'
   have r1 : Hid (∀ nq, Calls Tryz.prog 123 #[.agg #[.int .i64 (kindOf n), .int .i64 (n.first : Int), .slice (some ⟨g, 0, none⟩) n.l.length c], .agg #[kv, vv, av]] (wr.drewN nq) fun e w'' => e = .returned (.int .i64 ((ibn n.lf x : Nat) : Int)) /\ Fr [] wr w'') := lh fun nq =>
    (bytes_it n (hgk.fr ((Fr.refl [] wr).drewN nq) (by simp)) (hgv.fr ((Fr.refl [] wr).drewN nq) (by simp)) (by have := hxo.k2; omega) (by have := hxo.v; omega) hav).mono fun e w'' ⟨h1, h2⟩ => ⟨h1, ((Fr.refl [] wr).drewN nq).trans h2 (by simp)⟩
   have hw : IntKind.i64.wrap ((S : Int) + ((ibn n.lf x : Nat) : Int)) = (S : Int) + ((ibn n.lf x : Nat) : Int) := by rw [IntKind.wrap_i64]; omega
   have hwk : IntKind.i64.wrap ((k : Int) + 1) = (k : Int) + 1 := by
    have h1 := HOK.out.few; rw [IntKind.wrap_i64]; omega
   have g1 : (k : Int) < (n.l.length : Int) - 1 := by omega
   have g2 : 2 * (S : Int) < (n.size : Int) - 3 := by have := HSZ.out.2; omega
   have g3 : (k : Int) < (n.l.length : Int) := by omega
   have HX : Hid (∀ w4, Fr [] wr w4 -> HalfRel w1 n (.int .i64 ((k : Int) + 1)) (.int .i64 ((S : Int) + ((ibn n.lf x : Nat) : Int))) w4) := lh fun w4 hf4 => ⟨k + 1, S + ibn n.lf x, by omega, rfl, rfl, by rw [hnx, HSS.out], by rw [HGO.out, hst], HFR.out.trans hf4 (by simp)⟩; have hlk : n.l.length - k > 0 := by omega
   obtain ⟨Ak, ck, ok, rfl, _, _⟩ := hgk; obtain ⟨Av, cv, ov, rfl, _, _⟩ := hgv; subst hav; have HNK := lh g3; clear hx hxm hcg hic hfw c0 c1 c2 hst hnx hib hxo hlt; generalize ibn n.lf x = s1 at *; go_wp2_with fail; refine wp_region_K (fun W => W.cell? ⟨w.heap.size, 0, none⟩ = some (.int .i64 (kindOf n)) /\ W.cell? ⟨w.heap.size, 1, none⟩ = some (.int .i64 (n.first : Int)) /\ W.cell? ⟨w.heap.size, 2, none⟩ = some (.slice (some ⟨g, 0, none⟩) n.l.length c) /\ W.cell? ⟨g, k * 3, none⟩ = some (.slice Ak x.key.length ck) /\ W.cell? ⟨g, k * 3 + 1, none⟩ = some (.slice Av x.v.length cv) /\ W.cell? ⟨g, k * 3 + 2, none⟩ = some (.int .i64 (x.at_ : Int))) [0, 1, 2, 3, 4, 5, 6, 8] (by kernel_rfl) ?_; refine tks [0, 1, 2, 3, 4, 5, 6] ?_
   iterate 7 (refine tk rfl rfl ⟨k0, k1, k2, i0, i1, i2⟩ rfl (fun _ hW => by (obtain ⟨q0, q1, q2, q3, q4, q5⟩ := hW; go_simp) <;> with_reducible rfl) ?_; simp only [nrm])
   refine tke ?_; refine sp 7 rfl rfl rfl fun K hK => ?_; refine wp_call_f (l := [.tmp 22, .tmp 27]) rfl [.agg #[.int .i64 (kindOf n), .int .i64 (n.first : Int), .slice (some ⟨g, 0, none⟩) n.l.length c], .agg #[.slice Ak x.key.length ck, .slice Av x.v.length cv, .int .i64 (x.at_ : Int)]] rfl (enter_bytes _) ((r1.out 1).mono ?_); rintro e w4 ⟨rfl, hf4⟩; refine ⟨_, rfl, hK _ _ (fun _ => ⟨fr_keep hf4 k0, fr_keep hf4 k1, fr_keep hf4 k2, fr_keep hf4 i0, fr_keep hf4 i1, fr_keep hf4 i2⟩) ?_⟩; simp only [nrm]; clear hK; refine tks [8] ?_; refine tk rfl rfl ⟨fr_keep hf4 k0, fr_keep hf4 k1, fr_keep hf4 k2, fr_keep hf4 i0, fr_keep hf4 i1, fr_keep hf4 i2⟩ rfl (fun _ _ => by go_simp <;> with_reducible rfl) ?_; simp only [nrm]; refine tke ?_; refine sp 9 rfl rfl rfl fun K hK => ?_; refine wp_run_same (v := ?aq1_9) ?yq1_9 (hK _ _ (fun h => absurd h (by decide +kernel)) ?_)
   case yq1_9 => go_simp <;> with_reducible rfl
   simp only [nrm]; refine wd ?_ _; have HX4 := lh (HX.out w4 hf4); clear hf4 r1 HX; go_wp2_with fail
   go_roundw
   case rel => exact HX4.out
   case measure => simp [intOf]; omega
  ·have hhalf : n.half = max k 1 := by
    unfold Nd.half; rw [HGO.out]
    congr 1
    by_cases hkn : k < n.l.length - 1
    ·have hlt : ¬ 2 * S < n.size - 3 := fun h => hgn ⟨hkn, h⟩; obtain ⟨x, hx⟩ : ∃ x, n.l[k]? = some x := gx (by omega); obtain ⟨h1, h2⟩ := List.getElem?_eq_some_iff.1 hx; have h3 : n.l.drop k = x :: n.l.drop (k + 1) := by rw [List.drop_eq_getElem_cons h1, h2]
     rw [h3]; generalize n.l.drop (k + 1) = q
     cases q with
     | nil => rfl
     | cons y q => rw [halfGo, if_neg hlt]
    ·have h3 : (n.l.drop k).length <= 1 := by rw [List.length_drop]; omega
     generalize n.l.drop k = q at *
     match q, h3 with
     | [], _ => rfl
     | [_], _ => rfl
     | _ :: _ :: _, h => simp at h
   have HX : Hid (Fr [] w wr) := lh (HF1.out.trans HFR.out (by simp)); have hnn : ¬ ((k : Int) < (n.l.length : Int) - 1 /\ 2 * (S : Int) < (n.size : Int) - 3) := fun ⟨h1, h2⟩ => hgn ⟨by omega, by have := HSZ.out.2; omega⟩; have hmx : ((max k 1 : Nat) : Int) = max (k : Int) 1 := by omega
   have HH : Hid (((n.half : Nat) : Int) = max (k : Int) 1) := lh (by rw [hhalf, hmx]); clear hhalf hmx
   by_cases hkn : (k : Int) < (n.l.length : Int) - 1
   ·have hlt : ¬ 2 * (S : Int) < (n.size : Int) - 3 := fun h => hnn ⟨hkn, h⟩; clear hnn hgn
    go_wp2
    go_ret
    exact ⟨by rw [HH.out]; rfl, HX.out⟩
   ·clear hnn hgn
    go_wp2
    go_ret
    exact ⟨by rw [HH.out]; rfl, HX.out⟩
theorem fr_keepS {S : List Nat} {w w' : World} (h : Fr S w w') {p : Addr} {v : Value} (hp : p.block ∉ S) (hc : w.cell? p = some v) : w'.cell? p = some v := by
 rw [h.cell (World.block_lt_of_cell? w _ hc) hp]; exact hc
theorem slice_to3 (A : Option Addr) (n c hi : Nat) (h : hi <= c) : ∀ w, (Instr.sliceAt 86 (.slice A n c) none (some (.int .i64 (hi : Int))) none).run Tryz.prog w = .ok (.slice A hi c) w := by
 intro w; have ht : Tryz.prog.underlying 86 = some (.slice 77) := Tryz.underlying86; have hel : Tryz.prog.elem 86 = 77 := by simp [Program.elem, ht]
 obtain ⟨i, hi1, hi2⟩ := Option.map_eq_some_iff.1 size_it; have h5 : ∀ w, (sizeOf 77).run Tryz.prog w = .ok 3 w := fun w => by simp [sizeOf, typeInfo, go_sem, hi1, hi2]
 rw [run_sliceAt_slice (h := by rw [hel]; exact ht), run_slice_h (ht := by rw [hel]; exact ht) (h0 := by omega) (h2 := by omega), hel, h5]; have e0 : A.map (fun x => x.add 0) = A := by cases A <;> simp [Addr.add]
 simp [Result.andThen, sliced, e0]
theorem slice_from3 (g n c lo : Nat) (x : Int) (hx : x = (lo : Int)) (h1 : lo <= n) (h2 : lo < c) : ∀ w, (Instr.sliceAt 86 (.slice (some ⟨g, 0, none⟩) n c) (some (.int .i64 x)) none none).run Tryz.prog w = .ok (.slice (some ⟨g, lo * 3, none⟩) (n - lo) (c - lo)) w := by
 intro w; subst hx; have ht : Tryz.prog.underlying 86 = some (.slice 77) := Tryz.underlying86; have hel : Tryz.prog.elem 86 = 77 := by simp [Program.elem, ht]
 obtain ⟨i, hi1, hi2⟩ := Option.map_eq_some_iff.1 size_it; have h5 : ∀ w, (sizeOf 77).run Tryz.prog w = .ok 3 w := fun w => by simp [sizeOf, typeInfo, go_sem, hi1, hi2]
 rw [run_sliceAt_slice (h := by rw [hel]; exact ht), run_slice_l (ht := by rw [hel]; exact ht) (h0 := by omega) (h1 := by omega), hel, h5]
 simp [Result.andThen, sliced, Addr.add, show ¬ c = lo by omega]
 exact fun h => h.symm
theorem NdV.make {D : Nat -> Prop} {w0 w' : World} {sv : Value} {n : Nd} {cs : List Value} (hits : ItsC D w0 n.l cs) (hown : w'.ownsRow w0.heap.size 77 3 sv n.l.length cs) (hf : Fr [] w0 w') (hD : ∀ q, w0.heap.size <= q -> D q) :
  NdV D w' w0.heap.size (.agg #[.int .i64 (kindOf n), .int .i64 (n.first : Int), sv]) n := by
 refine ⟨sv, cs, rfl, hown, (hits.re (D' := fun q => D q /\ sv.ownBlock ≠ some q) (fun q hq hlt => ⟨hq, fun e => by have := (hown.lt q e).1; omega⟩) ⟨w0.heap.size + w'.heap.size, hD _ (by omega), fun e => by have := own_lt hown _ e; omega⟩).fr hf (fun q hq hm => by cases hm), fun g hg => hD g (hown.lt g hg).1⟩
theorem results_ctc {P : Program} {fn : Func} {tmps : Array Value} {w : World} {k k2 k3 : Tmp} {t t' t3' : TypeId} {g g3 : Nat} {cs cs3 : List Value} {d : TypeDesc} (hr : fn.results = #[.cell k t, .tmp k2, .cell k3 t]) (ha : tmps.getD k undef = .pointer (some ⟨g, 0, none⟩)) (ha3 : tmps.getD k3 undef = .pointer (some ⟨g3, 0, none⟩)) (hb : Blk w g t' cs) (hb3 : Blk w g3 t3' cs3)
  (hu : P.underlying t = some d) (hd : d.isRow = true) (hi : (P.info? t).map (·.size) = some cs.length) (hi3 : cs3.length = cs.length) : (results fn tmps).run P w = .ok (.tuple #[.agg cs.toArray, tmps.getD k2 undef, .agg cs3.toArray]) w := by
 have hl := run_loadVar_row (P := P) w g t' t cs.toArray (0, 0) d hb hu (by cases d <;> simp_all) (by simpa using hi); have hl3 := run_loadVar_row (P := P) w g3 t3' t cs3.toArray (0, 0) d hb3 hu (by cases d <;> simp_all) (by simpa [hi3] using hi); have ha' : tmps[k]?.getD undef = .pointer (some ⟨g, 0, none⟩) := by simpa using ha
 have ha3' : tmps[k3]?.getD undef = .pointer (some ⟨g3, 0, none⟩) := by simpa using ha3
 simp [results, hr, ha', hl, ha3', hl3, asAddr, Sem.run_bind]
theorem enter_iclone (vs : Array Value) (w : World) : (callFunc 83 vs).run Tryz.prog w = .ok (.enter 83 vs) w := by kernel_rfl
theorem sl_to {w : World} {g c k : Nat} {l : List It} {cs : List Value} (hl : cs.length = l.length * 3) (hcg : ∀ (j : Nat) (u : Value), cs[j]? = some u -> w.cell? ⟨g, j, none⟩ = some u) (hk : k <= l.length) (hc : l.length <= c) :
  SlAt w (.slice (some ⟨g, 0, none⟩) k c) k (cs.take (3 * k)) g /\ (cs.take (3 * k)).length = k * 3 :=
 ⟨⟨_, c, 0, rfl, by omega, fun _ => ⟨rfl, fun j u hj => by
  rw [Nat.zero_add]; have h1 := (List.getElem?_eq_some_iff.1 hj).1; rw [List.getElem?_take_of_lt (by rw [List.length_take] at h1; omega)] at hj; exact hcg j u hj⟩⟩, by rw [List.length_take]; omega⟩
theorem sl_from {w : World} {g c k : Nat} {l : List It} {cs : List Value} (hl : cs.length = l.length * 3) (hcg : ∀ (j : Nat) (u : Value), cs[j]? = some u -> w.cell? ⟨g, j, none⟩ = some u) (hk : k <= l.length) (hc : l.length <= c) :
  SlAt w (.slice (some ⟨g, k * 3, none⟩) (l.length - k) (c - k)) (l.length - k) (cs.drop (3 * k)) g /\ (cs.drop (3 * k)).length = (l.length - k) * 3 :=
 ⟨⟨_, c - k, k * 3, rfl, by omega, fun _ => ⟨rfl, fun j u hj => by
  rw [List.getElem?_drop, Nat.mul_comm] at hj; exact hcg _ u hj⟩⟩, by rw [List.length_drop]; omega⟩
def SplitRes (D : Nat -> Prop) (w : World) (n : Nd) (e : Ending) (w' : World) : Prop := ∃ lv kv rv, e = .returned (.tuple #[lv, kv, rv]) /\ NdV D w' w.heap.size lv n.left /\ (∃ g, BytesAt w' kv n.key g /\ D g) /\ NdV D w' w.heap.size rv n.right /\ Fr [] w w'
/-- A node as two, with the key between them. -/
theorem split_nd {D : Nat -> Prop} {w : World} {base : Nat} {v : Value} {n : Nd} (h : NdV D w base v n) (hok : n.ok) (hsz : n.size <= 65536) (hc1 : 1 <= n.cutAt) (hc2 : n.cutAt < n.l.length) (hD : ∀ q, w.heap.size <= q -> D q) :
  Calls Tryz.prog 103 #[v] w (SplitRes D w n) := by
 obtain ⟨A, c, cs, rfl, hc, hown, hits, hcell⟩ := h.parts; obtain ⟨g, rfl, hcg⟩ := hcell (by omega); obtain ⟨x, hx⟩ : ∃ x, n.l[n.cutAt]? = some x := ⟨_, List.getElem?_eq_getElem hc2⟩; obtain ⟨kv, vv, av, i0, i1, i2, hic⟩ := hits.at_ hx; obtain ⟨wb, hwb⟩ : ∃ wb, wb = ((w.alloc (.cells #[.int .i64 (kindOf n), .int .i64 (n.first : Int), .slice (some ⟨g, 0, none⟩) n.l.length c] 88)).alloc (.cells znd.toArray 88)).alloc (.cells znd.toArray 88) := ⟨_, rfl⟩; have hf0 : Fr [] w wb := by rw [hwb]; exact (((Fr.refl [] w).alloc _).alloc _).alloc _
 have hb1 : Blk wb w.heap.size 88 [.int .i64 (kindOf n), .int .i64 (n.first : Int), .slice (some ⟨g, 0, none⟩) n.l.length c] := by rw [hwb]; exact ((Blk.new w _ [.int .i64 (kindOf n), .int .i64 (n.first : Int), .slice (some ⟨g, 0, none⟩) n.l.length c]).alloc _).alloc _
 have hb2 : Blk wb (w.heap.size + 1) 88 znd := by
  rw [hwb]; have := Blk.new (w.alloc (.cells #[.int .i64 (kindOf n), .int .i64 (n.first : Int), .slice (some ⟨g, 0, none⟩) n.l.length c] 88)) 88 znd; rw [World.size_alloc] at this; exact this.alloc _
 have hb4 : Blk wb (w.heap.size + 2) 88 znd := by
  rw [hwb]; have := Blk.new ((w.alloc (.cells #[.int .i64 (kindOf n), .int .i64 (n.first : Int), .slice (some ⟨g, 0, none⟩) n.l.length c] 88)).alloc (.cells znd.toArray 88)) 88 znd
  rwa [World.size_alloc, World.size_alloc] at this
 have HHF := lh (half_fn (h.fr hf0 (by simp)) hok hsz); have HB1 := lh hb1; have HB2 := lh hb2; have HB4 := lh hb4; have HF0 := lh hf0; have HCG := lh hcg; have HI := lh hits; have HOK := lh hok; have HD := lh hD; have HX := lh hx; have HIC := lh hic; have HLEN := lh hits.len; have HON := lh hits.one; have HG : Hid (g < w.heap.size) := lh (own_lt hown g rfl); have HI0 := lh i0; have HI2 := lh i2; have HKEY : Hid (n.key = x.key) := lh (by unfold Nd.key; rw [hx]; rfl); have hlen := hok.few; clear hb1 hb2 hb4 hf0 hcg hits hok hown hcell h hD hx hic i0 i1 i2; refine calls_post fun R HQ => ?_; have HC1 := lh hc1; have HC2 := lh hc2; clear hc1 hc2
 go_enter Tryz.func103, Tryz.ntmps103
 go_wp2_with (with_reducible refine wpList_alloc_z rfl 88 rfl (.agg #[.int .i64 0, .int .i64 0, .slice none 0 0]) znd.toArray zero_nd rfl ?_)
 rw [<- hwb]; refine HHF.out.mono ?_; rintro e w1 ⟨rfl, hf1⟩; have HF1 := lh (HF0.out.trans hf1 (by simp)); have HB11 := lh (HB1.out.fr hf1 (by simp)); have HB21 := lh (HB2.out.fr hf1 (by simp)); have HB41 := lh (HB4.out.fr hf1 (by simp)); clear hf1 HHF HF0 HB1 HB2 HB4
 cases hlf : n.lf with
 | true =>
  have hkn : kindOf n = 1 := by unfold kindOf; rw [hlf]; rfl
  have hhc : n.half = n.cutAt := by unfold Nd.cutAt; rw [if_pos hlf]
  rw [hhc]; rw [hkn] at HB11; generalize hm : n.cutAt = m at *; have HM := lh hm; have k0 := HB11.out.at_ (i := 0) rfl; have k1 := HB11.out.at_ (i := 1) rfl; have k2 := HB11.out.at_ (i := 2) rfl; clear hm hhc; go_wp2_with fail; refine (leaf_any w1 1 _ _).mono ?_; rintro e w2 ⟨rfl, hw2⟩; clear k0 k1 k2; have hf2 : Fr [] w1 w2 := by rw [hw2]; exact (Fr.refl [] w1).alloc _
  have HF2 := lh (HF1.out.trans hf2 (by simp)); have HB12 := lh (HB11.out.fr hf2 (by simp)); have HB22 := lh (HB21.out.fr hf2 (by simp)); have HB42 := lh (HB41.out.fr hf2 (by simp)); have k1 := HB12.out.at_ (i := 1) rfl; have k2 := HB12.out.at_ (i := 2) rfl; have i0 := fr_keep HF2.out (HCG.out _ _ HI0.out); have s1 := sl_to (c := c) HLEN.out (fun j u hj => fr_keep HF2.out (HCG.out j u hj)) (Nat.le_of_lt HC2.out) hc; have s2 := sl_from (c := c) HLEN.out (fun j u hj => fr_keep HF2.out (HCG.out j u hj)) (Nat.le_of_lt HC2.out) hc; have HS1 := lh s1; have HS2 := lh s2; have HSL1 := lh (slice_to3 (some ⟨g, 0, none⟩) n.l.length c m (by have := HC2.out; omega)); have HSL2 := lh (slice_from3 g n.l.length c m (m : Int) rfl (by have := HC2.out; omega) (by have := HC2.out; omega)); have g3 : (m : Int) < (n.l.length : Int) := by have := HC2.out; omega
  have HZ2 : Hid (w.heap.size + 3 <= w2.heap.size) := lh (by have := HB42.out.lt; omega); obtain ⟨⟨gk, hgk, hdk⟩, _, _⟩ := HIC.out; have HGK := lh hgk; have HDK := lh hdk; obtain ⟨Ak, ck, ok, rfl, _, _⟩ := hgk; clear hf2 hw2 s1 s2 HB11 HB21 HB41 HF1 hdk; go_wp2_with fail; refine wp_region_K (fun W => W.cell? ⟨w.heap.size, 1, none⟩ = some (.int .i64 (n.first : Int)) /\ W.cell? ⟨w.heap.size, 2, none⟩ = some (.slice (some ⟨g, 0, none⟩) n.l.length c) /\ W.cell? ⟨g, m * 3, none⟩ = some (.slice Ak x.key.length ck)) [0, 1, 2, 3, 5, 6, 7, 8, 9, 10, 11, 12, 13, 14, 15, 16, 18] (by kernel_rfl) ?_; refine tks [0, 1, 2] ?_
  iterate 3 (refine tk rfl rfl ⟨k1, k2, i0⟩ rfl (fun _ hW => by (obtain ⟨q1, q2, q3⟩ := hW; go_simp) <;> with_reducible rfl) ?_; simp only [nrm])
  refine tke ?_; refine tv 3 (.slice (some ⟨g, 0, none⟩) m c) rfl rfl ⟨k1, k2, i0⟩ (.inl ⟨rfl, fun W _ => exec_slice rfl rfl rfl rfl (HSL1.out W)⟩) ?_; simp only [nrm]; refine tks [6, 7, 8, 9, 10, 11, 12, 13, 14, 15] ?_
  iterate 10 (refine tk rfl rfl ⟨k1, k2, i0⟩ rfl (fun _ hW => by (obtain ⟨q1, q2, q3⟩ := hW; go_simp) <;> with_reducible rfl) ?_; simp only [nrm])
  refine tke ?_; refine tv 16 (.slice (some ⟨g, m * 3, none⟩) (n.l.length - m) (c - m)) rfl rfl ⟨k1, k2, i0⟩ (.inl ⟨rfl, fun W _ => exec_slice rfl rfl rfl rfl (HSL2.out W)⟩) ?_; simp only [nrm]; refine sp 4 rfl rfl rfl fun K hK => ?_; refine wp_call_f (l := [.tmp 13]) rfl [.slice (some ⟨g, 0, none⟩) m c] rfl (enter_iclone _) ((items_clone (HS1.out.1.fr (S := []) (Fr.refl [] w2).drew (by simp)) HS1.out.2 ?tt (by omega)).mono ?_)
  case tt => exact fun u hu => HON.out u (List.mem_of_mem_take hu)
  rintro e w4 ⟨sl, rfl, hown4, hf4⟩; obtain ⟨Al, cl, rfl, hcl, _⟩ := own_shape hown4; have hf4' : Fr [] w2 w4 := ((Fr.refl [] w2).drew).trans hf4 (by simp); have HO4 : Hid (w4.ownsRow w.heap.size 77 3 (.slice Al m cl) m (cs.take (3 * m))) := lh (own_base hown4 (fun q hq => by have := (hown4.lt q hq).1; have := HZ2.out; have h0 : w2.drew.heap.size = w2.heap.size := rfl; omega)); have HG4 : Hid (∀ q, (Value.slice Al m cl).ownBlock = some q -> w2.heap.size <= q) := lh fun q hq => (hown4.lt q hq).1; refine ⟨_, rfl, hK _ _ (fun _ => ⟨fr_keep hf4' k1, fr_keep hf4' k2, fr_keep hf4' i0⟩) ?_⟩; simp only [nrm]; clear hK hown4 hf4 hcl; refine tks [5] ?_; refine tk rfl rfl ⟨fr_keep hf4' k1, fr_keep hf4' k2, fr_keep hf4' i0⟩ rfl (fun _ _ => by go_simp <;> with_reducible rfl) ?_; simp only [nrm]; refine tke ?_; refine sp 17 rfl rfl rfl fun K hK => ?_; refine wp_call_f (l := [.tmp 26]) rfl [.slice (some ⟨g, m * 3, none⟩) (n.l.length - m) (c - m)] rfl (enter_iclone _) ((items_clone (HS2.out.1.fr hf4' (by simp)) HS2.out.2 ?tt (by omega)).mono ?_)
  case tt => exact fun u hu => HON.out u (List.mem_of_mem_drop hu)
  rintro e w5 ⟨sr, rfl, hown5, hf5⟩; obtain ⟨Ar, cr, rfl, hcr, _⟩ := own_shape hown5; have hf5' : Fr [] w2 w5 := hf4'.trans hf5 (by simp); refine ⟨_, rfl, hK _ _ (fun _ => ⟨fr_keep hf5' k1, fr_keep hf5' k2, fr_keep hf5' i0⟩) ?_⟩; simp only [nrm]; clear hK hcr; refine tks [18] ?_; refine tk rfl rfl ⟨fr_keep hf5' k1, fr_keep hf5' k2, fr_keep hf5' i0⟩ rfl (fun _ _ => by go_simp <;> with_reducible rfl) ?_; simp only [nrm]; refine tke ?_; have h2lt : w.heap.size + 2 < w2.heap.size := by have := HZ2.out; omega
  have h4sz := hf4'.size; have hgw := HG.out; have hk1 := fr_keep hf5' k1; have hk2 := fr_keep hf5' k2; have hk3 := fr_keep hf5' i0; refine wpAnyK_step (j := 19) none rfl rfl (by kernel_rfl) rfl fun K hK => ?_; refine wp_store_blk 88 (.tmp 2) (.tmp 15) rfl [.int .i64 1, .int .i64 0, .slice Al m cl] rfl rfl (HB22.out.fr hf5' (by simp)) size_nd rfl ?tt fun w6 hb6 hf6 hz6 => hK _ _ (fun _ => ⟨fr_keepS hf6 (by simp) hk1, fr_keepS hf6 (by simp) hk2, fr_keepS hf6 (by simp; omega) hk3⟩) ?_
  case tt => intro u hu; simp at hu; rcases hu with rfl | rfl | rfl <;> rfl
  simp only [Act.put]; clear hK; refine sp 20 rfl rfl rfl fun K hK => ?_; refine wp_run_same (v := ?aq1_20) ?yq1_20 (hK _ _ (fun _ => ⟨fr_keepS hf6 (by simp) hk1, fr_keepS hf6 (by simp) hk2, fr_keepS hf6 (by simp; omega) hk3⟩) ?_)
  case yq1_20 => go_simp <;> with_reducible rfl
  simp only [nrm]; refine wpAnyK_step (j := 21) none rfl rfl (by kernel_rfl) rfl fun K hK => ?_; refine wp_store_blk 88 (.tmp 4) (.tmp 28) rfl [.int .i64 1, .int .i64 0, .slice Ar (n.l.length - m) cr] rfl rfl ((HB42.out.fr hf5' (by simp)).fr hf6 (by simp)) size_nd rfl ?tt fun w7 hb7 hf7 hz7 => hK _ _ (fun _ => ⟨fr_keepS hf7 (by simp <;> omega) (fr_keepS hf6 (by simp) hk1), fr_keepS hf7 (by simp <;> omega) (fr_keepS hf6 (by simp) hk2), fr_keepS hf7 (by simp <;> omega) (fr_keepS hf6 (by simp; omega) hk3)⟩) ?_
  case tt => intro u hu; simp at hu; rcases hu with rfl | rfl | rfl <;> rfl
  simp only [Act.put]; refine wd ?_ _; clear hK; have hb27 := hb6.fr hf7 (by simp); have hf57 : Fr [w.heap.size + 1, w.heap.size + 2] w5 w7 := (hf6.mono (fun q hq => .inl (by simp at hq ⊢; omega))).trans hf7 (fun q hq => .inl (by simp at hq ⊢; omega)); have hfw : Fr [] w w7 := ((HF2.out.trans hf5' (by simp)).trans hf57 (fun q hq => .inr (by simp at hq; omega))); have ho7 := own_fr (own_fr HO4.out hf5 (fun q hq hm => by cases hm)) hf57 (fun q hq hm => by have := HG4.out q hq; simp at hm; omega); have ho7' := own_base (b' := w.heap.size) (own_fr hown5 hf57 (fun q hq hm => by have := (hown5.lt q hq).1; simp at hm; omega)) (fun q hq => by have := (hown5.lt q hq).1; omega); have el : n.left = ⟨true, 0, n.l.take m⟩ := by unfold Nd.left; rw [HM.out, hlf, HOK.out.bare hlf]
  have er : n.right = ⟨true, 0, n.l.drop m⟩ := by unfold Nd.right; rw [if_pos hlf, HM.out]
  have HE : Hid (R (.returned (.tuple #[.agg #[.int .i64 1, .int .i64 0, .slice Al m cl], .slice Ak x.key.length ck, .agg #[.int .i64 1, .int .i64 0, .slice Ar (n.l.length - m) cr]])) w7) := lh (HQ.out _ _ ⟨_, _, _, rfl,
   by rw [el]; exact NdV.make (n := ⟨true, 0, n.l.take m⟩) (HI.out.take m).1 (by rw [show (n.l.take m).length = m by rw [List.length_take]; have := HC2.out; omega]; exact ho7) hfw HD.out,
   ⟨gk, by rw [HKEY.out]; exact HGK.out.fr hfw (by simp), HDK.out⟩,
   by rw [er]; exact NdV.make (n := ⟨true, 0, n.l.drop m⟩) (HI.out.take m).2 (by rw [show (n.l.drop m).length = n.l.length - m by rw [List.length_drop]]; exact ho7') hfw HD.out, hfw⟩)
  clear hf5' hf57 hfw ho7 ho7' el er hown5 hf5 hf6 hf7 hf4'; go_wp2_with fail; exact bodyPost_ret (results_ctc rfl rfl rfl hb27 hb7 Tryz.underlying88 rfl size_nd rfl) rfl HE.out
 | false =>
  have hkn : kindOf n = 2 := by unfold kindOf; rw [hlf]; rfl
  have hhc : n.cutAt = min n.half (n.l.length - 2) := by unfold Nd.cutAt; rw [if_neg (by rw [hlf]; decide)]
  have hmn : min ((n.half : Nat) : Int) ((n.l.length : Int) - 2) = (n.cutAt : Int) := by have := HC1.out; omega
  have hwl : IntKind.i64.wrap ((n.l.length : Int) - 2) = (n.l.length : Int) - 2 := by rw [IntKind.wrap_i64]; omega
  have hm1 : n.cutAt + 1 < n.l.length := by have := HC1.out; omega
  rw [hkn] at HB11; generalize hm : n.cutAt = m at *; have HM := lh hm; have k0 := HB11.out.at_ (i := 0) rfl; have k1 := HB11.out.at_ (i := 1) rfl; have k2 := HB11.out.at_ (i := 2) rfl; have HMN := lh hmn; have HM1 := lh hm1; have hwm := wi m (by omega)
  clear hm hhc hmn hm1; go_wp2_with fail; refine (leaf_any w1 2 _ _).mono ?_; rintro e w2 ⟨rfl, hw2⟩; clear k0 k1 k2; have hf2 : Fr [] w1 w2 := by rw [hw2]; exact (Fr.refl [] w1).alloc _
  have HF2 := lh (HF1.out.trans hf2 (by simp)); have HB12 := lh (HB11.out.fr hf2 (by simp)); have HB22 := lh (HB21.out.fr hf2 (by simp)); have HB42 := lh (HB41.out.fr hf2 (by simp)); have k1 := HB12.out.at_ (i := 1) rfl; have k2 := HB12.out.at_ (i := 2) rfl; have i0 := fr_keep HF2.out (HCG.out _ _ HI0.out); have i2 := fr_keep HF2.out (HCG.out _ _ HI2.out); have s1 := sl_to (c := c) HLEN.out (fun j u hj => fr_keep HF2.out (HCG.out j u hj)) (Nat.le_of_lt HC2.out) hc; have s2 := sl_from (c := c) (k := m + 1) HLEN.out (fun j u hj => fr_keep HF2.out (HCG.out j u hj)) (Nat.le_of_lt HM1.out) hc; have HS1 := lh s1; have HS2 := lh s2; have HSL1 := lh (slice_to3 (some ⟨g, 0, none⟩) n.l.length c m (by have := HC2.out; omega)); have HSL2 := lh (slice_from3 g n.l.length c (m + 1) ((m : Int) + 1) (by omega) (by have := HM1.out; omega) (by have := HM1.out; omega)); have g3 : (m : Int) < (n.l.length : Int) := by have := HC2.out; omega
  have HZ2 : Hid (w.heap.size + 3 <= w2.heap.size) := lh (by have := HB42.out.lt; omega); obtain ⟨⟨gk, hgk, hdk⟩, _, hav⟩ := HIC.out; subst hav; have HGK := lh hgk; have HDK := lh hdk; obtain ⟨Ak, ck, ok, rfl, _, _⟩ := hgk; clear hf2 hw2 s1 s2 HB11 HB21 HB41 HF1 hdk; go_wp2_with fail; rw [HMN.out]; refine wp_region_K (fun W => W.cell? ⟨w.heap.size, 1, none⟩ = some (.int .i64 (n.first : Int)) /\ W.cell? ⟨w.heap.size, 2, none⟩ = some (.slice (some ⟨g, 0, none⟩) n.l.length c) /\ W.cell? ⟨g, m * 3, none⟩ = some (.slice Ak x.key.length ck) /\ W.cell? ⟨g, m * 3 + 2, none⟩ = some (.int .i64 (x.at_ : Int))) [0, 1, 2, 3, 4, 5, 7, 8, 9, 10, 11, 12, 13, 14, 15, 16, 17, 18, 19, 20, 21, 22, 23, 24, 25, 27] (by kernel_rfl) ?_; refine tks [0, 1, 2, 3, 4] ?_
  iterate 5 (refine tk rfl rfl ⟨k1, k2, i0, i2⟩ rfl (fun _ hW => by (obtain ⟨q1, q2, q3, q4⟩ := hW; go_simp) <;> with_reducible rfl) ?_; simp only [nrm])
  refine tke ?_; refine tv 5 (.slice (some ⟨g, 0, none⟩) m c) rfl rfl ⟨k1, k2, i0, i2⟩ (.inl ⟨rfl, fun W _ => exec_slice rfl rfl rfl rfl (HSL1.out W)⟩) ?_; simp only [nrm]; refine tks [8, 9, 10, 11, 12, 13, 14, 15, 16, 17, 18, 19, 20, 21, 22, 23, 24] ?_
  iterate 17 (refine tk rfl rfl ⟨k1, k2, i0, i2⟩ rfl (fun _ hW => by (obtain ⟨q1, q2, q3, q4⟩ := hW; go_simp) <;> with_reducible rfl) ?_; simp only [nrm])
  refine tke ?_; refine tv 25 (.slice (some ⟨g, (m + 1) * 3, none⟩) (n.l.length - (m + 1)) (c - (m + 1))) rfl rfl ⟨k1, k2, i0, i2⟩ (.inl ⟨rfl, fun W _ => exec_slice rfl rfl rfl rfl (HSL2.out W)⟩) ?_; simp only [nrm]; refine sp 6 rfl rfl rfl fun K hK => ?_; refine wp_call_f (l := [.tmp 40]) rfl [.slice (some ⟨g, 0, none⟩) m c] rfl (enter_iclone _) ((items_clone (HS1.out.1.fr (S := []) (Fr.refl [] w2).drew (by simp)) HS1.out.2 ?tt (by omega)).mono ?_)
  case tt => exact fun u hu => HON.out u (List.mem_of_mem_take hu)
  rintro e w4 ⟨sl, rfl, hown4, hf4⟩; obtain ⟨Al, cl, rfl, hcl, _⟩ := own_shape hown4; have hf4' : Fr [] w2 w4 := ((Fr.refl [] w2).drew).trans hf4 (by simp); have HO4 : Hid (w4.ownsRow w.heap.size 77 3 (.slice Al m cl) m (cs.take (3 * m))) := lh (own_base hown4 (fun q hq => by have := (hown4.lt q hq).1; have := HZ2.out; have h0 : w2.drew.heap.size = w2.heap.size := rfl; omega)); have HG4 : Hid (∀ q, (Value.slice Al m cl).ownBlock = some q -> w2.heap.size <= q) := lh fun q hq => (hown4.lt q hq).1; refine ⟨_, rfl, hK _ _ (fun _ => ⟨fr_keep hf4' k1, fr_keep hf4' k2, fr_keep hf4' i0, fr_keep hf4' i2⟩) ?_⟩; simp only [nrm]; clear hK hown4 hf4 hcl; refine tks [7] ?_; refine tk rfl rfl ⟨fr_keep hf4' k1, fr_keep hf4' k2, fr_keep hf4' i0, fr_keep hf4' i2⟩ rfl (fun _ _ => by go_simp <;> with_reducible rfl) ?_; simp only [nrm]; refine tke ?_; refine sp 26 rfl rfl rfl fun K hK => ?_; refine wp_call_f (l := [.tmp 60]) rfl [.slice (some ⟨g, (m + 1) * 3, none⟩) (n.l.length - (m + 1)) (c - (m + 1))] rfl (enter_iclone _) ((items_clone (HS2.out.1.fr hf4' (by simp)) HS2.out.2 ?tt (by omega)).mono ?_)
  case tt => exact fun u hu => HON.out u (List.mem_of_mem_drop hu)
  rintro e w5 ⟨sr, rfl, hown5, hf5⟩; obtain ⟨Ar, cr, rfl, hcr, _⟩ := own_shape hown5; have hf5' : Fr [] w2 w5 := hf4'.trans hf5 (by simp); refine ⟨_, rfl, hK _ _ (fun _ => ⟨fr_keep hf5' k1, fr_keep hf5' k2, fr_keep hf5' i0, fr_keep hf5' i2⟩) ?_⟩; simp only [nrm]; clear hK hcr; refine tks [27] ?_; refine tk rfl rfl ⟨fr_keep hf5' k1, fr_keep hf5' k2, fr_keep hf5' i0, fr_keep hf5' i2⟩ rfl (fun _ _ => by go_simp <;> with_reducible rfl) ?_; simp only [nrm]; refine tke ?_; have h2lt : w.heap.size + 2 < w2.heap.size := by have := HZ2.out; omega
  have h4sz := hf4'.size; have hgw := HG.out; have hk1 := fr_keep hf5' k1; have hk2 := fr_keep hf5' k2; have hk3 := fr_keep hf5' i0; have hk4 := fr_keep hf5' i2; refine wpAnyK_step (j := 28) none rfl rfl (by kernel_rfl) rfl fun K hK => ?_; refine wp_store_blk 88 (.tmp 2) (.tmp 42) rfl [.int .i64 2, .int .i64 (n.first : Int), .slice Al m cl] rfl rfl (HB22.out.fr hf5' (by simp)) size_nd rfl ?tt fun w6 hb6 hf6 hz6 => hK _ _ (fun _ => ⟨fr_keepS hf6 (by simp) hk1, fr_keepS hf6 (by simp) hk2, fr_keepS hf6 (by simp; omega) hk3, fr_keepS hf6 (by simp; omega) hk4⟩) ?_
  case tt => intro u hu; simp at hu; rcases hu with rfl | rfl | rfl <;> rfl
  simp only [Act.put]; clear hK; refine sp 29 rfl rfl rfl fun K hK => ?_; refine wp_run_same (v := ?aq2_29) ?yq2_29 (hK _ _ (fun _ => ⟨fr_keepS hf6 (by simp) hk1, fr_keepS hf6 (by simp) hk2, fr_keepS hf6 (by simp; omega) hk3, fr_keepS hf6 (by simp; omega) hk4⟩) ?_)
  case yq2_29 => go_simp <;> with_reducible rfl
  simp only [nrm]; refine wpAnyK_step (j := 30) none rfl rfl (by kernel_rfl) rfl fun K hK => ?_; refine wp_store_blk 88 (.tmp 4) (.tmp 62) rfl [.int .i64 2, .int .i64 (x.at_ : Int), .slice Ar (n.l.length - (m + 1)) cr] rfl rfl ((HB42.out.fr hf5' (by simp)).fr hf6 (by simp)) size_nd rfl ?tt fun w7 hb7 hf7 hz7 => hK _ _ (fun _ => ⟨fr_keepS hf7 (by simp <;> omega) (fr_keepS hf6 (by simp) hk1), fr_keepS hf7 (by simp <;> omega) (fr_keepS hf6 (by simp) hk2), fr_keepS hf7 (by simp <;> omega) (fr_keepS hf6 (by simp; omega) hk3), fr_keepS hf7 (by simp <;> omega) (fr_keepS hf6 (by simp; omega) hk4)⟩) ?_
  case tt => intro u hu; simp at hu; rcases hu with rfl | rfl | rfl <;> rfl
  simp only [Act.put]; refine wd ?_ _; clear hK; have hb27 := hb6.fr hf7 (by simp); have hf57 : Fr [w.heap.size + 1, w.heap.size + 2] w5 w7 := (hf6.mono (fun q hq => .inl (by simp at hq ⊢; omega))).trans hf7 (fun q hq => .inl (by simp at hq ⊢; omega)); have hfw : Fr [] w w7 := ((HF2.out.trans hf5' (by simp)).trans hf57 (fun q hq => .inr (by simp at hq; omega))); have ho7 := own_fr (own_fr HO4.out hf5 (fun q hq hm => by cases hm)) hf57 (fun q hq hm => by have := HG4.out q hq; simp at hm; omega); have ho7' := own_base (b' := w.heap.size) (own_fr hown5 hf57 (fun q hq hm => by have := (hown5.lt q hq).1; simp at hm; omega)) (fun q hq => by have := (hown5.lt q hq).1; omega); have el : n.left = ⟨false, n.first, n.l.take m⟩ := by unfold Nd.left; rw [HM.out, hlf]
  have er : n.right = ⟨false, x.at_, n.l.drop (m + 1)⟩ := by unfold Nd.right; rw [if_neg (by rw [hlf]; decide), HM.out, HX.out]; rfl
  have HE : Hid (R (.returned (.tuple #[.agg #[.int .i64 2, .int .i64 (n.first : Int), .slice Al m cl], .slice Ak x.key.length ck, .agg #[.int .i64 2, .int .i64 (x.at_ : Int), .slice Ar (n.l.length - (m + 1)) cr]])) w7) := lh (HQ.out _ _ ⟨_, _, _, rfl,
   by rw [el]; exact NdV.make (n := ⟨false, n.first, n.l.take m⟩) (HI.out.take m).1 (by rw [show (n.l.take m).length = m by rw [List.length_take]; have := HC2.out; omega]; exact ho7) hfw HD.out,
   ⟨gk, by rw [HKEY.out]; exact HGK.out.fr hfw (by simp), HDK.out⟩,
   by rw [er]; exact NdV.make (n := ⟨false, x.at_, n.l.drop (m + 1)⟩) (HI.out.take (m + 1)).2 (by rw [show (n.l.drop (m + 1)).length = n.l.length - (m + 1) by rw [List.length_drop]]; exact ho7') hfw HD.out, hfw⟩)
  clear hf5' hf57 hfw ho7 ho7' el er hown5 hf5 hf6 hf7 hf4'; go_wp2_with fail; exact bodyPost_ret (results_ctc rfl rfl rfl hb27 hb7 Tryz.underlying88 rfl size_nd rfl) rfl HE.out
end
end Go.Proofs.YtpjbdpepofnleaaGreat
