/-
  Joined by join.py: Or Qa Qb Qc
-/
import Derived.Test.YtpjbdpepofnleaaGreatJpl17
set_option maxRecDepth 100000
set_option maxHeartbeats 32000000
namespace Go.Proofs.YtpjbdpepofnleaaGreat
section
open Go.RowKit Go.ChangeMaps Go.MapKept Go.Maps Go.Sort Go.Shelf
def zup : List Value := [.slice none 0 0, .int .i64 0]
theorem zero_up : (Tryz.prog.info? 91).map (·.zero) = some (some (.agg #[.slice none 0 0, .int .i64 0])) := by kernel_rfl
theorem size_up : (Tryz.prog.info? 91).map (·.size) = some 2 := by kernel_rfl
theorem two_cells {a : Int} {A : Option Addr} {n c : Nat} : ∀ u ∈ [Value.slice A n c, .int .i64 a], u.oneCell' = true := by
 intro u hu
 simp at hu
 rcases hu with rfl | rfl <;> rfl
def UpV (D : Nat -> Prop) (w : World) (v : Value) (u : Ky × Nat) : Prop := ∃ kv, v = .agg #[kv, .int .i64 ((u.2 : Nat) : Int)] /\ ∃ g, BytesAt w kv u.1 g /\ D g
theorem enter_split (vs : Array Value) (w : World) : (callFunc 103 vs).run Tryz.prog w = .ok (.enter 103 vs) w := by kernel_rfl
section
variable {w0 wS w w' : World} {dk g bc bn bs : Nat} {s : PS} {X D D' : Nat -> Prop} {c : CD}
theorem NdV.re {base : Nat} {v : Value} {n : Nd} (h : NdV D w base v n) (hD : ∀ q, D q -> q < w.heap.size -> D' q) (h0 : ∃ q, D' q /\ w.heap.size <= q) : NdV D' w base v n := by
 obtain ⟨q0, hq0, hz0⟩ := h0; obtain ⟨sv, cs, e1, e2, e3, e4⟩ := h; exact ⟨sv, cs, e1, e2, e3.re (fun q hq hl => ⟨hD q hq.1 hl, hq.2⟩) ⟨q0, hq0, fun e => by have := own_lt e2 _ e; omega⟩, fun q hq => hD q (e4 q hq) (own_lt e2 q hq)⟩
theorem alloc_n (c : CD) : c.alloc.1.n = c.n := by
 unfold CD.alloc
 split
 ·rfl
 ·split
  ·rfl
  ·unfold CD.full; split <;> rfl
theorem head_ok {U F : List Nat} (h : Acc c U F) : c.head ≠ 0 -> c.head < c.n /\ ∃ j, c.nx c.head = some j := fun h0 => by
 cases F with
 | nil => exact absurd h.chain h0
 | cons a F =>
  obtain ⟨h1, j, h2, _⟩ := h.chain; have := (h.mem (k := a) (.inr (List.mem_cons_self ..))).2; have := h.next2; exact ⟨by omega, j, by rw [h1]; exact h2⟩
/-- A node laid, or the two that it is split into. -/
theorem lay_ch (hp : PgC w0 wS dk g s X c) (h : ChAt wS w g bc bn bs D c) {v : Value} {n : Nd} {k base : Nat} (hv : NdV D w base v n) (hk : k < c.n) (hok : n.ok) (hs : n.size <= if n.lf then 680 else 780) (he : c.e = 0)
  (hh : c.head ≠ 0 -> c.head < c.n /\ ∃ j, c.nx c.head = some j) (hD : ∀ q, w.heap.size <= q -> D q) :
  Calls Tryz.prog 72 #[.pointer (some ⟨bc, 0, none⟩), .int .i64 (k : Int), v] w fun e w' => ∃ uv, e = .returned uv /\ UpV D w' uv (c.lay k n).2 /\ ChAt wS w' g bc bn bs D (c.lay k n).1 /\ Fr [bc, bn, bs] w w' := by
 have hsz : n.size <= 65536 := by split at hs <;> omega
 obtain ⟨A, ca, cs, rfl, _, _, _, _⟩ := hv.parts; obtain ⟨wb, hwb⟩ := nm ((w.alloc (.cells #[.int .i64 (kindOf n), .int .i64 (n.first : Int), .slice A n.l.length ca] 88)).alloc (.cells zup.toArray 91)); have hf0 : Fr [] w wb := by rw [hwb]; exact ((Fr.refl [] w).alloc _).alloc _
 have hb1 : Blk wb w.heap.size 88 [.int .i64 (kindOf n), .int .i64 (n.first : Int), .slice A n.l.length ca] := by rw [hwb]; exact (Blk.new w _ [.int .i64 (kindOf n), .int .i64 (n.first : Int), .slice A n.l.length ca]).alloc _
 have hb2 : Blk wb (w.heap.size + 1) 91 zup := by
  rw [hwb]; have := Blk.new (w.alloc (.cells #[.int .i64 (kindOf n), .int .i64 (n.first : Int), .slice A n.l.length ca] 88)) 91 zup
  rwa [World.size_alloc] at this
 have hlts := h.lts; obtain ⟨E, hE⟩ : ∃ E : Nat -> Prop, E = fun q => D q /\ q ≠ w.heap.size + 1 := ⟨_, rfl⟩; have hEf : ∀ q, w.heap.size + 2 <= q -> E q := fun q hq => by rw [hE]; exact ⟨hD q (by omega), by omega⟩
 have hEl : ∀ q, D q -> q < w.heap.size -> E q := fun q hq hl => by rw [hE]; exact ⟨hq, by omega⟩
 have hEd : ∀ q, E q -> D q /\ q ≠ w.heap.size + 1 := fun q hq => by rw [hE] at hq; exact hq
 have h0 := h; have h := h.re hEl ⟨w.heap.size + 2, hEf _ (Nat.le_refl _), by omega⟩ (fun q hq => h.dom q (hEd q hq).1); have hv := hv.re hEl ⟨w.heap.size + 2, hEf _ (Nat.le_refl _), by omega⟩; have HEF := lh hEf; have HED := lh hEd; clear hE hEf hEl hEd; have HSF := lh (size_fn (hv.fr hf0 (by simp)) hok hsz); have HH := lh (h.frame hf0); have HV := lh (hv.fr hf0 (by simp)); have HF0 := lh hf0; have HB1 := lh hb1; have HB2 := lh hb2; have HP := lh hp; have HOK := lh hok; have HD := lh hD; have HHH := lh hh; have HE := lh he; have HS := lh hs; have HSZ := lh hsz; have HKN := lh hk; have hsx : ((n.size : Int) <= 512) ↔ n.size <= 512 := by omega
 have HZS : Hid (wS.heap.size <= w.heap.size) := lh h0.fr.size; have HDM : Hid (∀ q, D q -> q ≠ bc /\ q ≠ bn /\ q ≠ bs) := lh h0.dom; clear hf0 hb1 hb2 h h0 hv hp hok hD hh he hs hsz hk; refine calls_post fun R HQ => ?_
 go_enter Tryz.func72, Tryz.ntmps72
 go_upto_region 1 with (with_reducible refine wpList_alloc_z rfl 91 rfl (.agg #[.slice none 0 0, .int .i64 0]) zup.toArray zero_up rfl ?_)
 rw [<- hwb]; have hz2 : (w.alloc (.cells #[.int .i64 (kindOf n), .int .i64 (n.first : Int), .slice A n.l.length ca] 88)).heap.size = w.heap.size + 1 := by rw [World.size_alloc]
 rw [hz2]; clear hwb hz2; have b0 := HB1.out.at_ (i := 0) rfl; have b1 := HB1.out.at_ (i := 1) rfl; have b2 := HB1.out.at_ (i := 2) rfl; go_wp2_with fail; refine HSF.out.mono ?_; rintro e w1 ⟨rfl, hf1⟩; have HF1 := lh (HF0.out.trans hf1 (by simp)); have HH1 := lh (HH.out.frame hf1); have HV1 := lh (HV.out.fr hf1 (by simp)); have HB11 := lh (HB1.out.fr hf1 (by simp)); have HB21 := lh (HB2.out.fr hf1 (by simp)); clear b0 b1 b2 hf1 HSF HF0 HH HV HB1 HB2; have b0 := HB11.out.at_ (i := 0) rfl; have b1 := HB11.out.at_ (i := 1) rfl; have b2 := HB11.out.at_ (i := 2) rfl
 by_cases h5 : n.size <= 512
 ·have el : c.lay k n = (c.write k n, ([], 0)) := by unfold CD.lay; rw [if_pos h5]
  rw [el] at HQ; have HW := lh (write_ch HH1.out HV1.out HKN.out HOK.out h5); clear el; go_wp2_with fail; refine HW.out.mono ?_; rintro e w2 ⟨rfl, hc2, hf2⟩; have HC2 := lh hc2; have HF2 := lh hf2; have HB22 := lh (HB21.out.fr hf2 (by simp; omega)); clear hc2 hf2 HW b0 b1 b2
  go_wp2_with (refine wpL_store rfl 91 (.tmp 6) (.tmp 18) rfl [.slice none 0 0, .int .i64 0] rfl rfl HB22.out size_up rfl two_cells ?_)
  intro w3 hb3 hf3 hz3; have hf13 : Fr [bc, bn, bs] w w3 := ((HF1.out.mono (T := [bc, bn, bs]) (by simp)).trans HF2.out (fun q hq => .inl (by simp at hq ⊢; omega))).trans hf3 (fun q hq => .inr (by have := List.mem_singleton.1 hq; omega))
  have HX : Hid (R (.returned (.agg #[.slice none 0 0, .int .i64 0])) w3) := lh (HQ.out _ _ ⟨_, rfl, ⟨_, rfl, w.heap.size, BytesAt.nil _ _, HD.out _ (Nat.le_refl _)⟩, (HC2.out.frS hf3 (fun q hq => .inr (by
   have h1 := List.mem_singleton.1 hq; have h2 := HC2.out.fr.size; have h3 := HZS.out; exact ⟨by omega, fun hq => (HED.out q hq).2 h1, by omega⟩))).weak (fun q hq => (HED.out q hq).1) HDM.out, hf13⟩)
  have HB3 := lh hb3; clear hb3 hf3 hz3 hf13; go_wp2_with fail; exact ret_blk (g := w.heap.size + 1) (t' := 91) (cs := [.slice none 0 0, .int .i64 0]) (d := _) rfl rfl HB3.out Tryz.underlying91 rfl size_up HX.out
 ·obtain ⟨s1, s2, s3, s4, s5, s6, s7, s8⟩ := Nd.split_ok HOK.out (by omega) HS.out; have el : c.lay k n = ((c.alloc.1.write k n.left).write c.alloc.2 n.right, (n.key, c.alloc.2)) := by unfold CD.lay; rw [if_neg h5]
  rw [el] at HQ; have HSP := lh (split_nd HV1.out HOK.out HSZ.out s2 s1 (fun q hq => HEF.out q (by have := HB21.out.lt; omega))); have HL3 := lh s3; have HL4 := lh s4; have HL7 := lh s7; have HL8 := lh s8; have hc1n : c.alloc.1.n = c.n := alloc_n c
  have ha2 : c.alloc.2 < c.n := by
   unfold CD.alloc
   split
   ·rename_i h; exact (HHH.out h).1
   ·split
    ·assumption
    ·have := HKN.out; show 0 < c.n; omega
  have HA1 := lh hc1n; have HA2 := lh ha2; clear el s1 s2 s3 s4 s5 s6 s7 s8 hc1n ha2; go_upto_region 4 with fail
  refine wp_region_lit ?_; refine rn rfl (by go_simp <;> with_reducible rfl) ?_; simp only [nrm]; refine lp fun K hK => ?_; refine wp_call_f (l := [.tmp 20]) rfl [.agg #[.int .i64 (kindOf n), .int .i64 (n.first : Int), .slice A n.l.length ca]] rfl (enter_split _) (HSP.out.mono ?_); rintro e w2 ⟨lv, kv, rv, rfl, hlv, ⟨gk, hgk, hdk⟩, hrv, hf2⟩; obtain ⟨Al, cl, csl, rfl, _, _, _, _⟩ := hlv.parts; obtain ⟨Ar, cr, csr, rfl, _, _, _, _⟩ := hrv.parts; refine ⟨_, rfl, hK _ _ ?_⟩; simp only [nrm]; clear hK b0 b1 b2
  iterate 4 (refine rn rfl (by go_simp <;> with_reducible rfl) ?_; simp only [nrm])
  refine lp fun K hK => ?_; refine wp_alloc_blk 88 rfl (.agg #[.int .i64 0, .int .i64 0, .slice none 0 0]) znd zero_nd rfl fun w3 hb7 hf3 hz3 => hK _ _ ?_; simp only [nrm]; clear hK; refine lp fun K hK => ?_; refine wp_alloc_blk 88 rfl (.agg #[.int .i64 0, .int .i64 0, .slice none 0 0]) znd zero_nd rfl fun w4 hb9 hf4 hz4 => hK _ _ ?_; simp only [nrm]; clear hK; refine lp fun K hK => ?_; refine wp_store_blk 88 (.tmp 7) (.tmp 22) rfl [.int .i64 (kindOf n.left), .int .i64 (n.left.first : Int), .slice Al n.left.l.length cl] rfl rfl (hb7.fr hf4 (by simp)) size_nd rfl three_cells fun w5 hb75 hf5 hz5 => hK _ _ ?_; simp only [Act.put]; clear hK; refine rn rfl (by go_simp <;> with_reducible rfl) ?_; simp only [nrm]; refine lp fun K hK => ?_; refine wp_store_blk 88 (.tmp 9) (.tmp 24) rfl [.int .i64 (kindOf n.right), .int .i64 (n.right.first : Int), .slice Ar n.right.l.length cr] rfl rfl (hb9.fr hf5 (by simp; omega)) size_nd rfl three_cells fun w6 hb96 hf6 hz6 => hK _ _ ?_; simp only [Act.put]; clear hK; refine wpList_nil ?_; have hz2 := hf2.size; have hlt21 := HB21.out.lt; have hf26 : Fr [] w2 w6 := (((hf3.trans hf4 (by simp)).trans hf5 (fun q hq => .inr (by have := List.mem_singleton.1 hq; omega))).trans hf6 (fun q hq => .inr (by have := List.mem_singleton.1 hq; omega))); have hf16 := hf2.trans hf26 (by simp); have HH6 := lh (HH1.out.frame hf16); have HB7 := lh (hb75.fr hf6 (by simp; omega)); have HB9 := lh hb96; have HB26 := lh (HB21.out.fr hf16 (by simp)); have HLV := lh (hlv.fr hf26 (by simp)); have HRV := lh (hrv.fr hf26 (by simp)); have HGK := lh (hgk.fr hf26 (by simp)); have HDK := lh hdk; have HF6 := lh (HF1.out.trans hf16 (by simp)); obtain ⟨kl, hkl⟩ := nm (w2.heap.size); obtain ⟨kr, hkr⟩ := nm (w3.heap.size); have hklr : w.heap.size + 2 <= kl := by omega
  have hklr2 : kl < kr := by omega
  rw [<- hkl] at HB7 ⊢; rw [<- hkr] at HB9 ⊢; have HAL := lh (alloc_ch HP.out HH6.out HE.out HHH.out); obtain ⟨Ak, ck, ok, rfl, _, _⟩ := hgk; clear hb7 hf3 hz3 hb9 hf4 hz4 hb75 hf5 hz5 hb96 hf6 hz6 hf26 hf16 hlv hrv hdk hf2 hz2 hkl hkr HSP hlt21; go_wp2_with fail; refine HAL.out.mono ?_; rintro e w7 ⟨rfl, hc7, hf7⟩; have HC7 := lh hc7; have HB77 := lh (HB7.out.fr hf7 (by simp; omega)); have HB97 := lh (HB9.out.fr hf7 (by simp; omega)); have HB27 := lh (HB26.out.fr hf7 (by simp; omega)); have hE7 : ∀ q, E q -> q ∈ [bc] -> w6.heap.size <= q := fun q hq hm => absurd (List.mem_singleton.1 hm) (HDM.out q (HED.out q hq).1).1; have HLV7 := lh (HLV.out.fr hf7 hE7); have HRV7 := lh (HRV.out.fr hf7 hE7); have HGK7 := lh (HGK.out.frD hf7 (fun hm => hE7 gk HDK.out hm)); have HF7 : Hid (Fr [bc, bn, bs] w w7) := lh ((HF6.out.mono (T := [bc, bn, bs]) (by simp)).trans hf7 (fun q hq => .inl (by simp at hq ⊢; omega))); have HW1 := lh (write_ch HC7.out HLV7.out (by rw [HA1.out]; exact HKN.out) HL7.out HL3.out); have d0 := HB77.out.at_ (i := 0) rfl; have d1 := HB77.out.at_ (i := 1) rfl; have d2 := HB77.out.at_ (i := 2) rfl; clear hc7 hf7 hE7 HAL HLV HRV HGK HB7 HB9 HB26 HF6; go_wp2_with fail; refine HW1.out.mono ?_; rintro e w8 ⟨rfl, hc8, hf8⟩; have HC8 := lh hc8; have HB98 := lh (HB97.out.fr hf8 (by simp; omega)); have HB28 := lh (HB27.out.fr hf8 (by simp; omega)); have hE8 : ∀ q, E q -> q ∈ [bn, bs] -> w7.heap.size <= q := fun q hq hm => by have := HDM.out q (HED.out q hq).1; simp at hm; omega
  have HRV8 := lh (HRV7.out.fr hf8 hE8); have HGK8 := lh (HGK7.out.frD hf8 (fun hm => hE8 gk HDK.out hm)); have HF8 : Hid (Fr [bc, bn, bs] w w8) := lh (HF7.out.trans hf8 (fun q hq => .inl (by simp at hq ⊢; omega))); have HW2 := lh (write_ch HC8.out HRV8.out (by show c.alloc.2 < c.alloc.1.n; rw [HA1.out]; exact HA2.out) HL8.out HL4.out); clear hc8 hf8 hE8 HW1 d0 d1 d2 HRV7 HGK7 HB77 HB97 HB27 HF7 HLV7; have d0 := HB98.out.at_ (i := 0) rfl; have d1 := HB98.out.at_ (i := 1) rfl; have d2 := HB98.out.at_ (i := 2) rfl; go_wp2_with fail; refine HW2.out.mono ?_; rintro e w9 ⟨rfl, hc9, hf9⟩; have HC9 := lh hc9; have HB29 := lh (HB28.out.fr hf9 (by simp; omega)); have hE9 : ∀ q, E q -> q ∈ [bn, bs] -> w8.heap.size <= q := fun q hq hm => by have := HDM.out q (HED.out q hq).1; simp at hm; omega
  have HGK9 := lh (HGK8.out.frD hf9 (fun hm => hE9 gk HDK.out hm)); have HF9 : Hid (Fr [bc, bn, bs] w w9) := lh (HF8.out.trans hf9 (fun q hq => .inl (by simp at hq ⊢; omega))); clear hc9 hf9 hE9 HW2 d0 d1 d2 HRV8 HGK8 HB98 HB28 HF8
  go_wp2_with (refine wpL_store rfl 91 (.tmp 6) (.tmp 37) rfl [.slice Ak n.key.length ck, .int .i64 ((c.alloc.2 : Nat) : Int)] rfl rfl HB29.out size_up rfl two_cells ?_)
  intro w10 hb10 hf10 hz10; have hE10 : ∀ q, E q -> q ∈ [w.heap.size + 1] -> w9.heap.size <= q := fun q hq hm => absurd (List.mem_singleton.1 hm) (HED.out q hq).2; have hf010 : Fr [bc, bn, bs] w w10 := HF9.out.trans hf10 (fun q hq => .inr (by have := List.mem_singleton.1 hq; omega))
  have HX : Hid (R (.returned (.agg #[.slice Ak n.key.length ck, .int .i64 ((c.alloc.2 : Nat) : Int)])) w10) := lh (HQ.out _ _ ⟨_, rfl, ⟨_, rfl, gk, HGK9.out.frD hf10 (fun hm => hE10 gk HDK.out hm), (HED.out gk HDK.out).1⟩, (HC9.out.frS hf10 (fun q hq => .inr (by
   have h1 := List.mem_singleton.1 hq; have h3 := HZS.out; exact ⟨by omega, fun hq => (HED.out q hq).2 h1, by omega⟩))).weak (fun q hq => (HED.out q hq).1) HDM.out, hf010⟩)
  have HB10 := lh hb10; clear hb10 hf10 hz10 hf010 hE10; go_wp2_with fail; exact ret_blk (g := w.heap.size + 1) (t' := 91) (cs := [.slice Ak n.key.length ck, .int .i64 ((c.alloc.2 : Nat) : Int)]) (d := _) rfl rfl HB10.out Tryz.underlying91 rfl size_up HX.out
end
end
section
structure LayOk (c : CD) (k : Nat) (n : Nd) : Prop where
 k : k < c.n
 ok : n.ok
 size : n.size <= if n.lf then 680 else 780
 e : c.e = 0
 head : c.head ≠ 0 -> c.head < c.n /\ ∃ j, c.nx c.head = some j
def PutW : Nat -> CD -> Nat -> It -> CD -> (Ky × Nat) -> Prop
 | 0, _, _, _, _, _ => False
 | f + 1, c, k, x, c', u => ∃ n, c.N k = some n /\ KRise n.l /\ c.e = 0 /\
  ((n.lf = true /\ LayOk c k { n with l := leafPut n.l x } /\ (c', u) = c.lay k { n with l := leafPut n.l x }) ∨
   (n.lf = false /\ ∃ c1 u1, PutW f c (n.child (n.way x.key)) x c1 u1 /\
    ((u1.2 = 0 /\ c' = c1 /\ u = ([], 0)) ∨ (u1.2 ≠ 0 /\ LayOk c1 k { n with l := insAt n.l (n.way x.key) ⟨u1.1, [], u1.2⟩ } /\ (c', u) = c1.lay k { n with l := insAt n.l (n.way x.key) ⟨u1.1, [], u1.2⟩ }))))
def JoinW (c : CD) (k : Nat) (n : Nd) (i : Nat) (c' : CD) (u' : Ky × Nat) : Prop :=
 ∃ a b y m, n.l[i]? = some y /\ c.N (n.child i) = some a /\ c.N (n.child (i + 1)) = some b /\ a.lf = b.lf /\ m = a.with_ y.key b /\ m.ok /\
  ((m.size <= 512 /\ LayOk ((c.write (n.child i) m).free (n.child (i + 1))) k { n with l := delAt n.l i } /\ (c', u') = ((c.write (n.child i) m).free (n.child (i + 1))).lay k { n with l := delAt n.l i }) ∨
   (512 < m.size /\ m.size <= (if m.lf then 680 else 780) /\ LayOk ((c.write (n.child i) m.left).write (n.child (i + 1)) m.right) k { n with l := reKey n.l i m.key } /\ (c', u') = ((c.write (n.child i) m.left).write (n.child (i + 1)) m.right).lay k { n with l := reKey n.l i m.key }))
def MendW (c : CD) (k : Nat) (n : Nd) (i : Nat) (u : Ky × Nat) (c' : CD) (u' : Ky × Nat) : Prop :=
 n.ok /\ n.size <= 512 /\ i <= n.l.length /\
  ((u.2 ≠ 0 /\ LayOk c k { n with l := insAt n.l i ⟨u.1, [], u.2⟩ } /\ (c', u') = c.lay k { n with l := insAt n.l i ⟨u.1, [], u.2⟩ }) ∨
   (u.2 = 0 /\ ∃ x, c.N (n.child i) = some x /\ (((c.e ≠ 0 ∨ 170 <= x.size ∨ n.l = []) /\ c' = c /\ u' = ([], 0)) ∨ (c.e = 0 /\ x.size < 170 /\ n.l ≠ [] /\ JoinW c k n (i - 1) c' u'))))
def CutW : Nat -> CD -> Nat -> Ky -> CD -> Bool -> (Ky × Nat) -> Prop
 | 0, _, _, _, _, _, _ => False
 | f + 1, c, k, key, c', is, u => ∃ n, c.N k = some n /\ KRise n.l /\ c.e = 0 /\
  ((n.lf = true /\ u = ([], 0) /\ is = isAt n.l key /\ ((isAt n.l key = true /\ c' = c.write k { n with l := delAt n.l (placeOf n.l key) } /\ Nd.ok { n with l := delAt n.l (placeOf n.l key) } /\ Nd.size { n with l := delAt n.l (placeOf n.l key) } <= 512) ∨ (isAt n.l key = false /\ c' = c))) ∨
   (n.lf = false /\ ∃ c1 is1 u1, CutW f c (n.child (n.way key)) key c1 is1 u1 /\
    ((is1 = false /\ is = false /\ c' = c1 /\ u = ([], 0)) ∨ (is1 = true /\ is = true /\ MendW c1 k n (n.way key) u1 c' u))))
theorem way_le (n : Nd) (key : Ky) : n.way key <= n.l.length := by unfold Nd.way; exact (List.takeWhile_sublist _).length_le
theorem place_le (l : List It) (key : Ky) : placeOf l key <= l.length := by unfold placeOf; exact (List.takeWhile_sublist _).length_le
theorem rise_keys {l : List It} (h : Rise (entOf l)) : KRise l := by
 unfold Rise entOf at h; rw [List.pairwise_map] at h; exact h
section
variable {c c' : CD} {U F R P : List Nat} {k h : Nat} {n : Nd} {lo hi : Option Ky} {E : En}
theorem layOk_of (ha : Acc c (k :: U) F) (he : c.e = 0) (hok : n.ok) (hs : n.size <= if n.lf then 680 else 780) : LayOk c k n := ⟨by
 have := (ha.mem (k := k) (.inl (List.mem_cons_self ..))).2; have := ha.next2; omega, hok, hs, he, head_ok ha⟩
theorem ins_lay {A B : List It} {u : Ky × Nat} (hl : n.l = A ++ B) (hlf : n.lf = false) (hok : n.ok) (hsz : n.size <= 512) (u1 : 1 <= u.1.length) (u2 : u.1.length <= 96) (hu : u.2 < 65536) (ha : Acc c (k :: U) F) (he : c.e = 0) :
  LayOk c k { n with l := A ++ ⟨u.1, [], u.2⟩ :: B } := by
 have hsz' : Nd.size { n with l := A ++ ⟨u.1, [], u.2⟩ :: B } = n.size + (3 + u.1.length) := by
  rw [size_eq, size_eq, hl, sumB_append, sumB_append, sumB_cons]; simp only [ibn, hlf, if_false, Bool.false_eq_true]; omega
 have hlen := items_few hsz; refine layOk_of ha he ⟨?_, fun y hy => ?_, hok.first, hok.bare⟩ (by show _ <= if n.lf = true then 680 else 780; rw [if_neg (by rw [hlf]; decide), hsz']; omega)
 ·show (A ++ ⟨u.1, [], u.2⟩ :: B).length < 65536
  have : n.l.length = A.length + B.length := by rw [hl, List.length_append]
  rw [List.length_append, List.length_cons]; omega
 ·show y.ok n.lf
  rcases List.mem_append.1 hy with hy | hy
  ·exact hok.item y (by rw [hl]; exact List.mem_append_left _ hy)
  ·rcases List.mem_cons.1 hy with rfl | hy
   ·exact ⟨u1, u2, Nat.zero_le _, hu, by rw [hlf]; rfl⟩
   ·exact hok.item y (by rw [hl]; exact List.mem_append_right _ hy)
theorem putW_ok : ∀ (h : Nat) {f : Nat} {c : CD} {k : Nat} {lo hi : Option Ky} {E : En} {P R F : List Nat} {x : It}, h < f -> Sub c.N 1 h k lo hi E P -> Acc c (P ++ R) F -> c.e = 0 -> x.ok true -> geLo lo x.key -> ltHi hi x.key ->
  ∀ c' u, putF f c k x = some (c', u) -> PutW f c k x c' u
 | 0, f, c, k, lo, hi, E, P, R, F, x, hf, hs, ha, he, hx, h1, h2 => by
  intro c' u hp; obtain ⟨f, rfl⟩ : ∃ g, f = g + 1 := ⟨f - 1, by omega⟩; obtain ⟨n, P', e1, hok, hsz, hm, rfl, hlf, rfl, rfl, hr, hw⟩ := hs; have hi' : ∀ y ∈ n.l, y.ok true := fun y hy => by have := hok.item y hy; rwa [hlf] at this
  obtain ⟨z1, z2, z3⟩ := leafPut_size hx hi'; have hsE : n.size = 3 + sumB true n.l := by rw [size_eq, hlf]; rfl
  have hsE' : Nd.size { n with l := leafPut n.l x } = 3 + sumB true (leafPut n.l x) := by rw [size_eq]; simp only [hlf]; rfl
  have hfew := items_few hsz; unfold putF at hp; rw [e1] at hp
  simp only at hp
  rw [if_pos hlf] at hp; injection hp with hp; refine ⟨n, e1, rise_keys hr, he, .inl ⟨hlf, ?_, hp.symm⟩⟩; refine layOk_of (U := R) (F := F) (by simpa using ha) he ⟨?_, fun y hy => ?_, hok.first, hok.bare⟩ (by rw [hsE']; simp only [hlf, if_true]; omega)
  ·show (leafPut n.l x).length < 65536; omega
  ·show y.ok n.lf
   rw [hlf]; rcases leafPut_mem hy with rfl | hy | ⟨z, hz, rfl⟩
   ·exact hx
   ·exact hi' y hy
   ·have q := hi' z hz; exact ⟨q.k1, q.k2, hx.v, q.at_, by simpa using q.bare⟩
 | h + 1, f, c, k, lo, hi, E, P, R, F, x, hf, hs, ha, he, hx, h1, h2 => by
  intro c2 u2 hp; obtain ⟨f, rfl⟩ : ∃ g, f = g + 1 := ⟨f - 1, by omega⟩; obtain ⟨n, P', e1, hok, hsz, hm, rfl, hlf, hK⟩ := hs; obtain ⟨A, B, hl, hAl, hAt, hBd, g1, g2⟩ := way_split (n := n) h1 h2; have hkeys := (Kids.keys Sub.fine hK).1; have hkeys0 := hkeys; rw [hl] at hK hkeys; obtain ⟨EA, PA, E0, P0, EB, PB, kL, k0, kR, rfl, rfl⟩ := Kids.focus.1 hK; have hch : n.child (n.way x.key) = chOf n.first A := by unfold Nd.child; rw [hAt]
  have haI : Acc c (P0 ++ (k :: (PA ++ PB) ++ R)) F := ha.swap (by
   rw [List.perm_iff_count]; intro a; simp only [List.count_append, List.count_cons]; omega)
  obtain ⟨c', u, ep, sm, hres⟩ := put_ok h (f := f) (by omega) k0 haI he hx g1 g2; have hW := putW_ok h (f := f) (by omega) k0 haI he hx g1 g2 c' u ep; unfold putF at hp; rw [e1] at hp
  simp only at hp
  rw [if_neg (by rw [hlf]; decide), hch, ep] at hp
  simp only at hp
  refine ⟨n, e1, hkeys0, he, .inr ⟨hlf, c', u, by rw [hch]; exact hW, ?_⟩⟩
  by_cases hu0 : u.2 = 0
  ·rw [if_pos hu0] at hp; injection hp with hp; injection hp with hp1 hp2; exact .inl ⟨hu0, hp1.symm, hp2.symm⟩
  ·rw [if_neg hu0] at hp; injection hp with hp; refine .inr ⟨hu0, ?_, hp.symm⟩; have hins : insAt n.l (n.way x.key) ⟨u.1, [], u.2⟩ = A ++ ⟨u.1, [], u.2⟩ :: B := by unfold insAt; rw [hAt, hBd]
   rw [hins]; rcases hres with ⟨e0, Pn, Fn, ha', hR, hres⟩ | ⟨_, u0, _⟩
   ·rcases hres with ⟨u0, _⟩ | ⟨_, u1, u2, _, _, E1, P1, E2, P2, s1, s2, eE, rfl⟩
    ·exact absurd u0 hu0
    ·have hu : u.2 < 65536 := by
      have := (ha'.mem (k := u.2) (.inl (List.mem_append_left _ (List.mem_append_right _ s2.head)))).2; have := ha'.next2; have := ha'.few; omega
     refine ins_lay (U := (P1 ++ P2) ++ (PA ++ PB ++ R)) (F := Fn) hl hlf hok hsz u1 u2 hu (ha'.swap ?_) e0; rw [List.perm_iff_count]; intro a; simp only [List.count_append, List.count_cons]; omega
   ·exact absurd u0 hu0
end
end
section
section
variable {c c' : CD} {U F R P : List Nat} {k h : Nat} {n : Nd} {lo hi : Option Ky} {E : En}
theorem joinW_ok {A B : List It} {y : It} {E1 E2 : En} {PA P1 P2 PB : List Nat} {a b : Nd} (hl : n.l = A ++ y :: B) (hlf : n.lf = false) (hok : n.ok) (hsz : n.size <= 512)
  (na : c.N (chOf n.first A) = some a) (aok : a.ok) (asz : a.size <= 512) (fa : NF c.N h a (loOf lo A) (some y.key) E1 P1)
  (nb : c.N y.at_ = some b) (bok : b.ok) (bsz : b.size <= 512) (fb : NF c.N h b (some y.key) (hiOf hi B) E2 P2)
  (hss : a.size + b.size <= 512 + 169) (g1 : geLo (loOf lo A) y.key) (g2 : ltHi (hiOf hi B) y.key)
  (ha : Acc c (k :: (PA ++ ((chOf n.first A :: P1) ++ (y.at_ :: P2)) ++ PB) ++ R) F) (he : c.e = 0) :
  ∀ c' u, joinF c k n A.length = some (c', u) -> JoinW c k n A.length c' u := by
 intro c2 u2 hj; have hc1 : n.child A.length = chOf n.first A := by unfold Nd.child; rw [hl, List.take_left]
 have hc2 : n.child (A.length + 1) = y.at_ := by
  unfold Nd.child; rw [hl, show A ++ y :: B = (A ++ [y]) ++ B by simp, show A.length + 1 = (A ++ [y]).length by simp, List.take_left, chOf_snoc]
 have hy : n.l[A.length]? = some y := by rw [hl, List.getElem?_append_right (Nat.le_refl _), Nat.sub_self]; rfl
 have hyok := hok.item y (by rw [hl]; exact List.mem_append_right _ (List.mem_cons_self ..)); have hab : a.lf = b.lf := by rw [fa.kind, fb.kind]
 obtain ⟨m, hm⟩ := nm (a.with_ y.key b); have mok : m.ok := by rw [hm]; exact with_ok aok bok hab ⟨hyok.k1, hyok.k2⟩ (by have := items_few asz; have := items_few bsz; omega)
 have msz : m.size = if a.lf then a.size + b.size - 3 else a.size + b.size + y.key.length - 2 := by rw [hm]; exact with_size hab _
 have mlf : m.lf = a.lf := by rw [hm]; rfl
 have mf : NF c.N h m (loOf lo A) (hiOf hi B) (E1 ++ E2) (P1 ++ P2) := by rw [hm]; exact fa.with_ fb g2 g1
 have hyk := hyok.k2; obtain ⟨p, hp⟩ := nm (chOf n.first A); obtain ⟨q, hq⟩ := nm (y.at_); rw [<- hp] at hc1 ha na; rw [<- hq] at hc2 ha nb; unfold joinF at hj; rw [hc1, hc2, na, nb, hy] at hj
 simp only at hj
 rw [<- hm] at hj; refine ⟨a, b, y, m, hy, by rw [hc1]; exact na, by rw [hc2]; exact nb, hab, hm, mok, ?_⟩; rw [hc1, hc2]
 by_cases hs : m.size <= 512
 ·rw [if_pos hs] at hj; injection hj with hj; refine .inl ⟨hs, ?_, hj.symm⟩
  have hdel : delAt n.l A.length = A ++ B := by
   unfold delAt; rw [hl, List.take_left, show A ++ y :: B = (A ++ [y]) ++ B by simp, show A.length + 1 = (A ++ [y]).length by simp, List.drop_left]
  rw [hdel]
  have hsz' : Nd.size { n with l := A ++ B } <= 512 := by
   rw [size_eq, hl, sumB_append, sumB_cons] at hsz; rw [size_eq, sumB_append]
   simp only
   omega
  have had : Acc ((c.write p m).free q) (k :: (PA ++ (p :: (P1 ++ P2)) ++ PB) ++ R) (q :: F) := by
   refine Acc.free ((ha.write (k := p) (by simp) mok hs).swap ?_); rw [List.perm_iff_count]; intro z; simp only [List.count_append, List.count_cons]; omega
  refine layOk_of (U := (PA ++ (p :: (P1 ++ P2)) ++ PB) ++ R) had he ⟨?_, fun z hz => hok.item z (by rw [hl]; rcases List.mem_append.1 hz with hz | hz; exact List.mem_append_left _ hz; exact List.mem_append_right _ (List.mem_cons_of_mem _ hz)), hok.first, hok.bare⟩ (by show _ <= if n.lf = true then 680 else 780; rw [if_neg (by rw [hlf]; decide)]; omega)
  show (A ++ B).length < 65536
  have := hok.few; rw [hl, List.length_append, List.length_cons] at this; rw [List.length_append]; omega
 ·rw [if_neg hs] at hj; injection hj with hj; have hms : m.size <= if m.lf then 680 else 780 := by rw [mlf, msz]; split <;> omega
  refine .inr ⟨by omega, hms, ?_, hj.symm⟩; obtain ⟨s1, s2, s3, s4, s5, s6, s7, s8⟩ := Nd.split_ok mok (by omega) hms; obtain ⟨x, hx⟩ : ∃ x, m.l[m.cutAt]? = some x := ⟨_, List.getElem?_eq_getElem s1⟩; have hkey : m.key = x.key := by unfold Nd.key; rw [hx]; rfl
  have hxo := mok.item x (List.mem_of_getElem? hx); have had : Acc ((c.write p m.left).write q m.right) (k :: (PA ++ ((p :: P1) ++ (q :: P2)) ++ PB) ++ R) F := (ha.write (by simp) s7 s3).write (by simp) s8 s4
  have hre : reKey n.l A.length m.key = A ++ { y with key := m.key } :: B := by
   unfold reKey; rw [hl, List.take_left, List.drop_left]
  rw [hre]; have hk96 : m.key.length <= 96 := by rw [hkey]; exact hxo.k2
  have hk1 : 1 <= m.key.length := by rw [hkey]; exact hxo.k1
  have hsz' : Nd.size { n with l := A ++ { y with key := m.key } :: B } <= 620 := by
   rw [size_eq, hl, sumB_append, sumB_cons] at hsz; rw [size_eq, sumB_append, sumB_cons]; simp only [hlf, ibn, if_false, Bool.false_eq_true] at hsz ⊢; omega
  refine layOk_of (U := (PA ++ ((p :: P1) ++ (q :: P2)) ++ PB) ++ R) had he ⟨?_, fun z hz => ?_, hok.first, hok.bare⟩ (by show _ <= if n.lf = true then 680 else 780; rw [if_neg (by rw [hlf]; decide)]; omega)
  ·show (A ++ { y with key := m.key } :: B).length < 65536
   have := hok.few; rw [hl, List.length_append, List.length_cons] at this; rw [List.length_append, List.length_cons]; exact this
  ·show z.ok n.lf
   rcases List.mem_append.1 hz with hz | hz
   ·exact hok.item z (by rw [hl]; exact List.mem_append_left _ hz)
   ·rcases List.mem_cons.1 hz with rfl | hz
    ·exact ⟨hk1, hk96, hyok.v, hyok.at_, hyok.bare⟩
    ·exact hok.item z (by rw [hl]; exact List.mem_append_right _ (List.mem_cons_of_mem _ hz))
theorem cutW_ok : ∀ (h : Nat) {f : Nat} {c : CD} {k : Nat} {lo hi : Option Ky} {E : En} {P R F : List Nat} {key : Ky}, h < f -> Sub c.N 1 h k lo hi E P -> Acc c (P ++ R) F -> c.e = 0 -> geLo lo key -> ltHi hi key ->
  ∀ c' is u, cutF f c k key = some (c', is, u) -> CutW f c k key c' is u
 | 0, f, c, k, lo, hi, E, P, R, F, key, hf, hs, ha, he, h1, h2 => by
  intro c2 is2 u2 hp; obtain ⟨f, rfl⟩ : ∃ g, f = g + 1 := ⟨f - 1, by omega⟩; obtain ⟨n, P', e1, hok, hsz, hm, rfl, hlf, rfl, rfl, hr, hw⟩ := hs; obtain ⟨q1, q2⟩ := leafCut (key := key) hr; unfold cutF at hp; rw [e1] at hp
  simp only at hp
  rw [if_pos hlf] at hp; refine ⟨n, e1, rise_keys hr, he, .inl ⟨hlf, ?_⟩⟩
  cases his : isAt n.l key with
  | false =>
   rw [if_neg (by rw [his]; decide)] at hp; injection hp with hp; injection hp with hp1 hp2; injection hp2 with hp2 hp3; exact ⟨hp3.symm, hp2.symm, .inr ⟨rfl, hp1.symm⟩⟩
  | true =>
   rw [if_pos his] at hp; injection hp with hp; injection hp with hp1 hp2; injection hp2 with hp2 hp3; obtain ⟨d1, d2, d3, d4⟩ := q2 his; refine ⟨hp3.symm, hp2.symm, .inl ⟨rfl, hp1.symm, ⟨?_, fun x hx => hok.item x (d4 x hx), hok.first, hok.bare⟩, ?_⟩⟩
   ·show (delAt n.l (placeOf n.l key)).length < 65536
    have := hok.few; omega
   ·rw [size_eq] at hsz ⊢; simp only [hlf, if_true] at hsz ⊢; omega
 | h + 1, f, c, k, lo, hi, E, P, R, F, key, hf, hs, ha, he, h1, h2 => by
  intro c2 is2 u2 hp; obtain ⟨f, rfl⟩ : ∃ g, f = g + 1 := ⟨f - 1, by omega⟩; obtain ⟨n, P', e1, hok, hsz, hm, rfl, hlf, hK⟩ := hs; obtain ⟨A, B, hl, hAl, hAt, hBd, g1, g2⟩ := way_split (n := n) h1 h2; have hkeys := (Kids.keys Sub.fine hK).1
  have hmid : ∀ {A' B' : List It} {y : It}, n.l = A' ++ y :: B' -> geLo (loOf lo A') y.key /\ ltHi (hiOf hi B') y.key := fun e => by
   rw [e] at hK; exact mid_key Sub.fine hK
  have hkeys0 := hkeys; rw [hl] at hK hkeys; obtain ⟨EA, PA, E0, P0, EB, PB, kL, k0, kR, rfl, rfl⟩ := Kids.focus.1 hK; have hch : n.child (n.way key) = chOf n.first A := by unfold Nd.child; rw [hAt]
  have haI : Acc c (P0 ++ (k :: (PA ++ PB) ++ R)) F := ha.swap (by
   rw [List.perm_iff_count]; intro a; simp only [List.count_append, List.count_cons]; omega)
  obtain ⟨c', is, u, ep, his, hno, hyes⟩ := cut_ok h (f := f) (by omega) k0 haI he g1 g2; have hW := cutW_ok h (f := f) (by omega) k0 haI he g1 g2 c' is u ep
  have epf : cutF (f + 1) c k key = if is then (mendF c' k n (n.way key) u).map fun r => (r.1, true, r.2) else some (c', false, ([], 0)) := by
   unfold cutF; rw [e1]
   simp only
   rw [if_neg (by rw [hlf]; decide), hch, ep]
  rw [epf] at hp; refine ⟨n, e1, hkeys0, he, .inr ⟨hlf, c', is, u, by rw [hch]; exact hW, ?_⟩⟩
  cases is with
  | false =>
   rw [if_neg (by decide)] at hp; injection hp with hp; injection hp with hp1 hp2; injection hp2 with hp2 hp3; exact .inl ⟨rfl, hp2.symm, hp1.symm, hp3.symm⟩
  | true =>
   rw [if_pos rfl] at hp; obtain ⟨r, hr1, hr2⟩ := Option.map_eq_some_iff.1 hp; injection hr2 with hr2 hr3; injection hr3 with hr3 hr4; refine .inr ⟨rfl, hr3.symm, hok, hsz, way_le n key, ?_⟩; rw [<- hr2, <- hr4]; obtain ⟨sm, hres⟩ := hyes rfl; clear ep epf his hno hyes; unfold mendF at hr1; rw [hch] at hr1; rcases hres with ⟨e0, Pn, Fn, ha', hR, hres⟩ | ⟨e5, u0, hR, ⟨n0, hn0⟩, hful⟩
   ·have mono : ∀ {Q : List Nat}, (∀ p ∈ Q, p ∈ PA ∨ p ∈ PB) -> ∀ cc lo hi E P', (∀ p ∈ P', p ∈ Q) -> Sub c.N 1 h cc lo hi E P' -> Sub c'.N 1 h cc lo hi E P' := fun hQ cc lo hi E P' hP hsub =>
     hsub.congr fun p hp => hR p (List.mem_append_left _ (List.mem_cons_of_mem _ (List.mem_append.2 (hQ p (hP p hp)))))
    have kL' := KidsL.mono (mono (Q := PA) (fun p hp => .inl hp)) (fun p hp => hp) kL; have kR' := KidsR.mono (mono (Q := PB) (fun p hp => .inr hp)) (fun p hp => hp) kR; rcases hres with ⟨u0, hsub⟩ | ⟨u0, u1, u2, u3, u4, E1, P1, E2, P2, s1, s2, eE, rfl⟩
    ·rw [if_neg (fun h => h u0)] at hr1; obtain ⟨x, Px, x1, x2, x3, _, rfl, x6⟩ := id hsub; rw [x1] at hr1
     simp only at hr1
     refine .inr ⟨u0, x, by rw [hch]; exact x1, ?_⟩
     by_cases hx : 170 <= x.size
     ·rw [if_pos (.inr (.inl hx))] at hr1; injection hr1 with hr1; exact .inl ⟨.inr (.inl hx), by rw [<- hr1], by rw [<- hr1]⟩
     ·have hnl : n.l ≠ [] := fun e => by rw [e] at hm; cases hm
      rw [if_neg (by rintro (h | h | h); exact h e0; exact hx h; exact hnl h), <- hAl] at hr1; refine .inr ⟨e0, by omega, hnl, ?_⟩; rw [<- hAl]; rcases List.eq_nil_or_concat A with hA0 | ⟨A', y, hA'⟩
      ·subst hA0; obtain ⟨rfl, rfl⟩ := kL'
       cases B with
       | nil => exact absurd hl hnl
       | cons y B =>
        obtain ⟨_, _, E2, P2, EB', PB', ⟨rfl, rfl⟩, b2, b3, rfl, rfl⟩ := (Kids.focus (A := [])).1 (show Kids (Sub c'.N 1 h) (some y.key) y.at_ ([] ++ B) hi EB PB from kR'); obtain ⟨z, Pz, z1, z2, z3, z4, rfl, z6⟩ := b2; obtain ⟨m1, m2⟩ := hmid hl
        exact joinW_ok (A := []) (B := B) (k := k) (F := Fn) (R := R) (P1 := Px) (P2 := Pz) (PA := []) (PB := PB') (lo := lo) (hi := hi) (a := x) (b := z) hl hlf hok hsz x1 x2 x3 x6 z1 z2 z3 z6 (by omega) m1 m2 (ha'.swap (by
         rw [List.perm_iff_count]; intro a; simp only [List.count_append, List.count_cons, chOf, List.nil_append]; omega)) e0 r.1 r.2 hr1
      ·rw [List.concat_eq_append] at hA'; subst hA'; obtain ⟨EA', PA', E1, P1, l1, l2, rfl, rfl⟩ := KidsL.snoc.1 kL'; obtain ⟨z, Pz, z1, z2, z3, z4, rfl, z6⟩ := l2; rw [chOf_snoc] at x1 ha'; rw [loOf_snoc] at x6; have hl' : n.l = A' ++ y :: B := by rw [hl]; simp
       obtain ⟨m1, m2⟩ := hmid hl'; have el : (A' ++ [y]).length - 1 = A'.length := by simp
       rw [el] at hr1 ⊢
       exact joinW_ok (A := A') (B := B) (y := y) (k := k) (F := Fn) (R := R) (P1 := Pz) (P2 := Px) (PA := PA') (PB := PB) (lo := lo) (hi := hi) (a := z) (b := x) hl' hlf hok hsz z1 z2 z3 z6 x1 x2 x3 x6 (by omega) m1 m2 (ha'.swap (by
        rw [List.perm_iff_count]; intro a; simp only [List.count_append, List.count_cons]; omega)) e0 r.1 r.2 hr1
    ·rw [if_pos u0] at hr1; injection hr1 with hr1
     have hu : u.2 < 65536 := by
      have := (ha'.mem (k := u.2) (.inl (List.mem_append_left _ (List.mem_append_right _ s2.head)))).2; have := ha'.next2; have := ha'.few; omega
     have hins : insAt n.l (n.way key) ⟨u.1, [], u.2⟩ = A ++ ⟨u.1, [], u.2⟩ :: B := by unfold insAt; rw [hAt, hBd]
     refine .inl ⟨u0, ?_, hr1.symm⟩; rw [hins]; refine ins_lay (U := (P1 ++ P2) ++ (PA ++ PB ++ R)) (F := Fn) hl hlf hok hsz u1 u2 hu (ha'.swap ?_) e0; rw [List.perm_iff_count]; intro a; simp only [List.count_append, List.count_cons]; omega
   ·rw [if_neg (fun h => h u0), hn0] at hr1
    simp only at hr1
    rw [if_pos (.inl (by rw [e5]; decide))] at hr1; injection hr1 with hr1; exact .inr ⟨u0, n0, by rw [hch]; exact hn0, .inl ⟨.inl (by rw [e5]; decide), by rw [<- hr1], by rw [<- hr1]⟩⟩
end
end
section
open Go.RowKit Go.ChangeMaps Go.MapKept Go.Maps Go.Sort Go.Shelf
def setV (l : List It) (k : Nat) (v : List UInt8) : List It := l.take k ++ match l.drop k with | y :: B => { y with v := v } :: B | [] => []
theorem place_take (l : List It) (key : Ky) : l.take (placeOf l key) = (l.takeWhile fun y => decide (klt y.key key)) /\ l.drop (placeOf l key) = l.dropWhile fun y => decide (klt y.key key) := by
 have e := List.takeWhile_append_dropWhile (p := fun y : It => decide (klt y.key key)) (l := l); have h1 : l.take (placeOf l key) = ((l.takeWhile fun y => decide (klt y.key key)) ++ l.dropWhile fun y => decide (klt y.key key)).take (l.takeWhile fun y => decide (klt y.key key)).length := by rw [e]; rfl
 have h2 : l.drop (placeOf l key) = ((l.takeWhile fun y => decide (klt y.key key)) ++ l.dropWhile fun y => decide (klt y.key key)).drop (l.takeWhile fun y => decide (klt y.key key)).length := by rw [e]; rfl
 rw [h1, h2, List.take_left, List.drop_left]; exact ⟨rfl, rfl⟩
theorem leafPut_is {l : List It} {x : It} (h : isAt l x.key = true) : leafPut l x = setV l (placeOf l x.key) x.v := by
 obtain ⟨h1, h2⟩ := place_take l x.key; unfold isAt at h; unfold leafPut setV; rw [h1, h2]
 cases hd : l.dropWhile fun y => decide (klt y.key x.key) with
 | nil => rw [hd] at h; cases h
 | cons y B =>
  rw [hd] at h; have hk : y.key = x.key := by simpa [headIs] using h
  simp only
  rw [if_pos hk]
theorem leafPut_no {l : List It} {x : It} (h : isAt l x.key = false) : leafPut l x = insAt l (placeOf l x.key) x := by
 obtain ⟨h1, h2⟩ := place_take l x.key; unfold isAt at h; unfold leafPut insAt; rw [h1, h2]
 cases hd : l.dropWhile fun y => decide (klt y.key x.key) with
 | nil => rfl
 | cons y B =>
  rw [hd] at h; have hk : ¬ y.key = x.key := by simpa [headIs] using h
  simp only
  rw [if_neg hk]
theorem isAt_lt {l : List It} {key : Ky} (h : isAt l key = true) : placeOf l key < l.length := by
 rcases place_head (l := l) (key := key) with h1 | h1
 ·exact h1.1
 ·rw [h1.2] at h; cases h
theorem setV_len (l : List It) (k : Nat) (v : List UInt8) : (setV l k v).length = l.length := by
 unfold setV; have h : (l.take k).length + (l.drop k).length = l.length := by rw [<- List.length_append, List.take_append_drop]
 cases hd : l.drop k with
 | nil => rw [hd] at h; simpa using h
 | cons y B => rw [hd] at h; simpa using h
theorem reKey_len (l : List It) (k : Nat) (v : Ky) : (reKey l k v).length = l.length := by
 unfold reKey; have h : (l.take k).length + (l.drop k).length = l.length := by rw [<- List.length_append, List.take_append_drop]
 cases hd : l.drop k with
 | nil => rw [hd] at h; simpa using h
 | cons y B => rw [hd] at h; simpa using h
theorem insAt_len (l : List It) {k : Nat} (x : It) (h : k <= l.length) : (insAt l k x).length = l.length + 1 := by
 unfold insAt; rw [List.length_append, List.length_cons, List.length_take, List.length_drop]; omega
theorem delAt_len (l : List It) {k : Nat} (h : k < l.length) : (delAt l k).length = l.length - 1 := by
 unfold delAt; rw [List.length_append, List.length_take, List.length_drop]; omega
theorem lay_same (c : CD) (k : Nat) (n : Nd) : (c.lay k n).1.pg = c.pg /\ (c.lay k n).1.n = c.n := by
 unfold CD.lay
 have ha : c.alloc.1.pg = c.pg := by
  unfold CD.alloc
  split
  ·rfl
  ·split
   ·rfl
   ·unfold CD.full; split <;> rfl
 split
 ·exact ⟨rfl, rfl⟩
 ·exact ⟨ha, alloc_n c⟩
theorem lay_eq {c c' : CD} {k : Nat} {n : Nd} {u : Ky × Nat} (h : (c', u) = c.lay k n) : c'.pg = c.pg /\ c'.n = c.n := by
 have h1 : c' = (c.lay k n).1 := congrArg Prod.fst h; rw [h1]; exact lay_same c k n
theorem PutW.same : ∀ {f : Nat} {c : CD} {k : Nat} {x : It} {c' : CD} {u : Ky × Nat}, PutW f c k x c' u -> c'.pg = c.pg /\ c'.n = c.n
 | 0, _, _, _, _, _, h => h.elim
 | f + 1, c, k, x, c', u, ⟨n, _, _, _, h⟩ => by
  rcases h with ⟨_, _, h⟩ | ⟨_, c1, u1, h1, h⟩
  ·exact lay_eq h
  ·obtain ⟨a, b⟩ := PutW.same h1; rcases h with ⟨_, rfl, _⟩ | ⟨_, _, h⟩
   ·exact ⟨a, b⟩
   ·exact ⟨(lay_eq h).1.trans a, (lay_eq h).2.trans b⟩
theorem JoinW.same {c : CD} {k : Nat} {n : Nd} {i : Nat} {c' : CD} {u' : Ky × Nat} (h : JoinW c k n i c' u') : c'.pg = c.pg /\ c'.n = c.n := by
 obtain ⟨a, b, y, m, _, _, _, _, _, _, h⟩ := h; rcases h with ⟨_, _, h⟩ | ⟨_, _, _, h⟩
 ·obtain ⟨a1, a2⟩ := lay_eq h; exact ⟨a1, a2⟩
 ·obtain ⟨a1, a2⟩ := lay_eq h; exact ⟨a1, a2⟩
theorem MendW.same {c : CD} {k : Nat} {n : Nd} {i : Nat} {u : Ky × Nat} {c' : CD} {u' : Ky × Nat} (h : MendW c k n i u c' u') : c'.pg = c.pg /\ c'.n = c.n := by
 obtain ⟨_, _, _, h⟩ := h; rcases h with ⟨_, _, h⟩ | ⟨_, x, _, h⟩
 ·exact lay_eq h
 ·rcases h with ⟨_, h, _⟩ | ⟨_, _, _, h⟩
  ·rw [h]; exact ⟨rfl, rfl⟩
  ·exact h.same
theorem CutW.same : ∀ {f : Nat} {c : CD} {k : Nat} {key : Ky} {c' : CD} {is : Bool} {u : Ky × Nat}, CutW f c k key c' is u -> c'.pg = c.pg /\ c'.n = c.n
 | 0, _, _, _, _, _, _, h => h.elim
 | f + 1, c, k, key, c', is, u, ⟨n, _, _, _, h⟩ => by
  rcases h with ⟨_, _, _, h⟩ | ⟨_, c1, is1, u1, h1, h⟩
  ·rcases h with ⟨_, h, _⟩ | ⟨_, h⟩
   ·rw [h]; exact ⟨rfl, rfl⟩
   ·rw [h]; exact ⟨rfl, rfl⟩
  ·obtain ⟨a, b⟩ := CutW.same h1; rcases h with ⟨_, _, h, _⟩ | ⟨_, _, h⟩
   ·rw [h]; exact ⟨a, b⟩
   ·obtain ⟨a2, b2⟩ := h.same; exact ⟨a2.trans a, b2.trans b⟩
section
variable {w0 wS w w' : World} {dk g bc bn bs : Nat} {s : PS} {X D D' : Nat -> Prop} {c : CD}
theorem PgC.to {c' : CD} (h : PgC w0 wS dk g s X c) (hs : c'.pg = c.pg /\ c'.n = c.n) : PgC w0 wS dk g s X c' := ⟨h.px, h.br, h.calm, hs.1.trans h.pg, hs.2.trans h.n⟩
theorem ItsC.setV {y : It} {kv vv av : Value} : ∀ {l : List It} {cs : List Value} {k : Nat} {v : List UInt8}, ItsC D w l cs -> l[k]? = some y -> (∃ g, BytesAt w vv v g /\ D g) -> ItsC D w (Go.Proofs.YtpjbdpepofnleaaGreat.setV l k v) (cs.set (k * 3 + 1) vv)
 | z :: l, a :: b :: d :: cs, 0, v, h, hk, hv => by
  have e : Go.Proofs.YtpjbdpepofnleaaGreat.setV (z :: l) 0 v = { z with v := v } :: l := rfl; rw [e]; exact ⟨⟨h.1.1, hv, h.1.2.2⟩, h.2⟩
 | z :: l, a :: b :: d :: cs, k + 1, v, h, hk, hv => by
  have ih := ItsC.setV (kv := kv) (av := av) (k := k) (v := v) h.2 (by simpa using hk) hv; have e : Go.Proofs.YtpjbdpepofnleaaGreat.setV (z :: l) (k + 1) v = z :: Go.Proofs.YtpjbdpepofnleaaGreat.setV l k v := rfl; rw [e, show (k + 1) * 3 + 1 = k * 3 + 1 + 1 + 1 + 1 by omega]; exact ⟨h.1, ih⟩
 | [], [], _, _, _, hk, _ => by simp at hk
 | [], _ :: _, _, _, h, _, _ => h.elim
 | _ :: _, [], _, _, h, _, _ => h.elim
 | _ :: _, [_], _, _, h, _, _ => h.elim
 | _ :: _, [_, _], _, _, h, _, _ => h.elim
theorem ItsC.setK {y : It} {kv vv av : Value} : ∀ {l : List It} {cs : List Value} {k : Nat} {v : Ky}, ItsC D w l cs -> l[k]? = some y -> (∃ g, BytesAt w kv v g /\ D g) -> ItsC D w (reKey l k v) (cs.set (k * 3) kv)
 | z :: l, a :: b :: d :: cs, 0, v, h, hk, hv => by
  have e : reKey (z :: l) 0 v = { z with key := v } :: l := rfl; rw [e]; exact ⟨⟨hv, h.1.2.1, h.1.2.2⟩, h.2⟩
 | z :: l, a :: b :: d :: cs, k + 1, v, h, hk, hv => by
  have ih := ItsC.setK (vv := vv) (av := av) (k := k) (v := v) h.2 (by simpa using hk) hv; have e : reKey (z :: l) (k + 1) v = z :: reKey l k v := rfl; rw [e, show (k + 1) * 3 = k * 3 + 1 + 1 + 1 by omega]; exact ⟨h.1, ih⟩
 | [], [], _, _, _, hk, _ => by simp at hk
 | [], _ :: _, _, _, h, _, _ => h.elim
 | _ :: _, [], _, _, h, _, _ => h.elim
 | _ :: _, [_], _, _, h, _, _ => h.elim
 | _ :: _, [_, _], _, _, h, _, _ => h.elim
structure Parts (D : Nat -> Prop) (w : World) (base : Nat) (A : Option Addr) (ca : Nat) (n : Nd) (cs : List Value) : Prop where
 own : w.ownsRow base 77 3 (.slice A n.l.length ca) n.l.length cs
 its : ItsC (fun q => D q /\ (Value.slice A n.l.length ca).ownBlock ≠ some q) w n.l cs
 dom : ∀ q, (Value.slice A n.l.length ca).ownBlock = some q -> D q
 cap : n.l.length <= ca
theorem NdV.open_ {base : Nat} {v : Value} {n : Nd} (h : NdV D w base v n) : ∃ A ca cs, v = .agg #[.int .i64 (kindOf n), .int .i64 (n.first : Int), .slice A n.l.length ca] /\ Parts D w base A ca n cs := by
 obtain ⟨sv, cs, rfl, h2, h3, h4⟩ := h; obtain ⟨A, c, rfl, h5, _⟩ := own_shape h2; exact ⟨A, c, cs, rfl, h2, h3, h4, h5⟩
section
variable {base : Nat} {A : Option Addr} {ca : Nat} {n : Nd} {cs : List Value}
theorem Parts.ge (h : Parts D w base A ca n cs) : ∀ q, (Value.slice A n.l.length ca).ownBlock = some q -> base <= q /\ q < w.heap.size := fun q hq => ⟨by have := (h.own.lt q hq).1; omega, own_lt h.own q hq⟩
end
end
end
end Go.Proofs.YtpjbdpepofnleaaGreat
