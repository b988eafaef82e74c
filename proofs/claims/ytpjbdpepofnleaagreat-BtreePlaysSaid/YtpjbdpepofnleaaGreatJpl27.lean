/-
  Joined by join.py: Ze Zf Za Zg Zh Rpl
-/
import Derived.Test.YtpjbdpepofnleaaGreatJpl26
set_option maxRecDepth 100000
set_option maxHeartbeats 32000000
namespace Go.Proofs.YtpjbdpepofnleaaGreat
section
open Go.RowKit Go.ChangeMaps Go.MapKept Go.Maps Go.Sort Go.Shelf
theorem orow_set {w : World} {base : Nat} {e : TypeId} {size n : Nat} {g cap : Nat} {xs : List Value} (h : w.ownsRow base e size (.slice (some ⟨g, 0, none⟩) n cap) n xs) (j : Nat) (u : Value) (_hj : j < xs.length) :
  (w.setCell ⟨g, j, none⟩ u).ownsRow base e size (.slice (some ⟨g, 0, none⟩) n cap) n (xs.set j u) := by
 refine ⟨by rw [List.length_set]; exact h.1, ?_⟩; rcases h.2 with ⟨hv, _⟩ | ⟨g', cap', cur, hv, hb, hh, hn, hc, hs, ht⟩
 ·cases hv
 ·injection hv with h1 h2 h3; simp only [Option.some.injEq, Addr.mk.injEq] at h1; obtain ⟨rfl, _⟩ := h1; subst h3; refine .inr ⟨g, cap, cur.setIfInBounds j u, rfl, hb, ?_, hn, hc, by simpa using hs, ?_⟩
  ·simp [World.setCell, Array.getElem?_modify, hh]
  ·rw [<- ht, Array.toList_setIfInBounds, List.take_set]
theorem orow_free {w : World} {base : Nat} {e : TypeId} {size n : Nat} {g cap : Nat} {xs : List Value} (h : w.ownsRow base e size (.slice (some ⟨g, 0, none⟩) n cap) n xs) (j : Nat) : w.frozen? ⟨g, j, none⟩ = false := by
 rcases h.2 with ⟨hv, _⟩ | ⟨g', cap', cur, hv, hb, hh, hn, hc, hs, ht⟩
 ·cases hv
 ·injection hv with h1 h2 h3; simp only [Option.some.injEq, Addr.mk.injEq] at h1; obtain ⟨rfl, _⟩ := h1
  simp [World.frozen?, hh]
theorem EntsC.take {D : Nat -> Prop} {w : World} : ∀ {E : En} {cs : List Value} (m : Nat), EntsC D w E cs -> EntsC D w (E.take m) (cs.take (m * 2))
 | [], [], m, _ => by simp only [List.take_nil]; trivial
 | _ :: _, _ :: _ :: _, 0, _ => by simp only [List.take_zero, Nat.zero_mul]; trivial
 | _ :: _, _ :: _ :: _, m + 1, h => by
  rw [show (m + 1) * 2 = m * 2 + 1 + 1 by omega, List.take_succ_cons, List.take_succ_cons, List.take_succ_cons]; exact ⟨h.1, EntsC.take m h.2⟩
theorem EntsC.drop {D : Nat -> Prop} {w : World} : ∀ {E : En} {cs : List Value} (m : Nat), EntsC D w E cs -> EntsC D w (E.drop m) (cs.drop (m * 2))
 | [], [], m, _ => by simp only [List.drop_nil]; trivial
 | _ :: _, _ :: _ :: _, 0, h => h
 | _ :: _, _ :: _ :: _, m + 1, h => by
  rw [show (m + 1) * 2 = m * 2 + 1 + 1 by omega, List.drop_succ_cons, List.drop_succ_cons, List.drop_succ_cons]; exact EntsC.drop m h.2
theorem EntsC.set {D : Nat -> Prop} {w : World} {k : Ky} {u v : List UInt8} {vv : Value} (hv : ∃ g, BytesAt w vv v g /\ D g) : ∀ {E : En} {cs : List Value} {i : Nat}, EntsC D w E cs -> E[i]? = some (k, u) -> EntsC D w (E.set i (k, v)) (cs.set (i * 2 + 1) vv)
 | [], [], i, _, h => by simp at h
 | _ :: _, _ :: _ :: _, 0, h, he => by
  simp only [List.getElem?_cons_zero, Option.some.injEq] at he; subst he; exact ⟨⟨h.1.1, hv⟩, h.2⟩
 | _ :: _, _ :: _ :: _, i + 1, h, he => by
  simp only [List.getElem?_cons_succ] at he; rw [show (i + 1) * 2 + 1 = (i * 2 + 1) + 1 + 1 by omega, List.set_cons_succ, List.set_cons_succ, List.set_cons_succ]; exact ⟨h.1, EntsC.set hv h.2 he⟩
def SrcR (p : Nat) (w : World) (v : Value) (E : En) : Prop := ∃ A c cs, v = .slice A E.length c /\ EntsC (fun q => q < p) w E cs /\ (0 < E.length -> ∃ g off, A = some ⟨g, off, none⟩ /\ ∀ (j : Nat) (u : Value), cs[j]? = some u -> w.cell? ⟨g, off + j, none⟩ = some u)
theorem RRow.src {p H : Nat} {w : World} {v : Value} {E : En} (h : RRow p H w v E) : SrcR p w v E := by
 obtain ⟨cs, h1, h2⟩ := h; obtain ⟨A, c, rfl, _⟩ := own_shape h1; refine ⟨A, c, cs, rfl, h2, fun h0 => ?_⟩; obtain ⟨g, rfl, hg⟩ := own_cell h1 h0; exact ⟨g, 0, rfl, fun j u hu => by rw [Nat.zero_add]; exact hg j u hu⟩
theorem SrcR.fr {p : Nat} {w w' : World} {v : Value} {E : En} (h : SrcR p w v E) (hf : Fr [] w w') : SrcR p w' v E := by
 obtain ⟨A, c, cs, h1, h2, h3⟩ := h; refine ⟨A, c, cs, h1, h2.fr hf (by simp), fun h0 => ?_⟩; obtain ⟨g, off, h4, h5⟩ := h3 h0; exact ⟨g, off, h4, fun j u hu => fr_keep hf (h5 j u hu)⟩
theorem SrcR.take {p : Nat} {w : World} {A : Option Addr} {n c m : Nat} {E : En} (h : SrcR p w (.slice A n c) E) (hm : m <= E.length) : SrcR p w (.slice A m c) (E.take m) := by
 obtain ⟨A', c', cs, h1, h2, h3⟩ := h; injection h1 with e1 e2 e3; subst e1; subst e2; subst e3; refine ⟨A, c, cs.take (m * 2), by rw [List.length_take, Nat.min_eq_left hm], h2.take m, fun h0 => ?_⟩; rw [List.length_take] at h0; obtain ⟨g, off, h4, h5⟩ := h3 (by omega); refine ⟨g, off, h4, fun j u hu => h5 j u ?_⟩; rw [List.getElem?_take] at hu
 split at hu
 ·exact hu
 ·cases hu
theorem SrcR.drop {p : Nat} {w : World} {A A2 : Option Addr} {n c m c2 : Nat} {E : En} (h : SrcR p w (.slice A n c) E) (hA : m < n -> A2 = A.map (·.add (m * 2))) : SrcR p w (.slice A2 (n - m) c2) (E.drop m) := by
 obtain ⟨A', c', cs, h1, h2, h3⟩ := h; injection h1 with e1 e2 e3; subst e1; subst e2; subst e3; refine ⟨A2, c2, cs.drop (m * 2), by rw [List.length_drop], h2.drop m, fun h0 => ?_⟩; rw [List.length_drop] at h0; obtain ⟨g, off, h4, h5⟩ := h3 (by omega); refine ⟨g, off + m * 2, by rw [hA (by omega), h4]; simp only [Option.map_some, Addr.add_mid], fun j u hu => ?_⟩; rw [List.getElem?_drop] at hu; rw [Nat.add_assoc]; exact h5 _ u hu
theorem slice_to_re (A : Option Addr) (n c hi : Nat) (h : hi <= c) : ∀ w, (Instr.sliceAt 35 (.slice A n c) none (some (.int .i64 (hi : Int))) none).run Tryz.prog w = .ok (.slice A hi c) w := by
 intro w; have ht : Tryz.prog.underlying 35 = some (.slice 97) := Tryz.underlying35; have hel : Tryz.prog.elem 35 = 97 := by simp [Program.elem, ht]
 obtain ⟨te, hte, _, hes, _⟩ := info_get info_re; have h5 : ∀ w, (sizeOf 97).run Tryz.prog w = .ok 2 w := fun w => by simp [sizeOf, typeInfo, go_sem, hte, hes]
 rw [run_sliceAt_slice (h := by rw [hel]; exact ht), run_slice_h (ht := by rw [hel]; exact ht) (h0 := by omega) (h2 := by omega), hel, h5]; have e0 : A.map (fun x => x.add 0) = A := by cases A <;> simp [Addr.add]
 simp [Result.andThen, sliced, e0]
theorem slice_from_re (A : Option Addr) (n c lo : Nat) (h1 : lo <= n) (h2 : n <= c) : ∃ A2, (∀ (x : Int) w, x = (lo : Int) -> (Instr.sliceAt 35 (.slice A n c) (some (.int .i64 x)) none none).run Tryz.prog w = .ok (.slice A2 (n - lo) (c - lo)) w) /\ (lo < n -> A2 = A.map (·.add (lo * 2))) := by
 have ht : Tryz.prog.underlying 35 = some (.slice 97) := Tryz.underlying35; have hel : Tryz.prog.elem 35 = 97 := by simp [Program.elem, ht]
 obtain ⟨te, hte, _, hes, _⟩ := info_get info_re; have h5 : ∀ w, (sizeOf 97).run Tryz.prog w = .ok 2 w := fun w => by simp [sizeOf, typeInfo, go_sem, hte, hes]
 refine ⟨if c = lo then A else A.map (·.add (lo * 2)), fun x w hx => ?_, fun hl => if_neg (by omega)⟩; subst hx; rw [run_sliceAt_slice (h := by rw [hel]; exact ht), run_slice_l (ht := by rw [hel]; exact ht) (h0 := by omega) (h1 := by omega), hel, h5]
 simp [Result.andThen, sliced]
theorem wp_append_re {o : Oper} {a : Act} {w w0 : World} {p : Nat} {K : Act -> World -> Prop} {Q : Exit -> Act -> World -> Prop} (s x : Operand) (ho : o.op = .call { callee := .builtin .append, args := #[s, x], argTypes := #[35, 35] })
  (hp : p <= w0.heap.size) (hf : Fr [] w0 w) {v1 v2 : Value} {E F : En} (hs : a.eval s = v1) (h1 : RRow p w0.heap.size w v1 E) (hx : a.eval x = v2) (h2 : SrcR p w v2 F) (hlen : E.length + F.length <= 1000000)
  (h : ∀ (G : En) A' c' w', G = E ++ F -> RRow p w0.heap.size w' (.slice A' G.length c') G -> Fr [] w0 w' -> K (a.put o.dst (.slice A' G.length c')) w') : Oper.wp Tryz.prog o a w K Q := by
 obtain ⟨te, hte, hez, hes, heb⟩ := info_get info_re; obtain ⟨cs, hrow, hents⟩ := id h1; obtain ⟨A, c, rfl, _, _⟩ := own_shape hrow; obtain ⟨B, d, ds, rfl, hents2, hcells⟩ := h2; have hd := hents2.len; refine wp_append_any s x ho 97 2 48 Tryz.underlying35 hte hez hes heb rfl (by omega) A E.length c cs hs (own_base hrow (fun _ _ => Nat.zero_le _)) B F.length d ds hx (by omega) (fun hm => ?_) (EntsC.one hents2) (by unfold maxLen; omega) (by omega) w.heap.size rfl fun A' cap wz howz hfz hqz => ?_
 ·obtain ⟨g, off, rfl, hg⟩ := hcells hm; exact ⟨_, rfl, fun j u hu => by rw [Addr.add_mid]; exact hg j u hu⟩
 ·have hno : ∀ q, (Value.slice A E.length c).ownBlock = some q -> w0.heap.size <= q := fun q hq => (h1.low q hq).1; have hoff : ∀ q, q < p -> q ∈ (Value.slice A E.length c).ownBlock.toList -> w.heap.size <= q := fun q hq hm => by have := hno q (by simpa using hm); omega
  have hall := (EntsC.app hents2 hents).fr hfz hoff; have hl : (E ++ F).length = E.length + F.length := List.length_append; rw [<- hl] at howz hqz ⊢; refine h (E ++ F) A' cap wz rfl ⟨cs ++ ds, own_base howz fun q hq => ?_, hall⟩ (hf.trans hfz fun q hq => .inr (hno q (by simpa using hq))); rcases hqz q hq with h5 | h5
  ·exact hno q h5
  ·have := hf.size; omega
section
variable {p H m : Nat} {w w' : World} {vs : List Value} {E : Nat -> En}
theorem RefAt.put_v {t i g c : Nat} {k : Ky} {u v : List UInt8} {vv : Value} (h : RefAt p H w m vs E) (ht : t < 8) (hv : vs[t]? = some (.slice (some ⟨g, 0, none⟩) (E t).length c)) (hi : (E t)[i]? = some (k, u)) (hb : ∃ q, BytesAt w vv v q /\ q < p) :
  RefAt p H (w.setCell ⟨g, i * 2 + 1, none⟩ vv) m vs (setR E t ((E t).set i (k, v))) /\ Fr (fl m vs) w (w.setCell ⟨g, i * 2 + 1, none⟩ vv) := by
 have hg : g ∈ fl m vs := fl_row (List.mem_of_getElem? hv) rfl; have hlt := h.lt g hg; have hs : Fr [g] w (w.setCell ⟨g, i * 2 + 1, none⟩ vv) := (Fr.refl _ _).setCell (.inl (by simp)) _; have hrow := h.row t _ hv
 have hgm : g ≠ m := fun e => by
  obtain ⟨cs, h1, _⟩ := hrow; exact own_ne h1 h.blk (by decide) (by rw [<- e]; rfl)
 refine ⟨⟨h.pH, h.low, h.len, h.blk.fr hs (by simpa using fun e => hgm e.symm), fun a x hx => ?_, h.apart⟩, hs.mono fun x hx => .inl (by rw [List.mem_singleton.1 hx]; exact hg)⟩
 by_cases ha : a = t
 ·subst ha; rw [hv] at hx; obtain rfl := Option.some.inj hx; rw [setR_at]; obtain ⟨cs, h1, h2⟩ := hrow; have hl := h2.len; obtain ⟨hil, _⟩ := List.getElem?_eq_some_iff.1 hi; obtain ⟨q, hq, hqp⟩ := hb; have h3 := orow_set h1 (i * 2 + 1) vv (by omega); refine ⟨cs.set (i * 2 + 1) vv, by rw [List.length_set]; exact h3, ?_⟩; refine EntsC.set ⟨q, hq.fr hs (by have := h.pH; simp; omega), hqp⟩ (h2.fr hs fun q hq hm => ?_) hi; have := List.mem_singleton.1 hm; have := h.pH; omega
 ·rw [setR_off _ _ ha]
  exact (h.row a x hx).fr hs fun q hq => by
   rw [List.mem_singleton.1 hq]; exact ⟨fun e => h.apart a t x _ g hx hv ha e rfl, by have := h.pH; omega⟩
/-- Put. -/
theorem rput_any (h : RefAt p H w m vs E) (t : Int) (hr : ∀ t, Rise (E t)) {kv vv : Value} {key v : Ky} {gk gv : Nat} (hk : BytesAt w kv key gk) (hkp : gk < p) (hv : BytesAt w vv v gv) (hvp : gv < p) (hfew : ∀ t, (E t).length <= 100000) (hel : ∀ t, KFew (E t)) :
  Calls Tryz.prog 47 #[.pointer (some ⟨m, 0, none⟩), .int .i64 t, kv, vv] w fun e w' =>
   (e = .returned (.int .i64 1) /\ (mayB t key && decide (v.length <= 64)) = false /\ w' = w) ∨
   ∃ vs', e = .returned (.int .i64 0) /\ (mayB t key && decide (v.length <= 64)) = true /\ RefAt p H w' m vs' (setR E t.toNat (putE (E t.toNat) key v)) /\ Fr (fl m vs) w w' /\ ∀ q ∈ fl m vs', q ∈ fl m vs ∨ w.heap.size <= q := by
 refine calls_post fun R HQ => ?_; have HRT := lh (right_any t hk); obtain ⟨Av, cv, ov, rfl, _, _⟩ := id hv
 cases hm : mayB t key with
 | false =>
  rw [hm] at HRT HQ; have HX := lh (HQ.out (.returned (.int .i64 1)) w (.inl ⟨rfl, rfl, rfl⟩)); clear hm HQ hk hv
  go_enter Tryz.func47, Tryz.ntmps47
  go_wp2_with fail; refine HRT.out.mono ?_; rintro e w1 ⟨rfl, rfl⟩; go_wp2_with fail; exact HX.out
 | true =>
  rw [hm] at HRT HQ
  by_cases hv64 : v.length <= 64
  ·have hvI : ¬ (64 : Int) < (v.length : Int) := by omega
   have HV64 := lh hv64; rw [decide_eq_true hv64] at HQ
   obtain ⟨tn, rfl, ht8, hk96⟩ : ∃ tn : Nat, t = (tn : Int) /\ tn < 8 /\ key.length <= 96 := by
    unfold mayB at hm; simp only [Bool.and_eq_true, decide_eq_true_eq] at hm; exact ⟨t.toNat, by omega, by omega, hm.2⟩
   rw [Int.toNat_natCast] at HQ; obtain ⟨A, c, hvt, hc, hcell, hrow⟩ := h.at_ ht8; have HPL := lh (place_any hrow.sl (hr tn) hk (by have := hfew tn; omega) (by omega) (hel tn)); have htI : (tn : Int) < 8 := by omega
   obtain ⟨Ak, ck, ok, rfl, _, _⟩ := id hk; have HT8 := lh ht8; have HH := lh h; have HROW := lh hrow; have HRI := lh (hr tn); have HK := lh hk; have HV := lh hv; have HVT := lh hvt; have HC := lh hc; have HKP := lh hkp; have HVP := lh hvp; have HFW := lh (hfew tn); clear hm hk hvt hrow ht8 hr hel h hv hv64 hc hkp hvp hfew
   go_enter Tryz.func47, Tryz.ntmps47
   go_wp2_with fail; refine HRT.out.mono ?_; rintro e w1 ⟨rfl, rfl⟩; clear HRT; go_wp2_with fail; refine HPL.out.mono ?_; rintro e w2 ⟨rfl, hf⟩; have F2 := lh hf; have cr := fr_keep hf hcell; have HPO := lh (pos_le (E tn) key)
   cases hh : hasE (E tn) key with
   | true =>
    obtain ⟨u, hu, hput⟩ := put_old HRI.out hh v; obtain ⟨hil, _⟩ := List.getElem?_eq_some_iff.1 hu; obtain ⟨cs, hown, hents⟩ := HROW.out; obtain ⟨g, rfl, hcells⟩ := own_cell hown (by omega); have hlen := hents.len; obtain ⟨i, hi⟩ := nm (posE (E tn) key); rw [<- hi] at hu hput hil ⊢; obtain ⟨_, vx, _, c1, _⟩ := hents.at_ hu; have hown2 := own_fr hown hf (by simp); have d1 := fr_keep hf (hcells _ _ c1); have fr1 := orow_free hown2 (i * 2 + 1); have lt1 := World.block_lt_of_cell? w2 _ d1
    simp only at lt1
    have hpv := (HH.out.fr0 hf).put_v HT8.out HVT.out hu ⟨gv, HV.out.fr hf (by simp), HVP.out⟩; rw [<- hput] at hpv; have hilI : (i : Int) < ((E tn).length : Int) := by omega
    have HX := lh (HQ.out (.returned (.int .i64 0)) (w2.setCell ⟨g, i * 2 + 1, none⟩ (.slice Av v.length cv)) (.inr ⟨vs, rfl, rfl, hpv.1, (F2.out.mono (by simp)).trans hpv.2 (fun q hq => .inl hq), fun q hq => .inl hq⟩)); clear hh hf HQ hput hown hents hcells hlen hi hu c1 hown2 hpv HPL hcell HPO; go_wp2_with fail; exact HX.out
   | false =>
    have hput := put_new HRI.out hh v; obtain ⟨i, hi⟩ := nm (posE (E tn) key); rw [<- hi] at hput HPO ⊢; have hrow2 := HROW.out.fr hf (by simp); have S1 := lh (hrow2.src.take HPO.out); have hst := slice_to_re A (E tn).length c i (by have := HPO.out; have := HC.out; omega); obtain ⟨A2, hsf, hA2⟩ := slice_from_re A (E tn).length c i HPO.out HC.out; have S2 := lh (SrcR.drop (c2 := c - i) hrow2.src hA2); have HSF := lh (fun w => hsf (i : Int) w rfl); have HPUT := lh hput; have CR := lh cr; have HPZ : Hid (p <= w2.heap.size) := lh (by have := HH.out.pH; have := HH.out.low; have := HH.out.blk.lt; have := hf.size; omega); have L1 : Hid (([] : En).length + ((E tn).take i).length <= 1000000) := lh (by have := HPO.out; have := HFW.out; rw [List.length_take]; simp only [List.length_nil]; omega); have R0 : Hid (RRow p w2.heap.size w2 (.slice none 0 0) []) := lh (RRow.nil _ _ _); have F0 : Hid (Fr [] w2 w2) := lh (Fr.refl _ _); clear hput hi hA2 hsf hrow2 hcell HPL hh hf; go_upto_region 8 with fail
    refine wp_region_lit ?_
    iterate 8 (refine rn rfl (by go_simp <;> with_reducible rfl) ?_; simp only [nrm])
    refine lp fun K hK => ?_; refine wp_run_same (v := .slice A i c) (by simp [execOp, Act.eval, hst, Result.andThen]) (hK _ _ ?_); simp only [nrm]; clear hK; refine lp fun K hK => ?_; refine wp_append_re (w0 := w2) (p := p) (.tmp 43) (.tmp 51) rfl HPZ.out F0.out rfl R0.out rfl (S1.out.fr F0.out) (by exact L1.out) fun G1 A8 c8 w8 hg hr hf => hK _ _ ?_; simp only [nrm]; clear hK; have E1 := lh hg; have R1 := lh hr; have F8 := lh hf; clear hg hr hf; refine rn rfl (by go_simp <;> with_reducible rfl) ?_; simp only [nrm]; refine wpList_nil ?_; clear cr; have HE1 := E1.out; rw [List.nil_append] at HE1; have HL1 : Hid (G1.length = i) := lh (by rw [HE1, List.length_take]; have := HPO.out; omega); have HE2 := lh HE1; clear HE1 E1 R0 F0 L1 S1 hst; go_upto_region 9 with fail
    refine wp_region_lit ?_
    iterate 4 (refine rn rfl (by go_simp <;> with_reducible rfl) ?_; simp only [nrm])
    refine lp fun K hK => ?_; obtain ⟨te, hte, hez, hes, heb⟩ := info_get info_re; refine wp_build_one (.tmp 56) rfl Tryz.underlying35 hte hez [.slice Ak key.length ck, .slice Av v.length cv] rfl hes rfl (by simp) (by simp) (hK _ _ ?_); simp only [nrm]; clear hK; obtain ⟨wx, hwx⟩ := nm (w8.alloc (.cells ([.slice Ak key.length ck, .slice Av v.length cv] : List Value).toArray 97)); have hfx : Fr [] w8 wx := by rw [hwx]; exact (Fr.refl [] _).alloc _
    have hbx : Blk wx w8.heap.size 97 [.slice Ak key.length ck, .slice Av v.length cv] := by rw [hwx]; exact Blk.new w8 _ [.slice Ak key.length ck, .slice Av v.length cv]
    rw [<- hwx]; obtain ⟨q8, hq8⟩ := nm (w8.heap.size); rw [<- hq8] at hbx ⊢; have hf02 : Fr [] w w8 := F2.out.trans F8.out (by simp); have hsrc : SrcR p wx (.slice (some ⟨q8, 0, none⟩) 1 1) [(key, v)] := ⟨some ⟨q8, 0, none⟩, 1, [.slice Ak key.length ck, .slice Av v.length cv], rfl, ⟨⟨⟨gk, (HK.out.fr hf02 (by simp)).fr hfx (by simp), HKP.out⟩, ⟨gv, (HV.out.fr hf02 (by simp)).fr hfx (by simp), HVP.out⟩⟩, trivial⟩, fun _ => ⟨q8, 0, rfl, fun j u hu => by rw [Nat.zero_add]; exact hbx.at_ hu⟩⟩; have L2 : Hid (G1.length + ([(key, v)] : En).length <= 1000000) := lh (by have := HL1.out; have := HPO.out; have := HFW.out; simp only [List.length_singleton]; omega); have R1x := lh (R1.out.fr hfx (by simp)); have F8x := lh (F8.out.trans hfx (by simp)); have HSRC := lh hsrc; clear hwx hbx hq8 hf02 hfx hsrc hte hez hes heb R1 F8; refine lp fun K hK => ?_; refine wp_append_re (w0 := w2) (p := p) (.tmp 53) (.tmp 57) rfl HPZ.out F8x.out rfl R1x.out rfl HSRC.out L2.out fun G2 A9 c9 w9 hg hr hf => hK _ _ ?_; simp only [nrm]; clear hK; have E2 := lh hg; have R2 := lh hr; have F9 := lh hf; clear hg hr hf; refine rn rfl (by go_simp <;> with_reducible rfl) ?_; simp only [nrm]; refine wpList_nil ?_; have HL2 : Hid (G2.length = i + 1) := lh (by rw [E2.out, List.length_append, HL1.out]; rfl); have L3 : Hid (G2.length + ((E tn).drop i).length <= 1000000) := lh (by have := HL2.out; have := HPO.out; have := HFW.out; rw [List.length_drop]; omega); have cr := fr_keep F9.out CR.out; have hsf := HSF.out; clear R1x F8x HSRC L2; go_upto_region 10 with fail
    refine wp_region_lit ?_
    iterate 8 (refine rn rfl (by go_simp <;> with_reducible rfl) ?_; simp only [nrm])
    refine lp fun K hK => ?_; refine wp_run_same (v := .slice A2 ((E tn).length - i) (c - i)) (by simp [execOp, Act.eval, hsf, Result.andThen]) (hK _ _ ?_); simp only [nrm]; clear hK; refine lp fun K hK => ?_; refine wp_append_re (w0 := w2) (p := p) (.tmp 59) (.tmp 67) rfl HPZ.out F9.out rfl R2.out rfl (S2.out.fr F9.out) (by exact L3.out) fun G3 Aa ca wa hg hr hf => hK _ _ ?_; simp only [nrm]; clear hK; have E3 := lh hg; have R3 := lh hr; have Fa := lh hf; clear hg hr hf; refine rn rfl (by go_simp <;> with_reducible rfl) ?_; simp only [nrm]; refine wpList_nil ?_; clear cr hsf; have hpr := (HH.out.fr0 F2.out).put_row HT8.out Fa.out R3.out; have hG3 : G3 = putE (E tn) key v := by rw [E3.out, E2.out, HE2.out, HPUT.out, List.append_assoc]; rfl
    have cr := fr_keep Fa.out CR.out; have fr1 := ((HH.out.fr0 F2.out).blk.fr Fa.out (by simp)).free tn; have lt1 := ((HH.out.fr0 F2.out).blk.fr Fa.out (by simp)).lt; rw [hG3] at hpr; have HX := lh (HQ.out (.returned (.int .i64 0)) (wa.setCell ⟨m, tn, none⟩ (.slice Aa G3.length ca)) (.inr ⟨_, rfl, rfl, by rw [hG3]; exact hpr.1, (F2.out.mono (by simp)).trans (by rw [hG3]; exact hpr.2.1) (fun q hq => .inl (by rw [List.mem_singleton.1 hq]; exact List.mem_cons_self ..)), fun q hq => (hpr.2.2 q hq).imp id fun h => by have := F2.out.size; omega⟩)); clear hpr hG3; go_wp2_with fail; exact HX.out
  ·have hvI : (64 : Int) < (v.length : Int) := by omega
   rw [decide_eq_false hv64] at HQ; have HX := lh (HQ.out (.returned (.int .i64 1)) w (.inl ⟨rfl, rfl, rfl⟩)); clear hm HQ hk hv hv64
   go_enter Tryz.func47, Tryz.ntmps47
   go_wp2_with fail; refine HRT.out.mono ?_; rintro e w1 ⟨rfl, rfl⟩; go_wp2_with fail; exact HX.out
end
def EntSl (p : Nat) (w : World) (v : Value) (E : En) : Prop := ∃ A c, v = .slice A E.length c /\ E.length <= c /\ (0 < E.length -> ∃ g off, A = some ⟨g, off, none⟩ /\ ∀ (i : Nat) (e : Ky × List UInt8), E[i]? = some e ->
  ∃ kv vv, w.cell? ⟨g, off + i * 2, none⟩ = some kv /\ w.cell? ⟨g, off + i * 2 + 1, none⟩ = some vv /\ EntC (fun q => q < p) w e kv vv)
theorem RRow.ent {p H : Nat} {w : World} {v : Value} {E : En} (h : RRow p H w v E) : EntSl p w v E := by
 obtain ⟨cs, h1, h2⟩ := h; obtain ⟨A, c, rfl, hc, _⟩ := own_shape h1; refine ⟨A, c, rfl, hc, fun h0 => ?_⟩; obtain ⟨g, rfl, hcell⟩ := own_cell h1 h0; refine ⟨g, 0, rfl, fun i e hie => ?_⟩; obtain ⟨kv, vv, a, b, h3⟩ := h2.at_ hie; exact ⟨kv, vv, by rw [Nat.zero_add]; exact hcell _ _ a, by rw [Nat.zero_add]; exact hcell _ _ b, h3⟩
section
variable {p H m : Nat} {w w' : World} {vs : List Value} {E : Nat -> En}
/-- Delete. -/
theorem rdel_any (h : RefAt p H w m vs E) (t : Int) (hr : ∀ t, Rise (E t)) {kv : Value} {key : Ky} {gk : Nat} (hk : BytesAt w kv key gk) (hfew : ∀ t, (E t).length <= 100000) (hel : ∀ t, KFew (E t)) :
  Calls Tryz.prog 48 #[.pointer (some ⟨m, 0, none⟩), .int .i64 t, kv] w fun e w' =>
   (e = .returned (.tuple #[.bool false, .int .i64 1]) /\ mayB t key = false /\ w' = w) ∨
   ∃ vs', e = .returned (.tuple #[.bool (hasE (E t.toNat) key), .int .i64 0]) /\ mayB t key = true /\ RefAt p H w' m vs' (setR E t.toNat (delE (E t.toNat) key)) /\ Fr (fl m vs) w w' /\ ∀ q ∈ fl m vs', q ∈ fl m vs ∨ w.heap.size <= q := by
 refine calls_post fun R HQ => ?_; have HRT := lh (right_any t hk)
 cases hm : mayB t key with
 | false =>
  rw [hm] at HRT HQ; have HX := lh (HQ.out (.returned (.tuple #[.bool false, .int .i64 1])) w (.inl ⟨rfl, rfl, rfl⟩)); clear hm HQ hk
  go_enter Tryz.func48, Tryz.ntmps48
  go_wp2_with fail; refine HRT.out.mono ?_; rintro e w1 ⟨rfl, rfl⟩; go_wp2_with fail; exact HX.out
 | true =>
  rw [hm] at HRT HQ
  obtain ⟨tn, rfl, ht8, hk96⟩ : ∃ tn : Nat, t = (tn : Int) /\ tn < 8 /\ key.length <= 96 := by
   unfold mayB at hm; simp only [Bool.and_eq_true, decide_eq_true_eq] at hm; exact ⟨t.toNat, by omega, by omega, hm.2⟩
  rw [Int.toNat_natCast] at HQ; obtain ⟨A, c, hvt, hc, hcell, hrow⟩ := h.at_ ht8; have HPL := lh (place_any hrow.sl (hr tn) hk (by have := hfew tn; omega) (by omega) (hel tn)); have htI : (tn : Int) < 8 := by omega
  obtain ⟨Ak, ck, ok, rfl, _, _⟩ := id hk; have HT8 := lh ht8; have HH := lh h; have HROW := lh hrow; have HRI := lh (hr tn); have HC := lh hc; have HFW := lh (hfew tn); clear hm hk hvt hrow ht8 hr hel h hc hfew
  go_enter Tryz.func48, Tryz.ntmps48
  go_wp2_with fail; refine HRT.out.mono ?_; rintro e w1 ⟨rfl, rfl⟩; clear HRT; go_wp2_with fail; refine HPL.out.mono ?_; rintro e w2 ⟨rfl, hf⟩; have F2 := lh hf; have cr := fr_keep hf hcell; have HPO := lh (pos_le (E tn) key)
  cases hh : hasE (E tn) key with
  | false =>
   rw [hh] at HQ; have HX := lh (HQ.out (.returned (.tuple #[.bool false, .int .i64 0])) w2 (.inr ⟨vs, rfl, trivial, by rw [del_none hh, setR_same]; exact HH.out.fr0 hf, hf.mono (by simp), fun q hq => .inl hq⟩)); clear hh hf HQ HPL hcell cr; go_wp2_with fail; exact HX.out
  | true =>
   rw [hh] at HQ; have hdel := del_has HRI.out hh; obtain ⟨u, hu, _⟩ := get_stop HRI.out hh; obtain ⟨hil, _⟩ := List.getElem?_eq_some_iff.1 hu; obtain ⟨i, hi⟩ := nm (posE (E tn) key); rw [<- hi] at hdel HPO hil ⊢; have hrow2 := HROW.out.fr hf (by simp); have S1 := lh (hrow2.src.take HPO.out); have hst := slice_to_re A (E tn).length c i (by have := HPO.out; have := HC.out; omega); obtain ⟨A2, hsf, hA2⟩ := slice_from_re A (E tn).length c (i + 1) hil HC.out; have S2 := lh (SrcR.drop (c2 := c - (i + 1)) hrow2.src hA2); have HSF := lh (fun w => hsf ((i : Int) + 1) w (by omega)); have HDEL := lh hdel; have CR := lh cr; have HPZ : Hid (p <= w2.heap.size) := lh (by have := HH.out.pH; have := HH.out.low; have := HH.out.blk.lt; have := hf.size; omega); have L1 : Hid (([] : En).length + ((E tn).take i).length <= 1000000) := lh (by have := HPO.out; have := HFW.out; rw [List.length_take]; simp only [List.length_nil]; omega); have R0 : Hid (RRow p w2.heap.size w2 (.slice none 0 0) []) := lh (RRow.nil _ _ _); have F0 : Hid (Fr [] w2 w2) := lh (Fr.refl _ _); have hwi := wi i (by have := HFW.out; omega)
   clear hdel hi hA2 hsf hrow2 hcell HPL hh hf hu hil; go_upto_region 6 with fail
   refine wp_region_lit ?_
   iterate 8 (refine rn rfl (by go_simp <;> with_reducible rfl) ?_; simp only [nrm])
   refine lp fun K hK => ?_; refine wp_run_same (v := .slice A i c) (by simp [execOp, Act.eval, hst, Result.andThen]) (hK _ _ ?_); simp only [nrm]; clear hK; refine lp fun K hK => ?_; refine wp_append_re (w0 := w2) (p := p) (.tmp 27) (.tmp 35) rfl HPZ.out F0.out rfl R0.out rfl (S1.out.fr F0.out) (by exact L1.out) fun G1 A8 c8 w8 hg hr hf => hK _ _ ?_; simp only [nrm]; clear hK; have E1 := lh hg; have R1 := lh hr; have F8 := lh hf; clear hg hr hf; refine rn rfl (by go_simp <;> with_reducible rfl) ?_; simp only [nrm]; refine wpList_nil ?_; clear cr; have HE1 := E1.out; rw [List.nil_append] at HE1; have HL1 : Hid (G1.length = i) := lh (by rw [HE1, List.length_take]; have := HPO.out; omega); have HE2 := lh HE1; have L3 : Hid (G1.length + ((E tn).drop (i + 1)).length <= 1000000) := lh (by have := HL1.out; have := HPO.out; have := HFW.out; rw [List.length_drop]; omega); have cr := fr_keep F8.out CR.out; have hsf := HSF.out; clear HE1 E1 R0 F0 L1 S1 hst; go_upto_region 7 with fail
   refine wp_region_lit ?_
   iterate 9 (refine rn rfl (by go_simp <;> with_reducible rfl) ?_; simp only [nrm])
   refine lp fun K hK => ?_; refine wp_run_same (v := .slice A2 ((E tn).length - (i + 1)) (c - (i + 1))) (by simp [execOp, Act.eval, hsf, Result.andThen]) (hK _ _ ?_); simp only [nrm]; clear hK; refine lp fun K hK => ?_; refine wp_append_re (w0 := w2) (p := p) (.tmp 37) (.tmp 46) rfl HPZ.out F8.out rfl R1.out rfl (S2.out.fr F8.out) (by exact L3.out) fun G3 Aa ca wa hg hr hf => hK _ _ ?_; simp only [nrm]; clear hK; have E3 := lh hg; have R3 := lh hr; have Fa := lh hf; clear hg hr hf; refine rn rfl (by go_simp <;> with_reducible rfl) ?_; simp only [nrm]; refine wpList_nil ?_; clear cr hsf; have hpr := (HH.out.fr0 F2.out).put_row HT8.out Fa.out R3.out; have hG3 : G3 = delE (E tn) key := by rw [E3.out, HE2.out, HDEL.out]
   have cr := fr_keep Fa.out CR.out; have fr1 := ((HH.out.fr0 F2.out).blk.fr Fa.out (by simp)).free tn; have lt1 := ((HH.out.fr0 F2.out).blk.fr Fa.out (by simp)).lt; rw [hG3] at hpr; have HX := lh (HQ.out (.returned (.tuple #[.bool true, .int .i64 0])) (wa.setCell ⟨m, tn, none⟩ (.slice Aa G3.length ca)) (.inr ⟨_, rfl, trivial, by rw [hG3]; exact hpr.1, (F2.out.mono (by simp)).trans (by rw [hG3]; exact hpr.2.1) (fun q hq => .inl (by rw [List.mem_singleton.1 hq]; exact List.mem_cons_self ..)), fun q hq => (hpr.2.2 q hq).imp id fun h => by have := F2.out.size; omega⟩)); clear hpr hG3 hwi; go_wp2_with fail; exact HX.out
theorem inB_cmp {low tk : Ky} {all : Bool} {e : Ky × List UInt8} : inB low (if all = true then none else some tk) e = (decide (0 <= Lib.compareBytes e.1 low) && (all || decide (Lib.compareBytes e.1 tk < 0))) := by
 unfold inB pastB; have h1 := cmp_ge e.1 low; have h2 : (Lib.compareBytes e.1 tk < 0) ↔ klt e.1 tk := Iff.rfl
 by_cases h3 : klt e.1 low <;> cases all <;> by_cases h4 : klt e.1 tk <;> simp [h1, h2, h3, h4]
def rangeOk (t most : Int) : Bool := decide (0 <= t) && decide (t < 8) && decide (0 <= most)
theorem two_range {w : World} {g o : Nat} {a b : Value} (h0 : w.cell? ⟨g, o, none⟩ = some a) (h1 : w.cell? ⟨g, o + 1, none⟩ = some b) : w.rangeAt g o [a, b] := fun j u hu => by
 match j, hu with
 | 0, hu => simp only [List.getElem?_cons_zero, Option.some.injEq] at hu; subst hu; exact h0
 | 1, hu => simp only [List.getElem?_cons_succ, List.getElem?_cons_zero, Option.some.injEq] at hu; subst hu; exact h1
 | j + 2, hu => simp at hu
/-- Range. -/
theorem rrange_any (h : RefAt p H w m vs E) (t most : Int) (all : Bool) {fv tv : Value} {low tk : Ky} {gf gt : Nat} (hk : BytesAt w fv low gf) (htv : BytesAt w tv tk gt) (hfl : low.length <= 9223372036854775807) (htl : tk.length <= 9223372036854775807) (hmx : most < 9223372036854775808) (hfew : ∀ t, (E t).length <= 100000) (hel : ∀ t, KFew (E t)) :
  Calls Tryz.prog 49 #[.pointer (some ⟨m, 0, none⟩), .int .i64 t, fv, tv, .bool all, .int .i64 most] w fun e w' => ∃ v, e = .returned (.tuple #[v, .int .i64 (if rangeOk t most = true then 0 else 1)]) /\
   EnSl w' v (if rangeOk t most = true then ((E t.toNat).filter (inB low (if all = true then none else some tk))).take most.toNat else []) /\ Fr [] w w' := by
 refine calls_post fun R HQ => ?_
 by_cases h1 : t < 0
 ·have hok : rangeOk t most = false := by unfold rangeOk; simp [show ¬ (0 <= t) by omega]
  rw [hok] at HQ; have HX := lh (HQ.out (.returned (.tuple #[.slice none 0 0, .int .i64 1])) w ⟨_, rfl, ⟨none, 0, rfl, Nat.le_refl _, fun h => absurd h (by simp)⟩, Fr.refl _ _⟩); clear hok HQ hk htv hmx
  go_enter Tryz.func49, Tryz.ntmps49
  go_wp2_with fail; exact HX.out
 ·by_cases h2 : 7 < t
  ·have hok : rangeOk t most = false := by unfold rangeOk; simp [show ¬ (t < 8) by omega]
   rw [hok] at HQ; have HX := lh (HQ.out (.returned (.tuple #[.slice none 0 0, .int .i64 1])) w ⟨_, rfl, ⟨none, 0, rfl, Nat.le_refl _, fun h => absurd h (by simp)⟩, Fr.refl _ _⟩); clear hok HQ hk htv hmx
   go_enter Tryz.func49, Tryz.ntmps49
   go_wp2_with fail; exact HX.out
  ·by_cases h3 : most < 0
   ·have hok : rangeOk t most = false := by unfold rangeOk; simp [show ¬ (0 <= most) by omega]
    rw [hok] at HQ; have HX := lh (HQ.out (.returned (.tuple #[.slice none 0 0, .int .i64 1])) w ⟨_, rfl, ⟨none, 0, rfl, Nat.le_refl _, fun h => absurd h (by simp)⟩, Fr.refl _ _⟩); clear hok HQ hk htv hmx
    go_enter Tryz.func49, Tryz.ntmps49
    go_wp2_with fail; exact HX.out
   ·have hok : rangeOk t most = true := by unfold rangeOk; simp; omega
    rw [hok] at HQ; obtain ⟨tn, rfl⟩ := Int.eq_ofNat_of_zero_le (by omega : 0 <= t); obtain ⟨mo, rfl⟩ := Int.eq_ofNat_of_zero_le (by omega : 0 <= most); simp only [Int.toNat_natCast, if_true] at HQ; obtain ⟨up, hup⟩ := nm ((if all = true then none else some tk)); rw [<- hup] at HQ; have HUP := lh hup; clear hup; have ht8 : tn < 8 := by omega
    obtain ⟨A, c, hvt, hc, hcell, hrow⟩ := h.at_ ht8; have htI : (tn : Int) < 8 := by omega
    have HK := lh hk; have HTV := lh htv; obtain ⟨Ak, ck, ok, rfl, -, -⟩ := id hk; obtain ⟨At, ct, ot, rfl, -, -⟩ := id htv; have HFW := lh (hfew tn); have HEL := lh (hel tn); have HSL := lh hrow.src; have HSE := lh hrow.ent; have HPZ : Hid (p <= w.heap.size) := lh (by have := h.pH; have := h.low; have := h.blk.lt; omega); have HCELL := lh hcell; clear hok hk htv hvt hrow h hc ht8 hfew hel
    go_enter Tryz.func49, Tryz.ntmps49
    go_wp2_with fail
    go_loopw [14, 15] (fun v14 v15 wr => ∃ (i : Nat) (O : En), v15 = .int .i64 (i : Int) /\ i <= (E tn).length /\ RRow p w.heap.size wr v14 O /\ O = ((E tn).take i).filter (inB low up) /\ O.length <= mo /\ Fr [] w wr) (fun _ v15 _ => (E tn).length - (intOf v15).toNat)
    case atStart => exact ⟨0, [], rfl, Nat.zero_le _, RRow.nil _ _ _, rfl, Nat.zero_le _, Fr.refl _ _⟩
    case round =>
     obtain ⟨i, O, rfl, hil, hrow, hO, hom, hfr⟩ := hrel; have HROW := lh hrow; have HO := lh hO; have HOM := lh hom; have HFR := lh hfr; obtain ⟨Ao, co, cso, rfl, -⟩ := hrow.src; have cr := fr_keep hfr hcell; clear hrow hO hfr
     by_cases hi : i < (E tn).length
     ·have hiI : (i : Int) < ((E tn).length : Int) := by omega
      by_cases hm : O.length < mo
      ·have hmI : (O.length : Int) < (mo : Int) := by omega
       obtain ⟨x, hx⟩ := gx hi; obtain ⟨A', c', hsh, -, hcl⟩ := HSE.out; injection hsh with hA hnn hc'; obtain ⟨g, off, hA2, hcells⟩ := hcl (by omega); rw [hA2] at hA; subst hA; obtain ⟨kx, vx, c0, c1, ⟨q1, b1, p1⟩, ⟨q2, b2, p2⟩⟩ := hcells i x hx; have he2 : ∀ (W' : World), Fr [] w W' -> EntC (fun q => q < p) W' x kx vx := fun W' hf => ⟨⟨q1, b1.fr hf (by simp), p1⟩, ⟨q2, b2.fr hf (by simp), p2⟩⟩; have HXX := lh hx; have k0 := fr_keep HFR.out c0; have k1 := fr_keep HFR.out c1; have HB := lh (bytes9_sl (b1.fr HFR.out (by simp)) (HK.out.fr HFR.out (by simp)) (by have := HEL.out x (List.mem_of_getElem? hx); omega) hfl); have HC0 := lh c0; have HC1 := lh c1; have HB1 := lh b1; have HXL : Hid (x.1.length <= 9223372036854775807) := lh (by have := HEL.out x (List.mem_of_getElem? hx); omega); have hin : inB low up x = (decide (0 <= Lib.compareBytes x.1 low) && (all || decide (Lib.compareBytes x.1 tk < 0))) := by rw [HUP.out]; exact inB_cmp (low := low) (tk := tk) (all := all) (e := x)
       obtain ⟨n1, hn1⟩ : ∃ n, n = Lib.compareBytes x.1 low := ⟨_, rfl⟩; obtain ⟨n2, hn2⟩ : ∃ n, n = Lib.compareBytes x.1 tk := ⟨_, rfl⟩; rw [<- hn1, <- hn2] at hin; rw [<- hn1] at HB; have HIN := lh hin; have HN2 := lh hn2; have hwi := wi i (by have := HFW.out; omega)
       obtain ⟨Ax, cx, ox, rfl, -, -⟩ := id b1; obtain ⟨Aw, cw, ow, rfl, -, -⟩ := id b2; have HENT := lh (he2); clear hin hn1 hn2 hcells hcl hA2 hc' hnn c0 c1 b1 b2 hx he2; go_wp2_with fail; refine HB.out.mono ?_; rintro e w2 ⟨rfl, hf2⟩; have F2 := lh hf2; clear hf2 HB k0 k1
       by_cases hg1 : 0 <= n1
       ·cases all with
        | true =>
         have HF2 := lh (HFR.out.trans F2.out (by simp)); have k0 := fr_keep HF2.out HC0.out; have k1 := fr_keep HF2.out HC1.out; have cr := fr_keep HF2.out HCELL.out; have HINT := lh (show inB low up x = true by rw [HIN.out]; simp [hg1]); go_upto_region 9 with fail
         refine wp_region_lit ?_
         iterate 9 (refine rn rfl (by go_simp <;> with_reducible rfl) ?_; simp only [nrm])
         refine lp fun K hK => ?_; refine wp_load_mid 97 (.tmp 75) rfl g (off + i * 2) rfl [.slice Ax x.1.length cx, .slice Aw x.2.length cw] _ (two_range k0 k1) Tryz.underlying97 rfl (by kernel_rfl) (hK _ _ ?_); simp only [nrm]; clear hK; refine lp fun K hK => ?_; obtain ⟨te, hte, hez, hes, heb⟩ := info_get info_re; refine wp_build_one (.tmp 76) rfl Tryz.underlying35 hte hez [.slice Ax x.1.length cx, .slice Aw x.2.length cw] rfl hes rfl (by simp) (by simp) (hK _ _ ?_); simp only [nrm]; clear hK; obtain ⟨wx, hwx⟩ := nm (w2.alloc (.cells ([.slice Ax x.1.length cx, .slice Aw x.2.length cw] : List Value).toArray 97)); have hfx : Fr [] w2 wx := by rw [hwx]; exact (Fr.refl [] _).alloc _
         have hbx : Blk wx w2.heap.size 97 [.slice Ax x.1.length cx, .slice Aw x.2.length cw] := by rw [hwx]; exact Blk.new w2 _ [.slice Ax x.1.length cx, .slice Aw x.2.length cw]
         rw [<- hwx]; obtain ⟨q8, hq8⟩ := nm (w2.heap.size); rw [<- hq8] at hbx ⊢; have hfw : Fr [] w wx := HF2.out.trans hfx (by simp); have hsrc : SrcR p wx (.slice (some ⟨q8, 0, none⟩) 1 1) [x] := ⟨some ⟨q8, 0, none⟩, 1, [.slice Ax x.1.length cx, .slice Aw x.2.length cw], rfl, ⟨HENT.out _ hfw, trivial⟩, fun _ => ⟨q8, 0, rfl, fun j u hu => by rw [Nat.zero_add]; exact hbx.at_ hu⟩⟩; have L2 : Hid (O.length + ([x] : En).length <= 1000000) := lh (by have h4 := HFW.out; have h5 := List.length_filter_le (inB low up) ((E tn).take i); rw [List.length_take] at h5; rw [HO.out]; simp only [List.length_singleton]; omega); have RX := lh ((HROW.out.fr F2.out (by simp)).fr hfx (by simp)); have FW2 := lh hfw; have HSRC := lh hsrc; clear hwx hbx hq8 hfx hfw hsrc hte hez hes heb k0 k1; refine lp fun K hK => ?_; refine wp_append_re (w0 := w) (p := p) (.tmp 67) (.tmp 77) rfl HPZ.out FW2.out rfl RX.out rfl HSRC.out L2.out fun G A9 c9 w9 hg hr hf => hK _ _ ?_; simp only [nrm]; clear hK; have HX : Hid (∃ (j : Nat) (O' : En), Value.int .i64 ((i : Int) + 1) = .int .i64 (j : Int) /\ j <= (E tn).length /\ RRow p w.heap.size w9 (.slice A9 G.length c9) O' /\ O' = ((E tn).take j).filter (inB low up) /\ O'.length <= mo /\ Fr [] w w9) := lh ⟨i + 1, G, rfl, hi, hr, (by rw [told_step _ HXX.out, hg, HO.out, HINT.out]; rfl), by rw [hg, List.length_append]; simp only [List.length_singleton]; omega, hf⟩; clear hg hr hf; refine rn rfl (by go_simp <;> with_reducible rfl) ?_; simp only [nrm]; refine wpList_nil ?_; go_wp2_with fail
         go_roundw
         case rel => exact HX.out
         case measure => simp [intOf]; omega
        | false =>
         have HB := lh (bytes9_sl (HB1.out.fr (HFR.out.trans F2.out (by simp)) (by simp)) (HTV.out.fr (HFR.out.trans F2.out (by simp)) (by simp)) HXL.out htl); rw [<- HN2.out] at HB; go_wp2_with fail; refine HB.out.mono ?_; rintro e w3 ⟨rfl, hf3⟩; have F3 := lh (F2.out.trans hf3 (by simp)); clear hf3 HB
         by_cases hg2 : n2 < 0
         ·
          have HF3 := lh (HFR.out.trans F3.out (by simp)); have k0 := fr_keep HF3.out HC0.out; have k1 := fr_keep HF3.out HC1.out; have cr := fr_keep HF3.out HCELL.out; have HINT := lh (show inB low up x = true by rw [HIN.out]; simp [hg1, hg2]); go_upto_region 9 with fail
          refine wp_region_lit ?_
          iterate 9 (refine rn rfl (by go_simp <;> with_reducible rfl) ?_; simp only [nrm])
          refine lp fun K hK => ?_; refine wp_load_mid 97 (.tmp 75) rfl g (off + i * 2) rfl [.slice Ax x.1.length cx, .slice Aw x.2.length cw] _ (two_range k0 k1) Tryz.underlying97 rfl (by kernel_rfl) (hK _ _ ?_); simp only [nrm]; clear hK; refine lp fun K hK => ?_; obtain ⟨te, hte, hez, hes, heb⟩ := info_get info_re; refine wp_build_one (.tmp 76) rfl Tryz.underlying35 hte hez [.slice Ax x.1.length cx, .slice Aw x.2.length cw] rfl hes rfl (by simp) (by simp) (hK _ _ ?_); simp only [nrm]; clear hK; obtain ⟨wx, hwx⟩ := nm (w3.alloc (.cells ([.slice Ax x.1.length cx, .slice Aw x.2.length cw] : List Value).toArray 97)); have hfx : Fr [] w3 wx := by rw [hwx]; exact (Fr.refl [] _).alloc _
          have hbx : Blk wx w3.heap.size 97 [.slice Ax x.1.length cx, .slice Aw x.2.length cw] := by rw [hwx]; exact Blk.new w3 _ [.slice Ax x.1.length cx, .slice Aw x.2.length cw]
          rw [<- hwx]; obtain ⟨q8, hq8⟩ := nm (w3.heap.size); rw [<- hq8] at hbx ⊢; have hfw : Fr [] w wx := HF3.out.trans hfx (by simp); have hsrc : SrcR p wx (.slice (some ⟨q8, 0, none⟩) 1 1) [x] := ⟨some ⟨q8, 0, none⟩, 1, [.slice Ax x.1.length cx, .slice Aw x.2.length cw], rfl, ⟨HENT.out _ hfw, trivial⟩, fun _ => ⟨q8, 0, rfl, fun j u hu => by rw [Nat.zero_add]; exact hbx.at_ hu⟩⟩; have L2 : Hid (O.length + ([x] : En).length <= 1000000) := lh (by have h4 := HFW.out; have h5 := List.length_filter_le (inB low up) ((E tn).take i); rw [List.length_take] at h5; rw [HO.out]; simp only [List.length_singleton]; omega); have RX := lh ((HROW.out.fr F3.out (by simp)).fr hfx (by simp)); have FW2 := lh hfw; have HSRC := lh hsrc; clear hwx hbx hq8 hfx hfw hsrc hte hez hes heb k0 k1; refine lp fun K hK => ?_; refine wp_append_re (w0 := w) (p := p) (.tmp 67) (.tmp 77) rfl HPZ.out FW2.out rfl RX.out rfl HSRC.out L2.out fun G A9 c9 w9 hg hr hf => hK _ _ ?_; simp only [nrm]; clear hK; have HX : Hid (∃ (j : Nat) (O' : En), Value.int .i64 ((i : Int) + 1) = .int .i64 (j : Int) /\ j <= (E tn).length /\ RRow p w.heap.size w9 (.slice A9 G.length c9) O' /\ O' = ((E tn).take j).filter (inB low up) /\ O'.length <= mo /\ Fr [] w w9) := lh ⟨i + 1, G, rfl, hi, hr, (by rw [told_step _ HXX.out, hg, HO.out, HINT.out]; rfl), by rw [hg, List.length_append]; simp only [List.length_singleton]; omega, hf⟩; clear hg hr hf; refine rn rfl (by go_simp <;> with_reducible rfl) ?_; simp only [nrm]; refine wpList_nil ?_; go_wp2_with fail
          go_roundw
          case rel => exact HX.out
          case measure => simp [intOf]; omega
         ·
          have HX : Hid (∃ (j : Nat) (O' : En), Value.int .i64 ((i : Int) + 1) = .int .i64 (j : Int) /\ j <= (E tn).length /\ RRow p w.heap.size w3 (.slice Ao O.length co) O' /\ O' = ((E tn).take j).filter (inB low up) /\ O'.length <= mo /\ Fr [] w w3) := lh ⟨i + 1, O, rfl, hi, HROW.out.fr F3.out (by simp), (by rw [told_step _ HXX.out, HIN.out, show (decide (0 <= n1) && (false || decide (n2 < 0))) = false by simp [hg2], HO.out]; exact (List.append_nil _).symm), HOM.out, HFR.out.trans F3.out (by simp)⟩; have hd2 : decide (n2 < 0) = false := by simpa using hg2
          go_wp2_with fail
          go_roundw
          case rel => exact HX.out
          case measure => simp [intOf]; omega
       ·
        have HX : Hid (∃ (j : Nat) (O' : En), Value.int .i64 ((i : Int) + 1) = .int .i64 (j : Int) /\ j <= (E tn).length /\ RRow p w.heap.size w2 (.slice Ao O.length co) O' /\ O' = ((E tn).take j).filter (inB low up) /\ O'.length <= mo /\ Fr [] w w2) := lh ⟨i + 1, O, rfl, hi, HROW.out.fr F2.out (by simp), (by rw [told_step _ HXX.out, HIN.out, show (decide (0 <= n1) && (all || decide (n2 < 0))) = false by simp [hg1], HO.out]; exact (List.append_nil _).symm), HOM.out, HFR.out.trans F2.out (by simp)⟩; have hd1 : decide (0 <= n1) = false := by simpa using hg1
        go_wp2_with fail
        go_roundw
        case rel => exact HX.out
        case measure => simp [intOf]; omega
      ·have hmI : ¬ (O.length : Int) < (mo : Int) := by omega
       have HX := lh (HQ.out (.returned (.tuple #[.slice Ao O.length co, .int .i64 0])) wr ⟨_, rfl, by rw [told_full (i := i) (inB low up) (by rw [<- HO.out]; have := HOM.out; omega), <- HO.out]; exact HROW.out.sl, HFR.out⟩); go_wp2_with fail; exact HX.out
     ·obtain rfl : i = (E tn).length := by omega
      have hO2 := HO.out; rw [List.take_length] at hO2; have HX := lh (HQ.out (.returned (.tuple #[.slice Ao O.length co, .int .i64 0])) wr ⟨_, rfl, by rw [<- hO2, List.take_of_length_le HOM.out]; exact HROW.out.sl, HFR.out⟩); clear hO2; go_wp2_with fail; exact HX.out
end
end
section
open Go.RowKit Go.ChangeShapes Go.WideShapes Go.Deep
structure OpP where
 what : Int
 t : Int
 most : Int
 kv : Value
 vv : Value
 tv : Value
 key : List UInt8
 v : List UInt8
 upto : List UInt8
 all : Bool
structure OpP.at_ (W : World) (g off : Nat) (o : OpP) : Prop where
 c0 : W.cell? ⟨g, off, none⟩ = some (.int .i64 o.what)
 c1 : W.cell? ⟨g, off + 1, none⟩ = some (.int .i64 o.t)
 c2 : W.cell? ⟨g, off + 2, none⟩ = some (.int .i64 o.most)
 c3 : W.cell? ⟨g, off + 3, none⟩ = some o.kv
 c4 : W.cell? ⟨g, off + 4, none⟩ = some o.vv
 c5 : W.cell? ⟨g, off + 5, none⟩ = some o.tv
 c6 : W.cell? ⟨g, off + 6, none⟩ = some (.bool o.all)
 k : ArgBytes W o.kv o.key
 b : ArgBytes W o.vv o.v
 e : ArgBytes W o.tv o.upto
 w0 : (Lit.int .i64 o.what).wf = true
 w1 : (Lit.int .i64 o.t).wf = true
 w2 : (Lit.int .i64 o.most).wf = true
def ArgPl (W : World) (v : Value) (l : List OpP) : Prop :=
 ∃ A c g off, v = .slice A l.length c /\ l.length <= maxLen /\ ∀ (j : Nat) (o : OpP), l[j]? = some o -> A = some ⟨g, off, none⟩ /\ o.at_ W g (off + j * 7)
section
variable {H : Type} {enc : TypeId × Value -> H} {P : Program}
theorem arg_pl {W : World} {t e ti tb te tk : TypeId} {f0 f1 f2 f3 f4 f5 f6 : Field} {fuel : Nat} {v : Value} {x : DataW H × List MemPlace} (ht : P.underlying t = some (.slice e)) (he : P.underlying e = some (.struct #[f0, f1, f2, f3, f4, f5, f6]))
  (hone : oneCellFields P #[f0, f1, f2, f3, f4, f5, f6] = true) (hC : P.cellsOf e = 7) (h0 : f0.type = ti) (h1 : f1.type = ti) (h2 : f2.type = ti) (h3 : f3.type = tb) (h4 : f4.type = tb) (h5 : f5.type = tb) (h6 : f6.type = tk)
  (hti : P.underlying ti = some (.int .i64)) (htb : P.underlying tb = some (.slice te)) (hte : P.underlying te = some (.int .u8)) (hCe : P.cellsOf te = 1) (htk : P.underlying tk = some .bool)
  (h : DataW.trod enc P W 0 (fun _ => true) true fuel t [v] = some x) : ∃ l, ArgPl W v l := by
 obtain ⟨A, len, cap, rfl, hlc, hcm, hA0, hf⟩ := slice_fields ht he hone hC h
 by_cases hz : len = 0
 ·subst hz; exact ⟨[], A, cap, 0, 0, rfl, by simp, fun j o hj => by simp at hj⟩
 ·obtain ⟨a, rfl, hf0⟩ := hf 0 (by omega); obtain ⟨u, _, _, hu, _⟩ := hf0 0 f0 rfl; obtain ⟨g, off, rfl⟩ := add_form (w := W) (a := a) (v := u) (by simpa using hu)
  obtain ⟨l, hl, hp⟩ := list_of (p := fun i (o : OpP) => o.at_ W g (off + i * 7)) len (fun i hi => by
   obtain ⟨a', ha, hfi⟩ := hf i hi; obtain rfl : a' = ⟨g, off, none⟩ := by injection ha with ha; exact ha.symm
   obtain ⟨u0, n0, y0, hc0, hy0⟩ := hfi 0 f0 rfl; obtain ⟨u1, n1, y1, hc1, hy1⟩ := hfi 1 f1 rfl; obtain ⟨u2, n2, y2, hc2, hy2⟩ := hfi 2 f2 rfl; obtain ⟨u3, n3, y3, hc3, hy3⟩ := hfi 3 f3 rfl; obtain ⟨u4, n4, y4, hc4, hy4⟩ := hfi 4 f4 rfl; obtain ⟨u5, n5, y5, hc5, hy5⟩ := hfi 5 f5 rfl; obtain ⟨u6, n6, y6, hc6, hy6⟩ := hfi 6 f6 rfl; rw [add_eq] at hc0 hc1 hc2 hc3 hc4 hc5 hc6; rw [h0] at hy0; rw [h1] at hy1; rw [h2] at hy2; rw [h3] at hy3; rw [h4] at hy4; rw [h5] at hy5; rw [h6] at hy6; obtain ⟨z0, e0, _, w0⟩ := DataW.trod_int hti hy0; obtain ⟨z1, e1, _, w1⟩ := DataW.trod_int hti hy1; obtain ⟨z2, e2, _, w2⟩ := DataW.trod_int hti hy2; obtain ⟨bk, hbk⟩ := arg_bytes htb hte hCe hy3; obtain ⟨bv, hbv⟩ := arg_bytes htb hte hCe hy4; obtain ⟨bt, hbt⟩ := arg_bytes htb hte hCe hy5; obtain ⟨z6, e6, _⟩ := DataW.trod_bool htk hy6; have e0' : u0 = .int .i64 z0 := by simpa using e0
   have e1' : u1 = .int .i64 z1 := by simpa using e1
   have e2' : u2 = .int .i64 z2 := by simpa using e2
   have e6' : u6 = .bool z6 := by simpa using e6
   subst e0'; subst e1'; subst e2'; subst e6'; exact ⟨⟨z0, z1, z2, u3, u4, u5, bk, bv, bt, z6⟩, by simpa using hc0, by simpa [Nat.add_assoc] using hc1, by simpa [Nat.add_assoc] using hc2, by simpa [Nat.add_assoc] using hc3, by simpa [Nat.add_assoc] using hc4, by simpa [Nat.add_assoc] using hc5, by simpa [Nat.add_assoc] using hc6, hbk, hbv, hbt, w0, w1, w2⟩)
  exact ⟨l, some ⟨g, off, none⟩, cap, g, off, by rw [hl], by omega, fun j o hj => ⟨rfl, hp j o hj⟩⟩
end
end
section
open Go.RowKit Go.ChangeMaps Go.MapKept Go.Maps Go.Sort Go.Shelf
theorem RefAt.new {p H m : Nat} {w : World} (hpH : p <= H) (hm : H <= m) (hb : Blk w m 56 (List.replicate 8 (.slice none 0 0))) : RefAt p H w m (List.replicate 8 (.slice none 0 0)) fun _ => [] := by
 have hall : ∀ (t : Nat) (v : Value), (List.replicate 8 (Value.slice none 0 0))[t]? = some v -> v = .slice none 0 0 := fun t v hv => List.eq_of_mem_replicate (List.mem_of_getElem? hv); refine ⟨hpH, hm, rfl, hb, fun t v hv => by rw [hall t v hv]; exact RRow.nil _ _ _, fun t u v v' q hv _ _ hq => ?_⟩; rw [hall t v hv] at hq
 simp [Value.ownBlock] at hq
section
variable {p H m : Nat} {w w' : World} {vs : List Value} {E : Nat -> En}
def upTo (E : Nat -> En) (i : Nat) : Nat -> En := fun t => if t < i then E t else []
theorem upTo_zero (E : Nat -> En) : upTo E 0 = fun _ => [] := by funext t; unfold upTo; rw [if_neg (Nat.not_lt_zero t)]
theorem upTo_succ (E : Nat -> En) (i : Nat) : setR (upTo E i) i (E i) = upTo E (i + 1) := by
 funext t
 by_cases h : t = i
 ·subst h; rw [setR_at]; unfold upTo; rw [if_pos (by omega)]
 ·rw [setR_off _ _ h]; unfold upTo
  by_cases h2 : t < i
  ·rw [if_pos h2, if_pos (by omega)]
  ·rw [if_neg h2, if_neg (by omega)]
theorem RefAt.eight {E' : Nat -> En} (h : RefAt p H w m vs E) (he : ∀ t, t < 8 -> E t = E' t) : RefAt p H w m vs E' :=
 ⟨h.pH, h.low, h.len, h.blk, fun t v hv => by
  have : t < 8 := by rw [<- h.len]; exact (List.getElem?_eq_some_iff.1 hv).1
  rw [<- he t this]; exact h.row t v hv, h.apart⟩
/-- A copy. -/
theorem copied_any (h : RefAt p H w m vs E) (hfew : ∀ t, (E t).length <= 100000) :
  Calls Tryz.prog 23 #[.pointer (some ⟨m, 0, none⟩)] w fun e w' => ∃ k vk, e = .returned (.pointer (some ⟨k, 0, none⟩)) /\ RefAt p H w' k vk E /\ Fr [] w w' /\ ∀ q ∈ fl k vk, w.heap.size <= q := by
 refine calls_post fun R HQ => ?_; have HH := lh h; have HFW := lh hfew; clear h hfew
 go_enter Tryz.func23, Tryz.ntmps23
 go_upto_region 2 with fail
 have hb := Blk.new w 56 (List.replicate 8 (.slice none 0 0)); have hf : Fr [] w (w.alloc (.cells (List.replicate 8 (.slice none 0 0)).toArray 56)) := (Fr.refl _ _).alloc _; obtain ⟨w1, hw1⟩ := nm (w.alloc (.cells (List.replicate 8 (.slice none 0 0)).toArray 56)); rw [<- hw1] at hb hf; rw [show w.alloc (.cells #[.slice none 0 0, .slice none 0 0, .slice none 0 0, .slice none 0 0, .slice none 0 0, .slice none 0 0, .slice none 0 0, .slice none 0 0] 56) = w1 from hw1.symm]; obtain ⟨k, hk⟩ := nm (w.heap.size); rw [<- hk] at hb ⊢; have HRN := lh (RefAt.new HH.out.pH (by have := HH.out.low; have := HH.out.blk.lt; omega) hb); have HF := lh hf; have HKW := lh hk; clear hb hf hw1 hk; go_wp2_with fail
 go_loopw [4] (fun v4 wr => ∃ (i : Nat) (vk : List Value), i <= 8 /\ v4 = .int .i64 (i : Int) /\ RefAt p H wr k vk (upTo E i) /\ Fr [] w wr /\ ∀ q ∈ fl k vk, w.heap.size <= q) (fun v4 _ => 8 - (intOf v4).toNat)
 case atStart => exact ⟨0, _, Nat.zero_le _, rfl, by rw [upTo_zero]; exact HRN.out, HF.out, fun q hq => by
  rcases fl_mem.1 hq with rfl | ⟨v, hv, hvq⟩
  ·rw [HKW.out]; exact Nat.le_refl _
  ·rw [List.eq_of_mem_replicate hv] at hvq; simp [Value.ownBlock] at hvq⟩
 case round =>
  obtain ⟨i, vk, hi8, rfl, href, hfr, hnew⟩ := hrel; have HREF := lh href; have HFR := lh hfr; have HNEW := lh hnew; clear href hfr hnew
  by_cases hi : i < 8
  ·have hiI : (i : Int) < 8 := by omega
   have h0I : (0 : Int) <= (i : Int) := by omega
   obtain ⟨A, c, _, hc, hcell, hrow⟩ := HH.out.at_ hi; have hfd := HFR.out.drew; have k0 := fr_keep hfd hcell; have S1 := lh (hrow.src.fr hfd); have HFD := lh hfd; have HCL := lh hcell; have HLE : Hid ((E i).length <= 100000) := lh (HFW.out i); have hwi := wi i (by omega)
   obtain ⟨te, hte, _, _, _⟩ := info_get info_re; have HRD := lh (HREF.out.fr0 ((Fr.refl [] wr).drew)); clear hc hcell hrow hfd; go_upto_region 5 with fail
   refine wp_region_K (fun W' => W'.cell? ⟨m, i, none⟩ = some (.slice A (E i).length c)) [0, 1, 3, 4, 5, 6, 7, 8, 10, 11, 12] (by kernel_rfl) ?_; refine tks [0, 1, 3, 4, 5, 6, 7] ?_
   iterate 7 (refine tk rfl rfl k0 rfl (fun _ _ => by go_simp <;> with_reducible rfl) ?_; simp only [nrm])
   refine tke ?_; refine tv 8 (.slice A (E i).length c) rfl rfl k0 (.inl ⟨rfl, fun W hW => by go_simp⟩) ?_; simp only [nrm]; refine tks [10, 11] ?_
   iterate 2 (refine tk rfl rfl k0 rfl (fun _ _ => by go_simp <;> with_reducible rfl) ?_; simp only [nrm])
   refine tke ?_; refine sp 2 rfl rfl rfl fun K hK => ?_; obtain ⟨wx, hwx⟩ := nm (wr.drew.alloc (.cells #[] 97)); have hfx : Fr [] wr.drew wx := by rw [hwx]; exact (Fr.refl [] _).alloc _
   have hrx : RRow p wr.drew.heap.size wx (.slice (some ⟨wr.drew.heap.size, 0, none⟩) 0 0) [] := ⟨[], by rw [hwx]; exact World.ownsRow_made wr.drew #[] 0 (Nat.le_refl _) (Nat.zero_le _) rfl, trivial⟩; refine wp_build_none rfl Tryz.underlying35 hte (hK _ _ (fun _ => by rw [<- hwx]; exact fr_keep hfx k0) ?_); simp only [nrm]; rw [<- hwx]; clear hK hwx; have HRX := lh hrx; have HFX := lh hfx; have k1 := fr_keep hfx k0; clear hrx hfx k0; refine sp 9 rfl rfl rfl fun K hK => ?_; refine wp_append_re (w0 := wr.drew) (p := p) (.tmp 13) (.tmp 19) rfl (by have := HRD.out.pH; have := HRD.out.low; have := HRD.out.blk.lt; omega) HFX.out rfl HRX.out rfl (S1.out.fr HFX.out) (by have := HLE.out; simp only [List.length_nil]; omega) fun G A9 c9 w9 hg hr hf => ?_; have hk9 := fr_keep (HFD.out.trans hf (by simp)) HCL.out; refine hK _ _ (fun _ => hk9) ?_; simp only [nrm]; clear hK k1; have E9 := lh hg; have R9 := lh hr; have F9 := lh hf; clear hg hr hf; refine tks [12] ?_; refine tk rfl rfl hk9 rfl (fun _ _ => by go_simp <;> with_reducible rfl) ?_; simp only [nrm]; refine tke ?_; refine wpAnyK_step (j := 13) none rfl rfl (by kernel_rfl) rfl fun K hK => ?_; have hpr := HRD.out.put_row hi F9.out R9.out; have hb9 := HRD.out.blk.fr F9.out (by simp); obtain ⟨ci, hci⟩ : ∃ ci, vk[i]? = some ci := gx (by rw [HRD.out.len]; exact hi); have d0 := hb9.at_ hci; have fr1 := hb9.free i; have lt1 := hb9.lt; refine wp_run_skip (w' := w9.setCell ⟨k, i, none⟩ (.slice A9 G.length c9)) (by go_simp) (hK _ _ (fun _ => fr_keepS hpr.2.1 (by have := HH.out.blk.lt; have := HKW.out; simp only [List.mem_singleton]; omega) (fr_keep HFD.out HCL.out)) ?_); simp only [Act.put]; clear hK; refine wd ?_ _; have hG : G = E i := by rw [E9.out, List.nil_append]
   have HX : Hid (∃ (j : Nat) (vk' : List Value), j <= 8 /\ Value.int .i64 ((i : Int) + 1) = .int .i64 (j : Int) /\ RefAt p H (w9.setCell ⟨k, i, none⟩ (.slice A9 G.length c9)) k vk' (upTo E j) /\ Fr [] w (w9.setCell ⟨k, i, none⟩ (.slice A9 G.length c9)) /\ ∀ q ∈ fl k vk', w.heap.size <= q) := lh ⟨i + 1, _, hi, rfl, by rw [<- upTo_succ, <- hG]; exact hpr.1, HFD.out.trans hpr.2.1 (fun q hq => .inr (by rw [List.mem_singleton.1 hq, HKW.out]; exact Nat.le_refl _)), fun q hq => (hpr.2.2 q hq).elim (HNEW.out q) fun h => by have := HFD.out.size; omega⟩; clear hpr hb9 hci d0 fr1 lt1 hG hk9 hte; go_wp2_with fail
   go_roundw
   case rel => exact HX.out
   case measure => simp [intOf]; omega
  ·obtain rfl : i = 8 := by omega
   have HX := lh (HQ.out (.returned (.pointer (some ⟨k, 0, none⟩))) wr ⟨k, vk, rfl, HREF.out.eight fun t ht => by unfold upTo; rw [if_pos ht], HFR.out, HNEW.out⟩); go_wp2_with fail; exact HX.out
/-- Are things few? -/
theorem small_any (W w : World) (hf : Fr [] W w) {v : Value} {l : List OpP} (h : ArgPl W v l) :
  Calls Tryz.prog 20 #[v] w fun e w' => ∃ b, e = .returned (.bool b) /\ (b = true -> l.length <= 300) /\ Fr [] w w' := by
 obtain ⟨A, c, g, off, rfl, hmax, hel⟩ := h; have HEL := lh hel; have HF := lh hf; clear hel hf; refine calls_post fun R HQ => ?_
 go_enter Tryz.func20, Tryz.ntmps20
 by_cases h300 : 300 < l.length
 ·have hI : (300 : Int) < (l.length : Int) := by omega
  have HX := lh (HQ.out (.returned (.bool false)) w ⟨false, rfl, fun h => (by cases h), Fr.refl _ _⟩); go_wp2_with fail; exact HX.out
 ·have hI : ¬ (300 : Int) < (l.length : Int) := by omega
  have HL : Hid (l.length <= 300) := lh (by omega); go_wp2_with fail
  go_loopw [3] (fun v3 wr => ∃ i : Nat, i <= l.length /\ v3 = .int .i64 (i : Int) /\ Fr [] w wr) (fun v3 _ => l.length - (intOf v3).toNat)
  case atStart => exact ⟨0, Nat.zero_le _, rfl, Fr.refl _ _⟩
  case round =>
   obtain ⟨i, hil, rfl, hfr⟩ := hrel; have FR := lh hfr; clear hfr
   by_cases hi : i < l.length
   ·obtain ⟨o, ho⟩ := gx hi; obtain ⟨hA, hat⟩ := HEL.out i o ho; subst hA; have hfd : Fr [] W wr.drew := HF.out.trans FR.out.drew (by simp); have k3 := hfd.keep hat.c3; have k4 := hfd.keep hat.c4; have k5 := hfd.keep hat.c5; obtain ⟨_, _, ⟨A3, c3, _, e3, -, -⟩, -⟩ := hat.k; obtain ⟨_, _, ⟨A4, c4, _, e4, -, -⟩, -⟩ := hat.b; obtain ⟨_, _, ⟨A5, c5, _, e5, -, -⟩, -⟩ := hat.e; rw [e3] at k3; rw [e4] at k4; rw [e5] at k5; have hiI : (i : Int) < (l.length : Int) := by omega
    have hwi := wi i (by have := HL.out; omega)
    have HD := lh FR.out.drew; clear hat ho e3 e4 e5 hfd; go_upto_region 6 with fail
    refine wp_region_K (fun W' => W'.cell? ⟨g, off + i * 7 + 3, none⟩ = some (.slice A3 o.key.length c3) /\ W'.cell? ⟨g, off + i * 7 + 4, none⟩ = some (.slice A4 o.v.length c4) /\ W'.cell? ⟨g, off + i * 7 + 5, none⟩ = some (.slice A5 o.upto.length c5)) [0, 1, 2, 3, 4, 5, 6, 7, 8, 9, 10, 11, 12, 13, 14, 15, 16, 17, 18, 19, 20] (by kernel_rfl) ?_; refine tks [0, 1, 2, 3, 4, 5, 6, 7, 8, 9, 10, 11, 12, 13, 14, 15, 16, 17, 18, 19, 20] ?_
    iterate 21 (refine tk rfl rfl ⟨k3, k4, k5⟩ rfl (fun _ hW => by (obtain ⟨y3, y4, y5⟩ := hW; go_simp) <;> with_reducible rfl) ?_; simp only [nrm])
    refine tke ?_; refine wd ?_ _; generalize decide (600 < IntKind.i64.wrap (IntKind.i64.wrap ((o.key.length : Int) + (o.v.length : Int)) + (o.upto.length : Int))) = b; have HX : Hid (∃ j : Nat, j <= l.length /\ Value.int .i64 ((i : Int) + 1) = .int .i64 (j : Int) /\ Fr [] w wr.drew) := lh ⟨i + 1, hi, rfl, HD.out⟩; have HX2 := lh (HQ.out (.returned (.bool false)) wr.drew ⟨false, rfl, fun h => (by cases h), HD.out⟩); clear k3 k4 k5
    cases b with
    | true =>
     go_wp2_with fail; exact HX2.out
    | false =>
     go_wp2_with fail
     go_roundw
     case rel => exact HX.out
     case measure => simp [intOf]; omega
   ·obtain rfl : i = l.length := by omega
    have HX := lh (HQ.out (.returned (.bool true)) wr ⟨_, rfl, fun _ => HL.out, FR.out⟩); go_wp2_with fail; exact HX.out
end
theorem Put_no {w : World} {st gk gv : Nat} {t : Int} {kv vv : Value} {key v : Ky} (hk : BytesAt w kv key gk) (hv : BytesAt w vv v gv) (hm : (mayB t key && decide (v.length <= 64)) = false) :
  Calls Tryz.prog 10 #[.pointer (some ⟨st, 0, none⟩), .int .i64 t, kv, vv] w fun e w' => e = .returned (.int .i64 1) /\ w = w' := by
 cases h : mayB t key with
 | false => exact Put_bad hk h
 | true =>
  rw [h] at hm; have h64 : ¬ v.length <= 64 := by simpa using hm
  have hI : (64 : Int) < (v.length : Int) := by omega
  obtain ⟨Av, cv, _, rfl, -, -⟩ := hv; have HMAY := lh (may_any t hk); rw [h] at HMAY; refine calls_post fun R HQ => ?_; have HX := lh (HQ.out _ _ ⟨rfl, rfl⟩); clear hm hk h h64
  go_enter Tryz.func10, Tryz.ntmps10
  go_wp2_with fail; refine HMAY.out.mono ?_; rintro e w1 ⟨rfl, rfl⟩; go_wp2_with fail; exact HX.out
theorem Get_no {w : World} {st gk : Nat} {t : Int} {kv : Value} {key : Ky} (hk : BytesAt w kv key gk) (hm : mayB t key = false) :
  Calls Tryz.prog 14 #[.pointer (some ⟨st, 0, none⟩), .int .i64 t, kv] w fun e w' => e = .returned (.tuple #[.slice none 0 0, .bool false, .int .i64 1]) /\ w = w' := by
 have HMAY := lh (may_any t hk); rw [hm] at HMAY; refine calls_post fun R HQ => ?_; have HX := lh (HQ.out _ _ ⟨rfl, rfl⟩); clear hm hk
 go_enter Tryz.func14, Tryz.ntmps14
 go_wp2_with fail; refine HMAY.out.mono ?_; rintro e w1 ⟨rfl, rfl⟩; go_wp2_with fail; exact bodyPost_ret (results_ttt rfl) rfl HX.out
theorem Delete_no {w : World} {st gk : Nat} {t : Int} {kv : Value} {key : Ky} (hk : BytesAt w kv key gk) (hm : mayB t key = false) :
  Calls Tryz.prog 15 #[.pointer (some ⟨st, 0, none⟩), .int .i64 t, kv] w fun e w' => e = .returned (.tuple #[.bool false, .int .i64 1]) /\ w = w' := by
 have HMAY := lh (may_any t hk); rw [hm] at HMAY; refine calls_post fun R HQ => ?_; have HX := lh (HQ.out _ _ ⟨rfl, rfl⟩); clear hm hk
 go_enter Tryz.func15, Tryz.ntmps15
 go_wp2_with fail; refine HMAY.out.mono ?_; rintro e w1 ⟨rfl, rfl⟩; go_wp2_with fail; exact HX.out
theorem Range_no {w : World} {st : Nat} {t most : Int} {fv tv : Value} (hm : rangeOk t most = false) :
  Calls Tryz.prog 11 #[.pointer (some ⟨st, 0, none⟩), .int .i64 t, fv, tv, .int .i64 most] w fun e w' => e = .returned (.tuple #[.slice none 0 0, .int .i64 1]) /\ w = w' := by
 refine calls_post fun R HQ => ?_
 by_cases h1 : t < 0
 ·
  have HX := lh (HQ.out _ _ ⟨rfl, rfl⟩); clear hm HQ
  go_enter Tryz.func11, Tryz.ntmps11
  go_wp2_with fail; exact HX.out
 ·by_cases h2 : 8 <= t
  ·
   have HX := lh (HQ.out _ _ ⟨rfl, rfl⟩); clear hm HQ
   go_enter Tryz.func11, Tryz.ntmps11
   go_wp2_with fail; exact HX.out
  ·have h3 : most < 0 := by
    unfold rangeOk at hm; simp only [Bool.and_eq_false_iff, decide_eq_false_iff_not] at hm; omega
   have HX := lh (HQ.out _ _ ⟨rfl, rfl⟩); clear hm HQ
   go_enter Tryz.func11, Tryz.ntmps11
   go_wp2_with fail; exact HX.out
end
section
theorem commit_done (s : PS) (h : s.held.length <= s.n) (hn : s.n <= 4096) : s.commit.1.D.done <= s.D.done + 300000 := by
 have h0 : ∀ b, (s.append b).1.D.done <= s.D.done + 300000 := fun b => by
  have h1 := appendD_done s.D s.l b; have h2 := check_done (s.laid b) h hn; have h2' : (s.laid b).D.done = (appendD s.D s.l b).done := rfl; have h3 := appendD_done (s.laid b).check.1.D (s.laid b).check.1.l b; unfold PS.append
  split
  ·show (appendD s.D s.l b).done <= _; omega
  ·split
   ·omega
   ·show (appendD (s.laid b).check.1.D (s.laid b).check.1.l b).done <= _; omega
 unfold PS.commit
 split
 ·exact Nat.le_add_right _ _
 ·split
  ·exact Nat.le_add_right _ _
  ·split
   ·exact h0 _
   ·exact h0 _
end
end Go.Proofs.YtpjbdpepofnleaaGreat
