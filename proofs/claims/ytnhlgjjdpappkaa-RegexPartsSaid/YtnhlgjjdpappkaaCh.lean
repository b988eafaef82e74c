/-
  The contract of part: rows, and so many times.
-/
import Derived.Test.YtnhlgjjdpappkaaCg
namespace Go.Proofs.Ytnhlgjjdpappkaa
open Go.RowKit

theorem rowCode_append : ∀ (a c : List Pt) (b : Nat), rowCode (a ++ c) b = rowCode a b ++ rowCode c (b + rowLen a)
  | [], c, b => by simp [rowCode, rowLen]
  | p :: a, c, b => by rw [List.cons_append, rowCode, rowCode_append a c, rowCode, rowLen, List.append_assoc, Nat.add_assoc]
theorem rowLen_append : ∀ (a c : List Pt), rowLen (a ++ c) = rowLen a + rowLen c
  | [], c => by simp [rowLen]
  | p :: a, c => by rw [List.cons_append, rowLen, rowLen_append a c, rowLen]; omega
theorem row_take {l : List Pt} {k : Nat} {q : Pt} (b : Nat) (h : l[k]? = some q) : rowCode (l.take (k + 1)) b = rowCode (l.take k) b ++ q.code (b + rowLen (l.take k)) ∧ rowLen (l.take k) + q.len ≤ rowLen l := by
  obtain ⟨hk, rfl⟩ := List.getElem?_eq_some_iff.1 h
  refine ⟨by rw [List.take_succ_eq_append_getElem hk, rowCode_append]; simp [rowCode], ?_⟩
  have e : l = l.take k ++ l[k] :: l.drop (k + 1) := by rw [← List.drop_eq_getElem_cons hk, List.take_append_drop]
  have e2 : rowLen l = rowLen (l.take k ++ l[k] :: l.drop (k + 1)) := congrArg rowLen e
  rw [rowLen_append, rowLen] at e2
  omega
theorem repCode_snoc {f : Nat → List Rop} {len : Nat} : ∀ (n b : Nat), repCode f len (n + 1) b = repCode f len n b ++ f (b + n * len)
  | 0, b => by simp [repCode]
  | n + 1, b => by
    rw [repCode, repCode_snoc n (b + len), repCode, List.append_assoc, show b + len + n * len = b + (n + 1) * len by rw [Nat.succ_mul]; omega]

def RwRel (w0 : World) (gp B : Nat) (v : Value) (ops : List Rop) (l : List Pt) (j : Nat) (v23 : Value) (wr : World) : Prop :=
  ∃ (k : Nat) (v' : Value), k + j = l.length ∧ v23 = .int .i64 (k : Int) ∧ CP wr gp B v' (ops ++ rowCode (l.take k) ops.length) ∧ CStep w0 wr gp v v'

set_option maxRecDepth 100000 in
set_option maxHeartbeats 1600000 in
theorem part_row {m : Nat} (IH : PartOK m) {w : World} {gp B : Nat} {v : Value} {ops : List Rop} {cs : List Value} {l : List Pt} (hm : ∀ p ∈ l, SizeOf.sizeOf p < m) (h : CP w gp B v ops) (hp : PartAt w (fun g => g < B) (.row l) cs) (ho : (Pt.row l).ok) (hB : B ≤ w.heap.size) (hn : ops.length + rowLen l < 90000) :
    Calls Try.prog 19 #[.pointer (some ⟨gp, 0, none⟩), .agg cs.toArray] w (LayRes w gp B v (ops ++ (Pt.row l).code ops.length)) := by
  obtain ⟨o1, o2⟩ := ho
  have HIH := Lib.hid IH; have HM := Lib.hid hm; have HOO := Lib.hid o2
  clear IH hm o2
  -- the part (.row l), boxed
  refine calls_post fun R HQ => ?_
  obtain ⟨sv, lv, rfl, hs, hl⟩ := hp.inv
  have HSP := Lib.hid hs
  obtain ⟨A1, c1, rfl⟩ := hs.slice
  have HLP := Lib.hid hl
  obtain ⟨A, c, g, off, css, rfl, hc, hA, hcell, hsub⟩ := hl
  unfold pcells
  simp only [Pt.kind, Pt.neg, Pt.lo, Pt.hi, Pt.subs] at *
  have hfa : Fr [] w (w.alloc (.cells #[.int .i64 1, .bool false, .slice A1 (Pt.set (.row l)).length c1, .slice A l.length c, .int .i64 0, .int .i64 0] 43)) := (Fr.refl [] w).alloc _
  have hsa : (w.alloc (.cells #[.int .i64 1, .bool false, .slice A1 (Pt.set (.row l)).length c1, .slice A l.length c, .int .i64 0, .int .i64 0] 43)).heap.size = w.heap.size + 1 := by simp
  have HBX := Lib.hid (Blk.new w 43 [.int .i64 1, .bool false, .slice A1 (Pt.set (.row l)).length c1, .slice A l.length c, .int .i64 0, .int .i64 0])
  have HC0 := Lib.hid (h.frn hfa); have HFA := Lib.hid hfa
  have HCELL := Lib.hid hcell; have HSUB := Lib.hid hsub; have HAA := Lib.hid hA
  have HOW : Hid (v.ownBlock ≠ some w.heap.size) := Lib.hid fun e => by have := h.lt.2 _ e; omega
  have hgp : gp < w.heap.size := h.lt.1
  clear h hs hA hcell hsub hfa hp
  go_enter Try.func19, Try.ntmps19
  go_wp2_with fail
  generalize w.alloc (.cells #[.int .i64 1, .bool false, .slice A1 (Pt.set (.row l)).length c1, .slice A l.length c, .int .i64 0, .int .i64 0] 43) = w0 at *
  obtain ⟨n, hln⟩ : ∃ n, n = l.length := ⟨_, rfl⟩
  have HN := Lib.hid hln
  rw [← hln] at hc o1 HBX ⊢
  clear hln
  go_loopg [23] n (RwRel w0 gp B v ops l)
  case atStart => exact ⟨0, v, by rw [← HN.out]; omega, rfl, by simpa [rowCode] using HC0.out, CStep.refl _ _ _⟩
  case round =>
    obtain ⟨k, v', hk, rfl, hC, hS⟩ := hrel
    rw [← HN.out] at hk
    have HC := Lib.hid hC; have HS := Lib.hid hS
    have hzr := hS.1.size
    clear hC hS
    by_cases hkn : k < n
    · obtain ⟨q, hq⟩ : ∃ q, l[k]? = some q := ⟨_, List.getElem?_eq_getElem (by rw [← HN.out]; exact hkn)⟩
      obtain ⟨rfl, hgB⟩ := HAA.out (by rw [← HN.out]; omega)
      obtain ⟨hc6, hck⟩ := HCELL.out k (by rw [← HN.out]; exact hkn)
      have hrt := row_take ops.length hq
      have hone := (HSUB.out k q hq).one
      have HPQ := Lib.hid (HS.out.part HC0.out ((HSUB.out k q hq).fr HFA.out (by simp)))
      have HCK : Hid (∀ (j : Nat) (u : Value), (css k)[j]? = some u → wr.cell? ⟨g, off + k * 6 + j, none⟩ = some u) := Lib.hid fun j u hu => by
        have h1 := hck j u hu
        rw [show off + 6 * k + j = off + k * 6 + j by omega] at h1
        exact HS.out.cell HC0.out hgB (HFA.out.cell_at (by simp) h1)
      have hlen : (ops ++ rowCode (l.take k) ops.length).length = ops.length + rowLen (l.take k) := by rw [List.length_append, rowCode_len]
      have HRT := Lib.hid hrt.1
      have hrl := hrt.2
      have HQM := Lib.hid (HM.out q (List.mem_of_getElem? hq)); have HQO := Lib.hid (allOk_get HOO.out hq)
      clear hck hrt hq
      go_upto_region 7 with fail
      refine wp_region_lit ?_
      refine wpList_plain rfl fun K hK => ?_
      refine wp_run_same (v := ?au2_0) ?yu2_0 (hK _ _ ?_)
      case yu2_0 => go_simp <;> with_reducible rfl
      clear hK K
      simp only [Act.put, List.setIfInBounds_toArray, List.set_cons_zero, List.set_cons_succ]
      refine wpList_plain rfl fun K hK => ?_
      refine wp_load_mid 43 (.tmp 25) rfl g (off + k * 6) rfl (css k) _ (fun j u hu => HCK.out j u hu) Try.underlying43 rfl (by rw [hc6]; kernel_rfl) (hK _ _ ?_)
      simp only [Act.put, List.setIfInBounds_toArray, List.set_cons_zero, List.set_cons_succ]
      clear hK
      refine wpList_plain rfl fun K hK => ?_
      refine wp_alloc_blk 43 rfl (.agg zero6.toArray) zero6 (by kernel_rfl) rfl fun w2 hb2 hf2 hs2 => hK _ _ ?_
      simp only [Act.put, List.setIfInBounds_toArray, List.set_cons_zero, List.set_cons_succ]
      clear hK
      refine wpList_plain rfl fun K hK => ?_
      refine wp_store_blk 43 (.tmp 5) (.tmp 26) rfl (css k) rfl rfl hb2 (by rw [hc6]; kernel_rfl) (by rw [hc6]; rfl) hone fun w3 hb3 hf3 hs3 => hK _ _ ?_
      simp only [Act.put]
      clear hK
      refine wpList_nil ?_
      have hf13 : Fr [] wr w3 := hf2.trans hf3 (fun x hx => .inr (by simp at hx; omega))
      have HX3 := Lib.hid hb3
      have HC3 := Lib.hid (HC.out.frn hf13); have HS3 := Lib.hid (HS.out.fr hf13)
      have HCQ := Lib.hid (HIH.out q HQM.out w3 gp B v' _ (css k) HC3.out (HPQ.out.fr hf13 (by simp)) HQO.out (by have := hf13.size; omega) (by rw [hlen]; omega))
      rw [hlen] at HCQ
      clear hf13 hb2 hf2 hs2 hb3 hf3 hs3 hone hlen
      go_upto_region 8 with fail
      refine wp_region_lit ?_
      refine wpList_plain rfl fun K hK => ?_
      refine wp_run_same (v := ?au4_0) ?yu4_0 (hK _ _ ?_)
      case yu4_0 => go_simp <;> with_reducible rfl
      clear hK K
      simp only [Act.put, List.setIfInBounds_toArray, List.set_cons_zero, List.set_cons_succ]
      refine wpList_plain rfl fun K hK => ?_
      refine wp_load_mid 43 (.tmp 5) rfl wr.heap.size 0 rfl (css k) _ (fun j v hv => by rw [Nat.zero_add]; exact HX3.out.at_ hv) Try.underlying43 rfl (by rw [hc6]; kernel_rfl) (hK _ _ ?_)
      simp only [Act.put, List.setIfInBounds_toArray, List.set_cons_zero, List.set_cons_succ]
      clear hK
      refine wpList_plain rfl fun K hK => ?_
      refine wp_callp (l := [.tmp 27, .tmp 28]) rfl [.pointer (some ⟨gp, 0, none⟩), .agg (css k).toArray] rfl (enter_part _) (HCQ.out.mono ?_)
      rintro e w4 ⟨rfl, v4, hC4, hS4⟩
      refine .inl ⟨_, rfl, hK _ _ ?_⟩
      simp only [Act.put, List.setIfInBounds_toArray, List.set_cons_zero, List.set_cons_succ]
      clear hK
      refine wpList_nil ?_
      have HC4 : Hid (CP w4 gp B v4 (ops ++ rowCode (l.take (k + 1)) ops.length)) := Lib.hid (by rw [HRT.out, ← List.append_assoc]; exact hC4)
      have HS4 := Lib.hid (HS3.out.trans hS4)
      clear hC4 hS4
      go_wp2_with fail
      go_roundg (gk - 1)
      case measure => omega
      case rel => exact ⟨k + 1, v4, by rw [← HN.out]; omega, by go_num, HC4.out, HS4.out⟩
    · have HCE : Hid (CP wr gp B v' (ops ++ (Pt.row l).code ops.length)) := Lib.hid (by
        have := HC.out
        rw [List.take_of_length_le (by rw [← HN.out]; omega)] at this
        rw [Pt.code]; exact this)
      have HSE := Lib.hid (CStep.pre HFA.out HS.out)
      go_wp2_with fail
      exact bodyPost_end (results_none rfl _ _ _) rfl (HQ.out _ _ ⟨rfl, v', HCE.out, HSE.out⟩)

def TmRel (w0 : World) (gp B : Nat) (v : Value) (ops : List Rop) (q : Pt) (bx : List Value) (gx n j : Nat) (v74 : Value) (wr : World) : Prop :=
  ∃ (k : Nat) (v' : Value), k + j = n ∧ v74 = .int .i64 (k : Int) ∧ CP wr gp B v' (ops ++ repCode q.code q.len k ops.length) ∧ CStep w0 wr gp v v' ∧ Blk wr gx 43 bx ∧ v'.ownBlock ≠ some gx

set_option maxRecDepth 100000 in
set_option maxHeartbeats 1600000 in
theorem part_times {m : Nat} (IH : PartOK m) {w : World} {gp B : Nat} {v : Value} {ops : List Rop} {cs : List Value} {q : Pt} {n : Nat} {hi : Option Nat} (hm : SizeOf.sizeOf q < m) (h : CP w gp B v ops) (hp : PartAt w (fun g => g < B) (.times q n hi) cs) (ho : (Pt.times q n hi).ok) (hB : B ≤ w.heap.size) (hn : ops.length + (Pt.times q n hi).len < 90000) :
    Calls Try.prog 19 #[.pointer (some ⟨gp, 0, none⟩), .agg cs.toArray] w (LayRes w gp B v (ops ++ (Pt.times q n hi).code ops.length)) := by
  have hn99 : n ≤ 99 := by
    cases hi with
    | none => exact ho.2.2
    | some k => have := ho.2.2; omega
  have hqo : q.ok := by
    cases hi with
    | none => exact ho.1
    | some k => exact ho.1
  have hrep : n * q.len ≤ (Pt.times q n hi).len := by cases hi <;> rw [Pt.len] <;> omega
  have HIH := Lib.hid IH; have HO := Lib.hid ho
  clear IH ho
  obtain ⟨hv, hhv⟩ : ∃ hv, hv = (Pt.times q n hi).hi := ⟨_, rfl⟩
  have HHV := Lib.hid hhv
  refine calls_post fun R HQ => ?_
  obtain ⟨sv, lv, rfl, hs, hl⟩ := hp.inv
  obtain ⟨A1, c1, rfl⟩ := hs.slice
  obtain ⟨A, c, g, off, css, rfl, hc, hA, hcell, hsub⟩ := hl
  unfold pcells
  rw [← hhv]
  clear hhv
  simp only [Pt.kind, Pt.neg, Pt.lo, Pt.subs] at *
  have hfa : Fr [] w (w.alloc (.cells #[.int .i64 6, .bool false, .slice A1 (Pt.set (.times q n hi)).length c1, .slice A 1 c, .int .i64 (n : Int), .int .i64 hv] 43)) := (Fr.refl [] w).alloc _
  have hsa : (w.alloc (.cells #[.int .i64 6, .bool false, .slice A1 (Pt.set (.times q n hi)).length c1, .slice A 1 c, .int .i64 (n : Int), .int .i64 hv] 43)).heap.size = w.heap.size + 1 := by simp
  have HBX := Lib.hid (Blk.new w 43 [.int .i64 6, .bool false, .slice A1 (Pt.set (.times q n hi)).length c1, .slice A 1 c, .int .i64 (n : Int), .int .i64 hv])
  have HC0 := Lib.hid (h.frn hfa); have HFA := Lib.hid hfa
  have HCELL := Lib.hid hcell; have HSUB := Lib.hid hsub; have HAA := Lib.hid hA
  have HOW : Hid (v.ownBlock ≠ some w.heap.size) := Lib.hid fun e => by have := h.lt.2 _ e; omega
  have hgp : gp < w.heap.size := h.lt.1
  clear h hs hA hcell hsub hfa hp
  -- the one part inside
  obtain ⟨rfl, hgB⟩ := HAA.out (by simp)
  obtain ⟨hc6, hck⟩ := HCELL.out 0 (by simp)
  have hq0 := HSUB.out 0 q rfl
  have HQ0 := Lib.hid (hq0.fr HFA.out (by simp))
  have HCK : Hid (∀ (j : Nat) (u : Value), (css 0)[j]? = some u → w.cell? ⟨g, off + j, none⟩ = some u) := Lib.hid fun j u hu => by have := hck j u hu; rwa [Nat.mul_zero, Nat.add_zero] at this
  have HQOK : Hid q.ok := Lib.hid hqo
  clear hck hq0
  clear hqo
  go_enter Try.func19, Try.ntmps19
  go_wp2_with fail
  generalize w.alloc (.cells #[.int .i64 6, .bool false, .slice A1 (Pt.set (.times q n hi)).length c1, .slice (some ⟨g, off, none⟩) 1 c, .int .i64 (n : Int), .int .i64 hv] 43) = w0 at *
  go_loopg [74] n (TmRel w0 gp B v ops q [.int .i64 6, .bool false, .slice A1 (Pt.set (.times q n hi)).length c1, .slice (some ⟨g, off, none⟩) 1 c, .int .i64 (n : Int), .int .i64 hv] w.heap.size n)
  case atStart => exact ⟨0, v, by omega, rfl, by simpa [repCode] using HC0.out, CStep.refl _ _ _, HBX.out, HOW.out⟩
  case round =>
    obtain ⟨k, v', hk, rfl, hC, hS, hbx, hov⟩ := hrel
    have HC := Lib.hid hC; have HS := Lib.hid hS; have HBX' := Lib.hid hbx; have HOV := Lib.hid hov
    have hzr := hS.1.size
    clear hC hS hbx hov HBX HOW
    have hlen : (ops ++ repCode q.code q.len k ops.length).length = ops.length + k * q.len := by rw [List.length_append, repCode_len q.code_len]
    have HQr := Lib.hid (HS.out.part HC0.out HQ0.out)
    have HGX : Hid (∀ (j : Nat) (u : Value), w.cell? ⟨g, off + j, none⟩ = some u → wr.cell? ⟨g, off + j, none⟩ = some u) := Lib.hid fun j u hu => HS.out.cell HC0.out hgB (HFA.out.cell_at (by simp) hu)
    have b3 := HBX'.out.at_ (i := 3) rfl
    have hkk : k * q.len ≤ n * q.len := Nat.mul_le_mul_right _ (by omega)
    by_cases hkn : k < n
    · have hk1 : k * q.len + q.len ≤ n * q.len := by rw [← Nat.succ_mul]; exact Nat.mul_le_mul_right _ (by omega)
      have HCQ := Lib.hid (HIH.out q hm wr gp B v' _ (css 0) HC.out HQr.out HQOK.out (by omega) (by rw [hlen]; omega))
      rw [hlen] at HCQ
      go_upto_region 23 with fail
      -- the part inside is loaded: region, the pointer in 79, the world WX; HFX : Fr .. w WX with g untouched
      refine wp_region_lit ?_
      refine wpList_plain rfl fun K hK => ?_
      refine wp_run_same (v := ?au6_0) ?yu6_0 (hK _ _ ?_)
      case yu6_0 => go_simp <;> with_reducible rfl
      clear hK K
      simp only [Act.put, List.setIfInBounds_toArray, List.set_cons_zero, List.set_cons_succ]
      refine wpList_plain rfl fun K hK => ?_
      refine wp_run_same (v := ?au7_1) ?yu7_1 (hK _ _ ?_)
      case yu7_1 => go_simp <;> with_reducible rfl
      clear hK K
      simp only [Act.put, List.setIfInBounds_toArray, List.set_cons_zero, List.set_cons_succ]
      refine wpList_plain rfl fun K hK => ?_
      refine wp_run_same (v := ?au8_2) ?yu8_2 (hK _ _ ?_)
      case yu8_2 => go_simp <;> with_reducible rfl
      clear hK K
      simp only [Act.put, List.setIfInBounds_toArray, List.set_cons_zero, List.set_cons_succ]
      refine wpList_plain rfl fun K hK => ?_
      refine wp_run_same (v := ?au9_3) ?yu9_3 (hK _ _ ?_)
      case yu9_3 => go_simp <;> with_reducible rfl
      clear hK K
      simp only [Act.put, List.setIfInBounds_toArray, List.set_cons_zero, List.set_cons_succ]
      refine wpList_plain rfl fun K hK => ?_
      refine wp_load_mid 43 (.tmp 79) rfl g off rfl (css 0) _ (fun j u hu => by
        have h1 := HCK.out j u hu
        exact HGX.out j u h1) Try.underlying43 rfl (by rw [hc6]; kernel_rfl) (hK _ _ ?_)
      simp only [Act.put, List.setIfInBounds_toArray, List.set_cons_zero, List.set_cons_succ]
      clear hK
      refine wpList_plain rfl fun K hK => ?_
      refine wp_callp (l := [.tmp 76, .tmp 80]) rfl [.pointer (some ⟨gp, 0, none⟩), .agg (css 0).toArray] rfl (enter_part _) (HCQ.out.mono ?_)
      rintro e w5 ⟨rfl, v5, hC5, hS5⟩
      refine .inl ⟨_, rfl, hK _ _ ?_⟩
      simp only [Act.put, List.setIfInBounds_toArray, List.set_cons_zero, List.set_cons_succ]
      clear hK
      refine wpList_nil ?_
      obtain ⟨hbx5, hov5⟩ := hS5.keep HBX'.out (by omega) HOV.out
      have HC5 : Hid (CP w5 gp B v5 (ops ++ repCode q.code q.len (k + 1) ops.length)) := Lib.hid (by rw [repCode_snoc, ← List.append_assoc]; exact hC5)
      have HS5 := Lib.hid (HS.out.trans hS5); have HBX5 := Lib.hid hbx5; have HOV5 := Lib.hid hov5
      clear hC5 hS5 hbx5 hov5 b3
      go_wp2_with fail
      go_roundg (gk - 1)
      case measure => omega
      case rel => exact ⟨k + 1, v5, by omega, by go_num, HC5.out, HS5.out, HBX5.out, HOV5.out⟩
    · obtain rfl : k = n := by omega
      have b4 := HBX'.out.at_ (i := 4) rfl
      have b5 := HBX'.out.at_ (i := 5) rfl
      cases hi with
      | none =>
        have e1 : hv = -1 := HHV.out
        subst e1
        have hnl : ops.length + (k * q.len + (q.len + 2)) < 90000 := by rw [Pt.len] at hn; exact hn
        have HCQ := Lib.hid (star_any HIH.out hm HC.out HQr.out HQOK.out (by omega) (by rw [hlen]; omega))
        rw [hlen] at HCQ
        go_upto_region 26 with fail
        -- the part inside is loaded: region, the pointer in 89, the world WX; HFX : Fr .. w WX with g untouched
        refine wp_region_lit ?_
        refine wpList_plain rfl fun K hK => ?_
        refine wp_run_same (v := ?au11_0) ?yu11_0 (hK _ _ ?_)
        case yu11_0 => go_simp <;> with_reducible rfl
        clear hK K
        simp only [Act.put, List.setIfInBounds_toArray, List.set_cons_zero, List.set_cons_succ]
        refine wpList_plain rfl fun K hK => ?_
        refine wp_run_same (v := ?au12_1) ?yu12_1 (hK _ _ ?_)
        case yu12_1 => go_simp <;> with_reducible rfl
        clear hK K
        simp only [Act.put, List.setIfInBounds_toArray, List.set_cons_zero, List.set_cons_succ]
        refine wpList_plain rfl fun K hK => ?_
        refine wp_run_same (v := ?au13_2) ?yu13_2 (hK _ _ ?_)
        case yu13_2 => go_simp <;> with_reducible rfl
        clear hK K
        simp only [Act.put, List.setIfInBounds_toArray, List.set_cons_zero, List.set_cons_succ]
        refine wpList_plain rfl fun K hK => ?_
        refine wp_run_same (v := ?au14_3) ?yu14_3 (hK _ _ ?_)
        case yu14_3 => go_simp <;> with_reducible rfl
        clear hK K
        simp only [Act.put, List.setIfInBounds_toArray, List.set_cons_zero, List.set_cons_succ]
        refine wpList_plain rfl fun K hK => ?_
        refine wp_load_mid 43 (.tmp 89) rfl g off rfl (css 0) _ (fun j u hu => by
          have h1 := HCK.out j u hu
          exact HGX.out j u h1) Try.underlying43 rfl (by rw [hc6]; kernel_rfl) (hK _ _ ?_)
        simp only [Act.put, List.setIfInBounds_toArray, List.set_cons_zero, List.set_cons_succ]
        clear hK
        refine wpList_plain rfl fun K hK => ?_
        refine wp_callp (l := [.tmp 86, .tmp 90]) rfl [.pointer (some ⟨gp, 0, none⟩), .agg (css 0).toArray] rfl (enter_star _) (HCQ.out.mono ?_)
        rintro e w5 ⟨rfl, v5, hC5, hS5⟩
        refine .inl ⟨_, rfl, hK _ _ ?_⟩
        simp only [Act.put, List.setIfInBounds_toArray, List.set_cons_zero, List.set_cons_succ]
        clear hK
        refine wpList_nil ?_
        have HC5 : Hid (CP w5 gp B v5 (ops ++ (Pt.times q k none).code ops.length)) := Lib.hid (by rw [Pt.code, ← List.append_assoc]; exact hC5)
        have HS5 := Lib.hid (CStep.pre HFA.out (HS.out.trans hS5))
        clear hC5 hS5 b3 b4 b5
        go_wp2_with fail
        exact bodyPost_end (results_none rfl _ _ _) rfl (HQ.out _ _ ⟨rfl, v5, HC5.out, HS5.out⟩)
      | some hn2 =>
        have e1 : hv = (hn2 : Int) := HHV.out
        subst e1
        have ho := HO.out
        have hle : k ≤ hn2 ∧ hn2 ≤ 99 := ⟨ho.2.2.1, ho.2.2.2⟩
        have hnl : ops.length + (k * q.len + (hn2 - k) * (1 + q.len)) < 90000 := by rw [Pt.len] at hn; exact hn
        have HCQ := Lib.hid (maybe_any (n := hn2 - k) HIH.out hm (HC.out.frn ((Fr.refl [] wr).drew)) (HQr.out.fr ((Fr.refl [] wr).drew) (by simp)) HQOK.out (by show B ≤ wr.heap.size; omega) (by rw [hlen]; omega) (by omega))
        rw [hlen, show ((hn2 - k : Nat) : Int) = (hn2 : Int) - (k : Int) by omega] at HCQ
        have d0 : ((hn2 : Int) == -1) = false := by simp <;> omega
        have x1 : IntKind.i64.wrap ((hn2 : Int) - (k : Int)) = (hn2 : Int) - (k : Int) := by rw [IntKind.wrap_i64]; omega
        clear ho
        go_wp2_with fail
        refine wp_region_K (fun W => W.cell? ⟨w.heap.size, 3, none⟩ = some (.slice (some ⟨g, off, none⟩) 1 c) ∧ W.cell? ⟨w.heap.size, 4, none⟩ = some (.int .i64 (k : Int)) ∧ W.cell? ⟨w.heap.size, 5, none⟩ = some (.int .i64 (hn2 : Int)) ∧ ∀ (j : Nat) (u : Value), (css 0)[j]? = some u → W.cell? ⟨g, off + j, none⟩ = some u) [0, 1, 2, 3, 4, 5, 6, 7, 8, 9] (by kernel_rfl) ?_
        have HGC : Hid (∀ (j : Nat) (u : Value), (css 0)[j]? = some u → wr.cell? ⟨g, off + j, none⟩ = some u) := Lib.hid fun j u hu => HGX.out j u (HCK.out j u hu)
        refine wpAnyK_take (i := 0) (some 92) ?vq15_0 rfl rfl (by kernel_rfl) (fun _ _ _ h => h) ⟨b3, b4, b5, HGC.out⟩ (.inl ⟨rfl, fun W hW => ?yq15_0⟩) ?_
        case yq15_0 => (obtain ⟨c3, c4, c5, _⟩ := hW; go_simp) <;> with_reducible rfl
        simp only [Act.put, List.setIfInBounds_toArray, List.set_cons_zero, List.set_cons_succ]
        refine wpAnyK_take (i := 1) (some 93) ?vq15_1 rfl rfl (by kernel_rfl) (fun _ _ _ h => h) ⟨b3, b4, b5, HGC.out⟩ (.inl ⟨rfl, fun W hW => ?yq15_1⟩) ?_
        case yq15_1 => (obtain ⟨c3, c4, c5, _⟩ := hW; go_simp) <;> with_reducible rfl
        simp only [Act.put, List.setIfInBounds_toArray, List.set_cons_zero, List.set_cons_succ]
        refine wpAnyK_take (i := 2) (some 94) ?vq15_2 rfl rfl (by kernel_rfl) (fun _ _ _ h => h) ⟨b3, b4, b5, HGC.out⟩ (.inl ⟨rfl, fun W hW => ?yq15_2⟩) ?_
        case yq15_2 => (obtain ⟨c3, c4, c5, _⟩ := hW; go_simp) <;> with_reducible rfl
        simp only [Act.put, List.setIfInBounds_toArray, List.set_cons_zero, List.set_cons_succ]
        refine wpAnyK_take (i := 3) (some 95) ?vq15_3 rfl rfl (by kernel_rfl) (fun _ _ _ h => h) ⟨b3, b4, b5, HGC.out⟩ (.inl ⟨rfl, fun W hW => ?yq15_3⟩) ?_
        case yq15_3 => (obtain ⟨c3, c4, c5, _⟩ := hW; go_simp) <;> with_reducible rfl
        simp only [Act.put, List.setIfInBounds_toArray, List.set_cons_zero, List.set_cons_succ]
        refine wpAnyK_take (i := 4) (some 96) (.agg (css 0).toArray) rfl rfl (by kernel_rfl) (fun _ _ _ h => h) ⟨b3, b4, b5, HGC.out⟩ (yieldsIf_load_mid rfl 43 (.tmp 95) rfl g off rfl (css 0) _ (fun W hW j v hj => hW.2.2.2 j v hj) Try.underlying43 rfl (by rw [hc6]; kernel_rfl)) ?_
        simp only [Act.put, List.setIfInBounds_toArray, List.set_cons_zero, List.set_cons_succ]
        refine wpAnyK_take (i := 5) (some 97) ?vq15_5 rfl rfl (by kernel_rfl) (fun _ _ _ h => h) ⟨b3, b4, b5, HGC.out⟩ (.inl ⟨rfl, fun W hW => ?yq15_5⟩) ?_
        case yq15_5 => (obtain ⟨c3, c4, c5, _⟩ := hW; go_simp) <;> with_reducible rfl
        simp only [Act.put, List.setIfInBounds_toArray, List.set_cons_zero, List.set_cons_succ]
        refine wpAnyK_take (i := 6) (some 98) ?vq15_6 rfl rfl (by kernel_rfl) (fun _ _ _ h => h) ⟨b3, b4, b5, HGC.out⟩ (.inl ⟨rfl, fun W hW => ?yq15_6⟩) ?_
        case yq15_6 => (obtain ⟨c3, c4, c5, _⟩ := hW; go_simp) <;> with_reducible rfl
        simp only [Act.put, List.setIfInBounds_toArray, List.set_cons_zero, List.set_cons_succ]
        refine wpAnyK_take (i := 7) (some 99) ?vq15_7 rfl rfl (by kernel_rfl) (fun _ _ _ h => h) ⟨b3, b4, b5, HGC.out⟩ (.inl ⟨rfl, fun W hW => ?yq15_7⟩) ?_
        case yq15_7 => (obtain ⟨c3, c4, c5, _⟩ := hW; go_simp) <;> with_reducible rfl
        simp only [Act.put, List.setIfInBounds_toArray, List.set_cons_zero, List.set_cons_succ]
        refine wpAnyK_take (i := 8) (some 100) ?vq15_8 rfl rfl (by kernel_rfl) (fun _ _ _ h => h) ⟨b3, b4, b5, HGC.out⟩ (.inl ⟨rfl, fun W hW => ?yq15_8⟩) ?_
        case yq15_8 => (obtain ⟨c3, c4, c5, _⟩ := hW; go_simp) <;> with_reducible rfl
        simp only [Act.put, List.setIfInBounds_toArray, List.set_cons_zero, List.set_cons_succ]
        refine wpAnyK_take (i := 9) (some 101) ?vq15_9 rfl rfl (by kernel_rfl) (fun _ _ _ h => h) ⟨b3, b4, b5, HGC.out⟩ (.inl ⟨rfl, fun W hW => ?yq15_9⟩) ?_
        case yq15_9 => (obtain ⟨c3, c4, c5, _⟩ := hW; go_simp) <;> with_reducible rfl
        simp only [Act.put, List.setIfInBounds_toArray, List.set_cons_zero, List.set_cons_succ]
        refine wpAnyK_step (j := 10) (some 102) rfl rfl (by kernel_rfl) rfl fun K hK => ?_
        refine wp_callp (l := [.tmp 92, .tmp 96, .tmp 101]) rfl [.pointer (some ⟨gp, 0, none⟩), .agg (css 0).toArray, .int .i64 ((hn2 : Int) - (k : Int))] rfl (enter_maybe _) (HCQ.out.mono ?_)
        rintro e w5 ⟨rfl, v5, hC5, hS5⟩
        obtain ⟨hbx5, _⟩ := hS5.keep HBX'.out.drew (by omega) HOV.out
        refine .inl ⟨_, rfl, hK _ _ (fun _ => ⟨hbx5.at_ (i := 3) rfl, hbx5.at_ (i := 4) rfl, hbx5.at_ (i := 5) rfl, fun j u hu => hS5.cell (HC.out.frn ((Fr.refl [] wr).drew)) hgB (HGC.out j u hu)⟩) ?_⟩
        simp only [Act.put, List.setIfInBounds_toArray, List.set_cons_zero, List.set_cons_succ]
        refine wpAnyK_done (by kernel_rfl) ?_ _
        clear hbx5
        have HC5 : Hid (CP w5 gp B v5 (ops ++ (Pt.times q k (some hn2)).code ops.length)) := Lib.hid (by
          rw [Pt.code, ← List.append_assoc]
          have := hC5
          rwa [show ops.length + k * q.len + (hn2 - k) * (1 + q.len) = ops.length + k * q.len + (hn2 - k) * (1 + q.len) from rfl] at this)
        have HS5 := Lib.hid (CStep.pre HFA.out (HS.out.trans (CStep.pre ((Fr.refl [] wr).drew) hS5)))
        clear hC5 hS5 b3 b4 b5 hK x1
        go_wp2_with fail
        exact bodyPost_end (results_none rfl _ _ _) rfl (HQ.out _ _ ⟨rfl, v5, HC5.out, HS5.out⟩)

theorem part_succ {m : Nat} (IH : PartOK m) : PartOK (m + 1) := by
  intro p hp w gp B v ops cs h hpa ho hB hn
  have hs := subs_lt p
  cases p with
  | char neg set => exact part_char h hpa hB hn
  | row l => exact part_row IH (fun q hq => by have := hs q hq; omega) h hpa ho hB (by rw [Pt.len] at hn; exact hn)
  | pick l => exact part_pick IH (fun q hq => by have := hs q hq; omega) h hpa ho hB (by rw [Pt.len] at hn; exact hn)
  | star q => exact part_star IH (by have := hs q (by simp [Pt.subs]); omega) h hpa ho hB (by rw [Pt.len] at hn; exact hn)
  | plus q => exact part_plus IH (by have := hs q (by simp [Pt.subs]); omega) h hpa ho hB (by rw [Pt.len] at hn; exact hn)
  | maybe q => exact part_maybe IH (by have := hs q (by simp [Pt.subs]); omega) h hpa ho hB (by rw [Pt.len] at hn; exact hn)
  | times q n hi => exact part_times IH (by have := hs q (by simp [Pt.subs]); omega) h hpa ho hB hn
theorem part_any : ∀ m, PartOK m
  | 0 => fun p h => absurd h (by omega)
  | m + 1 => part_succ (part_any m)

end Go.Proofs.Ytnhlgjjdpappkaa
