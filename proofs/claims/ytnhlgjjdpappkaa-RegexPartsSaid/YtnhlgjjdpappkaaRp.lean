/-
  The contracts of slices.ContainsFunc at the strange characters, and of a part's size.
-/
import Derived.Test.YtnhlgjjdpappkaaRi
import Derived.Test.YtnhlgjjdpappkaaRo
import Derived.Test.YtnhlgjjdpappkaaUd
namespace Go.Proofs.Ytnhlgjjdpappkaa
open Go.RowKit

def strangeB (c : Int) : Bool := decide (2097152 ≤ c)
theorem parsed1_any (w : World) (c : Int) : Calls Try.prog 31 #[.int .i32 c] w fun e w' => e = .returned (.bool (strangeB c)) ∧ w = w' := by
  unfold strangeB
  go_enter Try.func31, Try.ntmps31
  go_wp2
  go_ret
  exact ⟨rfl, rfl⟩
/-- The place of the first strange one; -1: none. -/
def IxRel (l : List Int) (w : World) (j : Nat) (v : Value) (wr : World) : Prop := ∃ k : Nat, k + j = l.length ∧ v = .int .i64 (k : Int) ∧ w = wr ∧ ∀ i c, i < k → l[i]? = some c → strangeB c = false
theorem indexFunc_any {w : World} {v : Value} {l : List Int} {g : Nat} (hv : SlAt w v l.length (rcellsR l) g) (hl : l.length ≤ 1000000) : Calls Try.prog 42 #[v, .func (.func 31) #[] #[]] w fun e w' => ∃ k : Int, e = .returned (.int .i64 k) ∧ (0 ≤ k ↔ l.any strangeB = true) ∧ w = w' := by
  refine calls_post fun R HQ => ?_
  obtain ⟨A, c, off, rfl, hc, hb⟩ := hv
  have HB := Lib.hid hb
  clear hb
  go_enter Try.func42, Try.ntmps42
  go_wp2_with fail
  go_loopg [8] l.length (IxRel l w)
  case atStart => exact ⟨0, by omega, rfl, rfl, fun i c h => absurd h (by omega)⟩
  case round =>
    obtain ⟨k, hk, rfl, rfl, hno⟩ := hrel
    have HNO := Lib.hid hno
    clear hno
    by_cases hlt : k < l.length
    · obtain ⟨x, hx⟩ : ∃ x, l[k]? = some x := ⟨_, List.getElem?_eq_getElem hlt⟩
      obtain ⟨rfl, hcell⟩ := HB.out (by omega)
      have cx := hcell k (R32 x) (by simp [rcellsR, hx])
      unfold R32 at cx
      have HXX := Lib.hid hx
      clear hx hcell
      go_wp2_with fail
      refine (parsed1_any _ _).mono ?_
      rintro e w1 ⟨rfl, rfl⟩
      cases hsx : strangeB x with
      | true =>
        have HA : Hid (l.any strangeB = true) := Lib.hid (by rw [List.any_eq_true]; exact ⟨x, List.mem_of_getElem? HXX.out, hsx⟩)
        clear hsx
        go_wp2_with fail
        exact HQ.out _ _ ⟨_, rfl, ⟨fun _ => HA.out, fun _ => by omega⟩, rfl⟩
      | false =>
        have HNO2 : Hid (∀ i c, i < k + 1 → l[i]? = some c → strangeB c = false) := Lib.hid fun i c hi hc => by
          by_cases e : i = k
          · subst e
            have := HXX.out
            rw [hc] at this
            injection this with this
            rw [this]; exact hsx
          · exact HNO.out i c (by omega) hc
        clear hsx
        go_wp2_with fail
        go_roundg (gk - 1)
        case measure => omega
        case rel => exact ⟨k + 1, by omega, by go_num, rfl, HNO2.out⟩
    · have HA : Hid (l.any strangeB = false) := Lib.hid (by
        rw [List.any_eq_false]
        intro c hc
        obtain ⟨i, hi, rfl⟩ := List.mem_iff_getElem.1 hc
        rw [HNO.out i _ (by omega) (List.getElem?_eq_getElem hi)]
        simp)
      go_wp2_with fail
      exact HQ.out _ _ ⟨-1, rfl, ⟨fun h => absurd h (by omega), fun h => by rw [HA.out] at h; cases h⟩, rfl⟩
theorem containsFunc_strange {w : World} {v : Value} {l : List Int} {g : Nat} (hv : SlAt w v l.length (rcellsR l) g) (hl : l.length ≤ 1000000) : Calls Try.prog 30 #[v, .func (.func 31) #[] #[]] w fun e w' => e = .returned (.bool (l.any strangeB)) ∧ w = w' := by
  refine calls_post fun R HQ => ?_
  have HV := Lib.hid hv
  clear hv
  go_enter Try.func30, Try.ntmps30
  go_wp2_with fail
  refine (indexFunc_any HV.out hl).mono ?_
  rintro e w1 ⟨k, rfl, hk, rfl⟩
  have HE : Hid (decide (0 ≤ k) = l.any strangeB) := Lib.hid (by rw [Bool.eq_iff_iff, decide_eq_true_eq]; exact hk)
  clear hk
  go_wp2_with fail
  exact HQ.out _ _ ⟨by rw [← HE.out]; rfl, rfl⟩

theorem subs_lt : ∀ (p q : Pt), q ∈ p.subs → SizeOf.sizeOf q < SizeOf.sizeOf p := by
  intro p q h
  cases p with
  | char b s => simp [Pt.subs] at h
  | row l => have h' : q ∈ l := h; have := List.sizeOf_lt_of_mem h'; simp [Pt.row.sizeOf_spec]; omega
  | pick l => have h' : q ∈ l := h; have := List.sizeOf_lt_of_mem h'; simp [Pt.pick.sizeOf_spec]; omega
  | star p => simp [Pt.subs] at h; subst h; simp
  | plus p => simp [Pt.subs] at h; subst h; simp
  | maybe p => simp [Pt.subs] at h; subst h; simp
  | times p n m => simp [Pt.subs] at h; subst h; simp; omega
theorem subs_ok {p q : Pt} {i : Nat} (ho : p.ok) (h : p.subs[i]? = some q) : q.ok := by
  have one : ∀ r : Pt, r.ok → [r][i]? = some q → q.ok := fun r hr h => by
    match i, h with
    | 0, h => simp at h; exact h ▸ hr
    | i + 1, h => simp at h
  cases p with
  | char b s => simp [Pt.subs] at h
  | row l => exact allOk_get ho.2 h
  | pick l => exact allOk_get ho.2.2 h
  | star p => exact one p ho.1 h
  | plus p => exact one p ho.1 h
  | maybe p => exact one p ho.1 h
  | times p n m => cases m with
    | none => exact one p ho.1 h
    | some m => exact one p ho.1 h
theorem subs_len {p : Pt} (ho : p.ok) : p.subs.length ≤ 1001 := by
  cases p with
  | char b s => simp [Pt.subs]
  | row l => have := ho.1; simp only [Pt.subs]; omega
  | pick l => exact ho.2.1
  | star p => simp [Pt.subs]
  | plus p => simp [Pt.subs]
  | maybe p => simp [Pt.subs]
  | times p n m => simp [Pt.subs]
theorem Pt.size_le (p : Pt) (ho : p.ok) : p.size ≤ 1002000 := by
  cases p with
  | char b s => simp [Pt.size]
  | row l => rw [Pt.size]; have := sizes_le l 0 (by omega); omega
  | pick l => rw [Pt.size]; have := sizes_le l 0 (by omega); have := ho.2.1; omega
  | star p => rw [Pt.size]; omega
  | plus p => rw [Pt.size]; omega
  | maybe p => rw [Pt.size]; omega
  | times p n m => cases m <;> rw [Pt.size] <;> omega
theorem sizes_take {l : List Pt} {k : Nat} {q : Pt} (h : l[k]? = some q) : sizes (l.take (k + 1)) 0 = min (sizes (l.take k) 0 + q.size) 1000000 := by
  obtain ⟨hk, rfl⟩ := List.getElem?_eq_some_iff.1 h
  rw [List.take_succ_eq_append_getElem hk, sizes_append, sizes, sizes]
theorem ret_int64 {a b : Int} (h : a = b) : Ending.returned (.int .i64 a) = .returned (.int .i64 b) := by rw [h]
theorem size_num (sz k : Nat) (h : sz * k ≤ 1000000 * 100) : min (wrap64 (wrap64 ((sz : Int) * (k : Int)) + 1)) 1000000 = ((min (sz * k + 1) 1000000 : Nat) : Int) := by
  have e : (sz : Int) * (k : Int) = ((sz * k : Nat) : Int) := (Int.natCast_mul sz k).symm
  rw [e]
  generalize sz * k = M at *
  have e1 : wrap64 (M : Int) = (M : Int) := by unfold wrap64; omega
  have e2 : wrap64 ((M : Int) + 1) = (M : Int) + 1 := by unfold wrap64; omega
  rw [e1, e2]
  omega
theorem size_num2 (sz k : Nat) : min ((sz : Int) * (k : Int) + 1) 1000000 = ((min (sz * k + 1) 1000000 : Nat) : Int) := by
  have e : (sz : Int) * (k : Int) = ((sz * k : Nat) : Int) := (Int.natCast_mul sz k).symm
  rw [e]
  generalize sz * k = M at *
  omega
def SzRel (w : World) (B : List Value) (l : List Pt) (j : Nat) (v3 v10 : Value) (wr : World) : Prop := ∃ k : Nat, k + j = l.length ∧ v10 = .int .i64 (k : Int) ∧ v3 = .int .i64 (sizes (l.take k) 0 : Int) ∧ Blk wr w.heap.size 43 B ∧ Fr [] w wr
theorem enter_size (vs : Array Value) (w : World) : (callFunc 28 vs).run Try.prog w = .ok (.enter 28 vs) w := by kernel_rfl

set_option maxRecDepth 100000 in
set_option maxHeartbeats 800000 in
theorem size_all : ∀ (m : Nat) (p : Pt), SizeOf.sizeOf p < m → ∀ (w : World) (N : Nat → Prop) (cs : List Value), PartAt w N p cs → p.ok → Calls Try.prog 28 #[.agg cs.toArray] w fun e w' => e = .returned (.int .i64 (p.size : Int)) ∧ Fr [] w w' := by
  intro m
  induction m with
  | zero => intro p h; omega
  | succ m ih =>
    intro p hp w N cs hpa ho
    refine calls_post fun R HQ => ?_
    have HIH := Lib.hid ih; have HO := Lib.hid ho
    have hsl := subs_len ho
    obtain ⟨sv, lv, rfl, hs, hl⟩ := hpa.inv
    obtain ⟨A1, c1, rfl⟩ := hs.slice
    obtain ⟨A, c, g, off, css, rfl, hc, hA, hcell, hsub⟩ := hl
    have HA := Lib.hid hA; have HCELL := Lib.hid hcell; have HSUB := Lib.hid hsub
    clear hpa hs hA hcell hsub ih ho
    unfold pcells
    obtain ⟨n, hn⟩ : ∃ n, n = p.subs.length := ⟨_, rfl⟩
    rw [← hn] at hc hsl ⊢
    have HN := Lib.hid hn
    clear hn
    have hbox := Blk.new w 43 [.int .i64 p.kind, .bool p.neg, .slice A1 p.set.length c1, .slice A n c, .int .i64 p.lo, .int .i64 p.hi]
    have hfa : Fr [] w (w.alloc (.cells [.int .i64 p.kind, .bool p.neg, .slice A1 p.set.length c1, .slice A n c, .int .i64 p.lo, .int .i64 p.hi].toArray 43)) := (Fr.refl [] w).alloc _
    have HBX := Lib.hid hbox; have HFA := Lib.hid hfa
    clear hbox hfa
    go_enter Try.func28, Try.ntmps28
    go_wp2_with fail
    go_loopg [3, 10] n (SzRel w [.int .i64 p.kind, .bool p.neg, .slice A1 p.set.length c1, .slice A n c, .int .i64 p.lo, .int .i64 p.hi] p.subs)
    case atStart => exact ⟨0, by rw [← HN.out]; omega, rfl, rfl, HBX.out, HFA.out⟩
    case round =>
      obtain ⟨k, hk, rfl, rfl, hbk, hf⟩ := hrel
      have HF := Lib.hid hf; have HBK := Lib.hid hbk
      rw [← HN.out] at hk
      clear hf hbk HBX HFA
      have hlw : w.heap.size < wr.heap.size := HBK.out.lt
      by_cases hkn : k < n
      · obtain ⟨q, hq⟩ : ∃ q, p.subs[k]? = some q := ⟨_, List.getElem?_eq_getElem (by rw [← HN.out]; exact hkn)⟩
        obtain ⟨rfl, _⟩ := HA.out (by rw [← HN.out]; omega)
        obtain ⟨hc6, hck⟩ := HCELL.out k (by rw [← HN.out]; exact hkn)
        have HQQ := Lib.hid hq; have HCK := Lib.hid hck
        clear hq hck
        have hsz := sizes_le (p.subs.take k) 0 (by omega)
        have hqok := subs_ok HO.out HQQ.out
        have hqs := Pt.size_le q hqok
        have HPQ := Lib.hid (((HSUB.out k q HQQ.out).bound.fr HF.out (by simp)).mono (M := fun g => N g ∧ g < w.heap.size) (fun g hg => hg))
        have HQOK := Lib.hid hqok
        have hone := (HSUB.out k q HQQ.out).one
        clear hqok
        go_upto_region 4 with fail
        refine wp_region_lit ?_
        refine wpList_plain rfl fun K hK => ?_
        refine wp_run_same (v := ?au2_0) ?yu2_0 (hK _ _ ?_)
        case yu2_0 => go_simp <;> with_reducible rfl
        clear hK K
        simp only [Act.put, List.setIfInBounds_toArray, List.set_cons_zero, List.set_cons_succ]
        refine wpList_plain rfl fun K hK => ?_
        refine wp_load_mid 43 (.tmp 12) rfl g (off + k * 6) rfl (css k) _ (fun j v hv => by
          have h1 := HCK.out j v hv
          rw [show off + k * 6 + j = off + 6 * k + j by omega, HF.out.cell (World.block_lt_of_cell? w _ h1) (by simp)]
          exact h1) Try.underlying43 rfl (by rw [hc6]; kernel_rfl) (hK _ _ ?_)
        simp only [Act.put, List.setIfInBounds_toArray, List.set_cons_zero, List.set_cons_succ]
        clear hK
        refine wpList_plain rfl fun K hK => ?_
        refine wp_alloc_blk 43 rfl (.agg zero6.toArray) zero6 (by kernel_rfl) rfl fun w2 hb2 hf2 hs2 => hK _ _ ?_
        simp only [Act.put, List.setIfInBounds_toArray, List.set_cons_zero, List.set_cons_succ]
        clear hK
        refine wpList_plain rfl fun K hK => ?_
        refine wp_store_blk 43 (.tmp 5) (.tmp 13) rfl (css k) rfl rfl hb2 (by rw [hc6]; kernel_rfl) (by rw [hc6]; rfl) hone fun w3 hb3 hf3 hs3 => hK _ _ ?_
        simp only [Act.put]
        clear hK
        refine wpList_nil ?_
        have hf13 : Fr [] wr w3 := hf2.trans hf3 (fun x hx => .inr (by simp at hx; omega))
        have HB3 := Lib.hid hb3
        have HF3 := Lib.hid (HF.out.trans hf13 (by simp))
        have HBK3 := Lib.hid (HBK.out.fr hf13 (by simp))
        have HC := Lib.hid (HIH.out q (by have := subs_lt p q (List.mem_of_getElem? HQQ.out); omega) w3 _ _ (HPQ.out.fr hf13 (by simp)) HQOK.out)
        clear hb2 hf2 hs2 hb3 hf3 hs3 hf13 hone
        go_upto_region 5 with fail
        refine wp_region_lit ?_
        refine wpList_plain rfl fun K hK => ?_
        refine wp_run_same (v := ?au4_0) ?yu4_0 (hK _ _ ?_)
        case yu4_0 => go_simp <;> with_reducible rfl
        clear hK K
        simp only [Act.put, List.setIfInBounds_toArray, List.set_cons_zero, List.set_cons_succ]
        refine wpList_plain rfl fun K hK => ?_
        refine wp_load_mid 43 (.tmp 5) rfl wr.heap.size 0 rfl (css k) _ (fun j v hv => by rw [Nat.zero_add]; exact HB3.out.at_ hv) Try.underlying43 rfl (by rw [hc6]; kernel_rfl) (hK _ _ ?_)
        simp only [Act.put, List.setIfInBounds_toArray, List.set_cons_zero, List.set_cons_succ]
        clear hK
        refine wpList_plain rfl fun K hK => ?_
        refine wp_callp (l := [.tmp 15]) rfl [.agg (css k).toArray] rfl (enter_size _) (HC.out.mono ?_)
        rintro e w4 ⟨rfl, hf4⟩
        refine .inl ⟨_, rfl, hK _ _ ?_⟩
        simp only [Act.put, List.setIfInBounds_toArray, List.set_cons_zero, List.set_cons_succ]
        clear hK
        have HBK4 := Lib.hid (HBK3.out.fr hf4 (by simp)); have HF4 := Lib.hid (HF3.out.trans hf4 (by simp))
        clear hf4
        have HT := Lib.hid (sizes_take HQQ.out)
        obtain ⟨sk, hsk⟩ : ∃ sk, sk = sizes (p.subs.take k) 0 := ⟨_, rfl⟩
        rw [← hsk] at hsz HT ⊢
        clear hsk
        obtain ⟨qs, hqs'⟩ : ∃ qs, qs = q.size := ⟨_, rfl⟩
        rw [← hqs'] at hqs HT ⊢
        clear hqs'
        refine wpList_plain rfl fun K hK => ?_
        refine wp_run_same (v := ?au5_3) ?yu5_3 (hK _ _ ?_)
        case yu5_3 => go_simp <;> with_reducible rfl
        clear hK K
        simp only [Act.put, List.setIfInBounds_toArray, List.set_cons_zero, List.set_cons_succ]
        refine wpList_plain rfl fun K hK => ?_
        refine wp_run_same (v := ?au6_4) ?yu6_4 (hK _ _ ?_)
        case yu6_4 => go_simp <;> with_reducible rfl
        clear hK K
        simp only [Act.put, List.setIfInBounds_toArray, List.set_cons_zero, List.set_cons_succ]
        refine wpList_plain rfl fun K hK => ?_
        refine wp_run_same (v := ?au7_5) ?yu7_5 (hK _ _ ?_)
        case yu7_5 => go_simp <;> with_reducible rfl
        clear hK K
        simp only [Act.put, List.setIfInBounds_toArray, List.set_cons_zero, List.set_cons_succ]
        refine wpList_nil ?_
        go_wp2_with fail
        go_roundg (gk - 1)
        case measure => omega
        case rel => exact ⟨k + 1, by rw [← HN.out]; omega, by go_num, by rw [HT.out, show ((min (sk + qs) 1000000 : Nat) : Int) = min ((sk : Int) + (qs : Int)) 1000000 by omega, show IntKind.i64.wrap ((sk : Int) + (qs : Int)) = (sk : Int) + (qs : Int) by rw [IntKind.wrap_i64]; omega], HBK4.out, HF4.out⟩
      · have HT : Hid (p.subs.take k = p.subs) := Lib.hid (List.take_of_length_le (by rw [← HN.out]; omega))
        rw [HT.out]
        have hsz := sizes_le p.subs 0 (by omega)
        have b0 := HBK.out.at_ (i := 0) rfl
        have b3 := HBK.out.at_ (i := 3) rfl
        have b4 := HBK.out.at_ (i := 4) rfl
        have b5 := HBK.out.at_ (i := 5) rfl
        have HE : Hid (p.size = p.size) := Lib.hid rfl
        clear HT HBK HA HCELL HSUB
        cases p with
        | char b s =>
          simp only [Pt.kind] at *
          go_wp2_with fail
          exact HQ.out _ _ ⟨by simp [Pt.size], HF.out⟩
        | row l =>
          simp only [Pt.kind] at *
          go_wp2_with fail
          exact HQ.out _ _ ⟨by simp [Pt.size, Pt.subs], HF.out⟩
        | pick l =>
          simp only [Pt.kind] at *
          go_wp2_with fail
          exact HQ.out _ _ ⟨by rw [Pt.size]; simp only [Pt.subs, HN.out]; simp, HF.out⟩
        | star p =>
          simp only [Pt.kind] at *
          go_wp2_with fail
          exact HQ.out _ _ ⟨by rw [Pt.size]; simp only [Pt.subs, sizes]; simp, HF.out⟩
        | plus p =>
          simp only [Pt.kind] at *
          go_wp2_with fail
          exact HQ.out _ _ ⟨by rw [Pt.size]; simp only [Pt.subs, sizes]; simp, HF.out⟩
        | maybe p =>
          simp only [Pt.kind] at *
          go_wp2_with fail
          exact HQ.out _ _ ⟨by rw [Pt.size]; simp only [Pt.subs, sizes]; simp, HF.out⟩
        | times p a b =>
          have ho := HO.out
          cases b with
          | none =>
            have h99 : a ≤ 99 := ho.2.2
            clear ho
            simp only [Pt.kind, Pt.hi, Pt.lo] at *
            have HSZ : Hid ((Pt.times p a none).size = min (sizes (Pt.times p a none).subs 0 * (a + 1) + 1) 1000000) := Lib.hid (by rw [Pt.size]; simp only [Pt.subs, sizes])
            generalize sizes (Pt.times p a none).subs 0 = sz at *
            have hmb : sz * (a + 1) ≤ 1000000 * 100 := Nat.mul_le_mul hsz (by omega)
            go_wp2_with fail
            refine HQ.out _ _ ⟨?_, HF.out⟩
            rw [HSZ.out]
            exact ret_int64 (size_num sz (a + 1) hmb)
          | some b =>
            have h99 : b ≤ 99 := ho.2.2.2
            clear ho
            simp only [Pt.kind, Pt.hi, Pt.lo] at *
            have HSZ : Hid ((Pt.times p a (some b)).size = min (sizes (Pt.times p a (some b)).subs 0 * b + 1) 1000000) := Lib.hid (by rw [Pt.size]; simp only [Pt.subs, sizes])
            generalize sizes (Pt.times p a (some b)).subs 0 = sz at *
            have hmb : sz * b ≤ 1000000 * 100 := Nat.mul_le_mul hsz (by omega)
            have hb1 : ((b : Int) == -1) = false := by simp <;> omega
            go_wp2_with fail
            refine HQ.out _ _ ⟨?_, HF.out⟩
            rw [HSZ.out]
            exact ret_int64 (size_num2 sz b)

end Go.Proofs.Ytnhlgjjdpappkaa
