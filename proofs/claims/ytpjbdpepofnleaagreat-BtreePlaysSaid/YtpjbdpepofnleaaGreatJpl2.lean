/-
  Joined by join.py: Region DiskC DiskD DiskE Jm Bits BitsB Ja CallF LawsB
-/
import Derived.OrdersHeld
import Derived.RegionTactic
import Derived.Test.YtpjbdpepofnleaaGreatJpl1
set_option maxRecDepth 100000
set_option maxHeartbeats 32000000
namespace Go.Proofs.YtpjbdpepofnleaaGreat
section
open Go.RowKit
def crosses (md : Region.Mode) (ops : Array Oper) (I : List Nat) (j : Nat) : Bool :=
 I.any fun i => i != j && (match ops[j]? with | some o => o.after.all fun e => !(Region.binds md e && e.on == i) | none => false)
section
variable {P : Program} {ops : Array Oper} {Q : Exit -> Act -> World -> Prop} {md : Region.Mode} {S : World -> Prop} {I : List Nat}
def wpAnyK (P : Program) (md : Region.Mode) (ops : Array Oper) (Q : Exit -> Act -> World -> Prop) (S : World -> Prop) (I : List Nat) : Nat -> Array Bool -> Act -> World -> Prop
 | 0, listed, a, w => Region.ready md ops listed = [] /\ Q .normal a w
 | fuel + 1, listed, a, w =>
  (Region.ready md ops listed = [] -> Q .normal a w) /\
  ∀ i ∈ Region.ready md ops listed, wpOp P ops Q i (fun a' w' => (crosses md ops I i = true -> S w') /\ wpAnyK P md ops Q S I fuel (listed.setIfInBounds i true) a' w') a w
theorem wpAny_of_K : ∀ (fuel : Nat) (listed : Array Bool) (a : Act) (w : World), wpAnyK P md ops Q S I fuel listed a w -> wpAny P md ops Q fuel listed a w
 | 0, _, _, _, h => h
 | fuel + 1, _, _, _, h => ⟨h.1, fun i hi => wpOp_mono (fun a' w' h' => wpAny_of_K fuel _ a' w' h'.2) (h.2 i hi)⟩
theorem crosses_of {i j : Nat} {oj : Oper} (hI : i ∈ I) (hij : j ≠ i) (hoj : ops[j]? = some oj) (hnot : ∀ e ∈ oj.after, Region.binds md e = true -> e.on ≠ i) : crosses md ops I j = true := by
 unfold crosses; rw [List.any_eq_true]; refine ⟨i, hI, ?_⟩; rw [hoj]; have h1 : (i != j) = true := by simpa using (Ne.symm hij)
 have h2 : (oj.after.all fun e => !(Region.binds md e && e.on == i)) = true := by
  rw [Array.all_eq_true_iff_forall_mem]; intro e he; have := hnot e he
  by_cases hb : Region.binds md e = true
  ·simp [hb, this hb]
  ·simp [hb]
 show (i != j && _) = true
 rw [h1, Bool.true_and]; exact h2
theorem wpAnyK_first {i : Nat} {oi : Oper} {v : Value} (hI : i ∈ I) (hi : ops[i]? = some oi) (hsel : ∀ (j : Nat) (o : Oper) cs b, ops[j]? = some o -> o.op ≠ .select cs b)
  (hQ : ∀ c a w, Q (.panic c) (a.put oi.dst v) w -> Q (.panic c) a w) :
  ∀ (fuel : Nat) (listed : Array Bool) (a : Act) (w : World),
   (∀ j oj, ops[j]? = some oj -> j ≠ i -> listed.getD j true = false -> (∀ e ∈ oj.after, Region.binds md e = true -> e.on ≠ i) -> oi.apart ops oj = true) ->
   i ∈ Region.ready md ops listed -> YieldsIf P ops S oi v a -> S w ->
   wpAnyK P md ops Q S I fuel (listed.setIfInBounds i true) (a.put oi.dst v) w -> wpAnyK P md ops Q S I (fuel + 1) listed a w := by
 intro fuel
 induction fuel with
 | zero =>
  intro listed a w _ hr hy hS H; refine ⟨fun h => (by rw [h] at hr; cases hr), fun j hj => ?_⟩
  by_cases hji : j = i
  ·subst hji; exact hy.wpOp hi hS ⟨fun _ => hS, H⟩
  ·have := ready_mono hj hji; rw [H.1] at this
   cases this
 | succ fuel ih =>
  intro listed a w hfree hr hy hS H; refine ⟨fun h => (by rw [h] at hr; cases hr), fun j hj => ?_⟩
  by_cases hji : j = i
  ·subst hji; exact hy.wpOp hi hS ⟨fun _ => hS, H⟩
  ·have h1 := H.2 j (ready_mono hj hji); obtain ⟨hjun, oj, hoj, hall⟩ := mem_ready.1 hj
   have hnot : ∀ e ∈ oj.after, Region.binds md e = true -> e.on ≠ i := fun e he hb heq => by
    have h1 := hall e he hb; have h0 := (mem_ready.1 hr).1; rw [heq] at h1; rcases Nat.lt_or_ge i listed.size with h' | h'
    ·simp [h'] at h0 h1; rw [h0] at h1; cases h1
    ·simp [Array.getElem?_eq_none h'] at h1
   have hcr : crosses md ops I j = true := crosses_of hI hji hoj hnot; have h2 := wpOp_putIf hoj (hfree j oj hoj hji hjun hnot) (fun cs b => hsel i oi cs b hi) (fun cs b => hsel j oj cs b hoj) hQ hy h1
   have hfree' : ∀ k ok, ops[k]? = some ok -> k ≠ i -> (listed.setIfInBounds j true).getD k true = false ->
     (∀ e ∈ ok.after, Region.binds md e = true -> e.on ≠ i) -> oi.apart ops ok = true := fun k ok hk hki hun hno => by
    refine hfree k ok hk hki ?_ hno
    by_cases hjk : j = k
    ·subst hjk; exact hjun
    ·rw [getD_set_ne true hjk] at hun; exact hun
   refine wpOp_mono (fun a' w' h3 => ⟨fun _ => h3.2.1 hcr, ih (listed.setIfInBounds j true) a' w' hfree' (ready_mono hr (Ne.symm hji)) h3.1 (h3.2.1 hcr) ?_⟩) h2; rw [Array.setIfInBounds_comm _ _ hji]; exact h3.2.2
theorem wpAnyK_take {i : Nat} (d : Option Tmp) (v : Value) {oi : Oper} {fuel : Nat} {listed : Array Bool} {a : Act} {w : World} (hi : ops[i]? = some oi) (hd : oi.dst = d)
  (hs : (Region.noSelect ops && Region.free md ops listed i && (Region.ready md ops listed).contains i && I.contains i) = true)
  (hQ : ∀ c a w, Q (.panic c) (a.put d v) w -> Q (.panic c) a w) (hS : S w) (hy : YieldsIf P ops S oi v a)
  (h : wpAnyK P md ops Q S I fuel (listed.setIfInBounds i true) (a.put d v) w) : wpAnyK P md ops Q S I (fuel + 1) listed a w := by
 subst hd; simp only [Bool.and_eq_true] at hs; obtain ⟨⟨⟨h1, h2⟩, h3⟩, h4⟩ := hs; exact wpAnyK_first (by simpa using h4) hi (Region.noSelect_spec h1) hQ fuel listed a w (Region.free_spec hi h2) (by simpa using h3) hy hS h
theorem wpAnyK_step {j : Nat} (d : Option Tmp) {o : Oper} {fuel : Nat} {listed : Array Bool} {a : Act} {w : World} (ho : ops[j]? = some o) (hd : o.dst = d) (hr : Region.ready md ops listed = [j]) (hg : o.guard = none)
  (h : ∀ K : Act -> World -> Prop, (∀ v w', (crosses md ops I j = true -> S w') -> wpAnyK P md ops Q S I fuel (listed.setIfInBounds j true) (a.put d v) w' -> K (a.put o.dst v) w') -> Oper.wp P o a w K Q) :
  wpAnyK P md ops Q S I (fuel + 1) listed a w := by
 subst hd; refine ⟨fun h0 => absurd (hr ▸ h0) (by simp), fun i hi => ?_⟩; rw [hr] at hi; obtain rfl : i = j := by simpa using hi
 refine wpOp_step ho fun K hK => ?_; rw [if_pos (by simp [Region.wanted, hg])]; exact h K (fun v w' h1 h2 => hK _ w' ⟨h1, h2⟩)
theorem wpAnyK_done {listed : Array Bool} {a : Act} {w : World} (hr : Region.ready md ops listed = []) (h : Q .normal a w) : ∀ fuel, wpAnyK P md ops Q S I fuel listed a w
 | 0 => ⟨hr, h⟩
 | _ + 1 => ⟨fun _ => h, by rw [hr]; simp⟩
theorem wp_region_K (S : World -> Prop) (I : List Nat) {id : Nat} {a : Act} {w : World} (hm : P.follows .mixedOrders = true)
  (h : wpAnyK P .any ops Q S I ops.size (Array.replicate ops.size false) a w.drew) : (Code.region id ops true).wp P Q a w :=
 wp_region_any hm (wpAny_of_K _ _ _ _ h)
end
theorem nrm : (∀ (a : Act) (t : Tmp) (v : Value), a.put (some t) v = { a with tmps := a.tmps.setIfInBounds t v }) /\ (∀ (a : Act) (v : Value), a.put none v = a) /\ (∀ (l : List Value) (i : Nat) (x : Value), l.toArray.setIfInBounds i x = (l.set i x).toArray) /\
  (∀ (a x : Value) (l : List Value), (a :: l).set 0 x = x :: l) /\ ∀ (a x : Value) (l : List Value) (i : Nat), (a :: l).set (i + 1) x = a :: l.set i x :=
 ⟨fun _ _ _ => rfl, fun _ _ => rfl, fun _ _ _ => List.setIfInBounds_toArray .., fun _ _ _ => List.set_cons_zero .., fun _ _ _ _ => List.set_cons_succ ..⟩

section
variable {P : Program} {md : Region.Mode} {ops : Array Oper} {Q : Exit -> Act -> World -> Prop} {S : World -> Prop} {I : List Nat}
def wpAnyT (_ : List Nat) (P : Program) (md : Region.Mode) (ops : Array Oper) (Q : Exit -> Act -> World -> Prop) (S : World -> Prop) (I : List Nat) (fuel : Nat) (listed : Array Bool) (a : Act) (w : World) : Prop := wpAnyK P md ops Q S I fuel listed a w
theorem tks (l : List Nat) {fuel : Nat} {listed : Array Bool} {a : Act} {w : World} (h : wpAnyT l P md ops Q S I fuel listed a w) : wpAnyK P md ops Q S I fuel listed a w := h
theorem tke {fuel : Nat} {listed : Array Bool} {a : Act} {w : World} (h : wpAnyK P md ops Q S I fuel listed a w) : wpAnyT [] P md ops Q S I fuel listed a w := h
theorem tk {i : Nat} {l : List Nat} {t : Tmp} {v : Value} {oi : Oper} {fuel : Nat} {listed : Array Bool} {a : Act} {w : World} (hi : ops[i]? = some oi) (hd : oi.dst = some t)
  (hS : S w) (hg : Region.wanted oi (yielded ops a.tmps) = true) (hy : ∀ W, S W -> (execOp a.eval oi).run P W = .ok (.value v) W)
  (h : wpAnyT l P md ops Q S I fuel (listed.setIfInBounds i true) (a.put (some t) v) w)
  (hs : (Region.noSelect ops && Region.free md ops listed i && (Region.ready md ops listed).contains i && I.contains i) = true := by kernel_rfl) (hQ : ∀ c a w, Q (.panic c) (a.put (some t) v) w -> Q (.panic c) a w := by exact fun _ _ _ h => h) : wpAnyT (i :: l) P md ops Q S I (fuel + 1) listed a w :=
 wpAnyK_take (i := i) (some t) v hi hd hs hQ hS (.inl ⟨hg, hy⟩) h
theorem tu {i : Nat} {l : List Nat} {t : Tmp} {oi : Oper} {fuel : Nat} {listed : Array Bool} {a : Act} {w : World} (hi : ops[i]? = some oi) (hd : oi.dst = some t)
  (hS : S w) (hg : Region.wanted oi (yielded ops a.tmps) = false)
  (h : wpAnyT l P md ops Q S I fuel (listed.setIfInBounds i true) (a.put (some t) undef) w)
  (hs : (Region.noSelect ops && Region.free md ops listed i && (Region.ready md ops listed).contains i && I.contains i) = true := by kernel_rfl) (hQ : ∀ c a w, Q (.panic c) (a.put (some t) undef) w -> Q (.panic c) a w := by exact fun _ _ _ h => h) : wpAnyT (i :: l) P md ops Q S I (fuel + 1) listed a w :=
 wpAnyK_take (i := i) (some t) undef hi hd hs hQ hS (.inr ⟨hg, rfl⟩) h
theorem tv (i : Nat) (v : Value) {t : Tmp} {oi : Oper} {fuel : Nat} {listed : Array Bool} {a : Act} {w : World} (hi : ops[i]? = some oi) (hd : oi.dst = some t)
  (hS : S w) (hy : YieldsIf P ops S oi v a)
  (h : wpAnyK P md ops Q S I fuel (listed.setIfInBounds i true) (a.put (some t) v) w)
  (hs : (Region.noSelect ops && Region.free md ops listed i && (Region.ready md ops listed).contains i && I.contains i) = true := by kernel_rfl) (hQ : ∀ c a w, Q (.panic c) (a.put (some t) v) w -> Q (.panic c) a w := by exact fun _ _ _ h => h) : wpAnyK P md ops Q S I (fuel + 1) listed a w :=
 wpAnyK_take (i := i) (some t) v hi hd hs hQ hS hy h
theorem wd {listed : Array Bool} {a : Act} {w : World} (h : Q .normal a w) (fuel : Nat) (hr : Region.ready md ops listed = [] := by kernel_rfl) : wpAnyK P md ops Q S I fuel listed a w := wpAnyK_done hr h fuel
theorem lp {rest : List Oper} {o : Oper} {a : Act} {w : World} (h : ∀ K : Act -> World -> Prop, (∀ a w, wpList P ops Q rest a w -> K a w) -> o.wp P a w K Q) (hg : o.guard = none := by rfl) : wpList P ops Q (o :: rest) a w := wpList_plain hg h
theorem sp (j : Nat) {t : Tmp} {o : Oper} {fuel : Nat} {listed : Array Bool} {a : Act} {w : World} (ho : ops[j]? = some o) (hd : o.dst = some t) (hg : o.guard = none)
  (h : ∀ K : Act -> World -> Prop, (∀ v w', (crosses md ops I j = true -> S w') -> wpAnyK P md ops Q S I fuel (listed.setIfInBounds j true) (a.put (some t) v) w' -> K (a.put o.dst v) w') -> Oper.wp P o a w K Q) (hr : Region.ready md ops listed = [j] := by kernel_rfl) :
  wpAnyK P md ops Q S I (fuel + 1) listed a w :=
 wpAnyK_step (j := j) (some t) ho hd hr hg h
end
theorem build_pend (k : Int) (w : World) : (Instr.build 203 #[(0, .int .i64 k)]).run Tryz.prog w = .ok (.agg (.int .i64 k :: z64).toArray) w := by kernel_rfl
theorem DStep.same {w : World} {d : Nat} {D : DM} {fp : List Nat} (h : DiskAt w d D fp) : DStep w w d D fp := ⟨fp, h, Fr.refl _ _, fun _ hk => .inl hk⟩
theorem write_dead {w : World} {d bb : Nat} {lv : Value} {D : DM} (h : DiskIn w d bb lv D) (hdead : D.dead = true) (k : Int) (v : Value) :
  Calls Tryz.prog 127 #[.pointer (some ⟨d, 0, none⟩), .int .i64 k, v] w fun e w' => e = .returned (.int .i64 10) /\ w = w' := by
 go_enter Tryz.func127, Tryz.ntmps127
 go_wp2_with (go_at_call 90; refine (gone_in h).mono ?_; rintro e w' ⟨rfl, rfl⟩)
 go_ret
 exact ⟨rfl, rfl⟩
theorem write_arg {w : World} {d bb : Nat} {lv : Value} {D : DM} (h : DiskIn w d bb lv D) (hdead : D.dead = false) (k : Int) (A : Option Addr) (n c : Nat) (hk : k < 0 ∨ (D.S.length : Int) <= k ∨ 64 < n) :
  Calls Tryz.prog 127 #[.pointer (some ⟨d, 0, none⟩), .int .i64 k, .slice A n c] w fun e w' => e = .returned (.int .i64 1) /\ w = w' := by
 by_cases h1 : k < 0
 ·clear hk
  go_enter Tryz.func127, Tryz.ntmps127
  go_wp2_with (first | (go_at_call 90; refine (gone_in h).mono ?_; rintro e w' ⟨rfl, rfl⟩) | (go_at_call 57; refine (size_in h).mono ?_; rintro e w' ⟨rfl, rfl⟩))
  go_ret
  exact ⟨rfl, rfl⟩
 ·by_cases h2 : (D.S.length : Int) <= k
  case' pos =>
   clear hk
  case' neg =>
   have h3 : 64 < n := by omega
   clear hk
  all_goals
   go_enter Tryz.func127, Tryz.ntmps127
   go_wp2_with (first | (go_at_call 90; refine (gone_in h).mono ?_; rintro e w' ⟨rfl, rfl⟩) | (go_at_call 57; refine (size_in h).mono ?_; rintro e w' ⟨rfl, rfl⟩))
   go_ret
   exact ⟨rfl, rfl⟩
theorem write_lim {w : World} {d bb : Nat} {lv : Value} {D : DM} (h : DiskIn w d bb lv D) (hdead : D.dead = false) (k : Nat) (hk : k < D.S.length) (A : Option Addr) (n c : Nat) (hn : n <= 64) (hl : D.limit = 0) :
  Calls Tryz.prog 127 #[.pointer (some ⟨d, 0, none⟩), .int .i64 k, .slice A n c] w fun e w' => e = .returned (.int .i64 10) /\ DiskIn w' d bb lv D.died /\ Fr [d] w w' := by
 have HL := lh hl; clear hl
 go_enter Tryz.func127, Tryz.ntmps127
 go_wp2_with (first
  | (go_at_call 90; refine (gone_in h).mono ?_; rintro e w' ⟨rfl, rfl⟩)
  | (go_at_call 57; refine (size_in h).mono ?_; rintro e w' ⟨rfl, rfl⟩)
  | (go_at_call 146; refine (spend_no h HL.out).mono ?_; rintro e w' ⟨rfl, hd', hf'⟩))
 go_ret
 exact ⟨rfl, hd', hf'⟩
theorem write_eq {D : DM} (hdead : D.dead = false) {k : Nat} (hk : k < D.S.length) {bs : List UInt8} (hn : bs.length <= 64) (hl : D.limit ≠ 0) : D.write (k : Int) bs = { D.spent with P := D.P ++ [(k, pad bs)] } := by
 unfold DM.write; rw [if_neg (by simp [hdead]), if_neg (by omega), if_neg hl]
 simp
theorem splice_pend (k : Nat) (bs : List UInt8) (_ : bs.length <= 64) : splice (Value.int .i64 (k : Int) :: z64) 1 (bcells bs) = Value.int .i64 (k : Int) :: bcells (pad bs) := by
 have e : z64.drop bs.length = bcells (List.replicate (64 - bs.length) 0) := by
  rw [z64, <- bcells_drop, List.drop_replicate]
 simp only [splice, pad, bcells_append, bcells_len, List.take_succ_cons, List.take_zero, List.cons_append, List.nil_append, Nat.add_comm 1, List.drop_succ_cons, e]
theorem write_ok {w : World} {d bb : Nat} {lv : Value} {D : DM} (h : DiskIn w d bb lv D) (hdead : D.dead = false) (k : Nat) (hk : k < D.S.length) (v : Value) (bs : List UInt8) (gs : Nat) (hv : BytesAt w v bs gs) (hgs : gs ≠ d)
  (hn : bs.length <= 64) (hl : D.limit ≠ 0) (hdone : D.done < 1099511627776) :
  Calls Tryz.prog 127 #[.pointer (some ⟨d, 0, none⟩), .int .i64 k, v] w fun e w' => e = .returned (.int .i64 0) /\ DStep w w' d { D.spent with P := D.P ++ [(k, pad bs)] } (dfp d bb lv) := by
 obtain ⟨A, c, off, rfl, hc, hb⟩ := hv; have hfew := h.2.2.2.few
 have hokw : DM.ok { D.spent with P := D.P ++ [(k, pad bs)] } := by
  have h0 := DM.ok_write h.2.2.2 (k : Int) bs
  rwa [write_eq hdead hk hn hl] at h0
 have HOKW := lh hokw; clear hokw; have HL := lh hl; clear hl; have HB := lh hb; clear hb; have HDN := lh hdone; clear hdone; have H := lh h; clear h
 go_enter Tryz.func127, Tryz.ntmps127
 go_wp2_with (first
  | (go_at_call 90; refine (gone_in H.out).mono ?_; rintro e w' ⟨rfl, rfl⟩)
  | (go_at_call 57; refine (size_in H.out).mono ?_; rintro e w' ⟨rfl, rfl⟩)
  | (go_at_call 146; refine (spend_yes H.out HL.out HDN.out).mono ?_; rintro e w1 ⟨rfl, hd1, hf1⟩; have HD1 := lh hd1; have HF1 := lh hf1; clear hd1 hf1)
  | (with_reducible refine wpList_build1 rfl 203 0 (.tmp 29) rfl (.int .i64 (k : Int)) _ rfl (build_pend _ _) ?_)
  | (with_reducible refine wpList_alloc_z rfl 203 rfl zp zpc zero_pend rfl ?_)
  | (with_reducible refine wpList_store_z (W := w1) rfl 203 (.tmp 7) (.tmp 30) rfl (.int .i64 (k : Int) :: z64) rfl rfl rfl ?zi ?zl ?z1 ?_))
 case zi => simp [size_pend, z64_len]
 case zl => simp [z64_len]; rfl
 case z1 => exact fun v hv => pend_one (k, List.replicate 64 0) v hv
 intro w2 hb2 hf2 hz2; have hfs : Fr [d] w w2 := HF1.out.trans hf2 (by simp); have hd2 : DiskIn w2 d bb lv D.spent := HD1.out.fr hf2 (by simp); have hsrc : BytesAt w2 (.slice A bs.length c) bs gs := BytesAt.fr (w := w) ⟨A, c, off, rfl, hc, HB.out⟩ hfs (by simpa using hgs); have HB2 := lh hb2; clear hb2; have HF2 := lh hfs; clear hfs hf2; have HD2 := lh hd2; clear hd2; have HS2 := lh hsrc; clear hsrc HB; have HZ2 := lh hz2; clear hz2 H
 go_wp2_with (with_reducible refine wpList_copy_blk rfl (.tmp 32) (.tmp 33) 23 23 rfl 5 Tryz.underlying23 size_u8 _ _ _ _ _ _ rfl rfl w1.heap.size 1 (.int .i64 (k : Int) :: z64) 203 HB2.out (bcells bs) ?cn ?cp ?cf (bcells_one _) ?_)
 case cn => rw [bcells_len]; exact (Nat.min_eq_left hn).symm
 case cp =>
  intro h0; obtain ⟨A', c', off', hv', _, hb'⟩ := HS2.out; injection hv' with hA _ _; obtain ⟨hA', hcell⟩ := hb' (by rw [bcells_len] at h0; exact h0); refine ⟨⟨gs, off', none⟩, by rw [hA, hA'], fun j v hj => ?_⟩; rw [Addr.add_mid]; exact hcell j v hj
 case cf => simp [bcells_len, z64_len]; omega
 intro w3 hb3 hf3 hz3; rw [splice_pend k bs hn] at hb3
 have hne : ∀ x ∈ dfp d bb lv, x ∉ [w1.heap.size] := fun x hx hm => by
  have := HD1.out.lt x hx; simp only [List.mem_singleton] at hm; omega
 have hd3 : DiskIn w3 d bb lv D.spent := HD2.out.fr hf3 hne; have hfw3 : Fr [d] w w3 := HF2.out.trans hf3 (by have := HF1.out.size; simp; omega); have HNE := lh hne; clear hne hf3 HB2 HD2 HF2 HS2; generalize w1.heap.size = q at *; obtain ⟨cs, hcs⟩ := nm ((Value.int .i64 (k : Int) :: bcells (pad bs))); rw [<- hcs] at hb3; have hcl : cs.length = 65 := by rw [hcs]; simp [bcells_len, pad_len hn]
 have hc1 : ∀ v ∈ cs, v.oneCell' = true := by rw [hcs]; exact pend_one (k, pad bs)
 have c1 := hd3.c1
 obtain ⟨i0, hi0⟩ : ∃ i0, Tryz.prog.info? 203 = some i0 := by
  cases h : Tryz.prog.info? 203 with
  | none => have := size_pend; rw [h] at this; cases this
  | some i => exact ⟨i, rfl⟩
 have hz0 : i0.zero = some zp := by have := zero_pend; rw [hi0] at this; simpa using this
 have hz12 : i0.size = 65 /\ i0.bytes = 72 := by have := info_pend; rw [hi0] at this; simpa using this
 have hown := hd3.2.2.1; have HD3 := lh hd3; have HB3 := lh hb3; have HCL := lh hcl; have HC1 := lh hc1; have HCS := lh hcs; have HI0 := lh hi0; have HZ0 := lh hz0; have HZ12 := lh hz12; have HOWN := lh hown; have HFW3 := lh hfw3; clear hd3 hb3 hcl hc1 hcs hi0 hz0 hz12 hown hfw3 hz3 hdead; go_wp2_with fail; refine wp_region_K (fun W => W.cell? ⟨d, 1, none⟩ = some lv /\ Blk W q 203 cs) [0, 1, 2, 3, 4, 5] (by kernel_rfl) ?_; refine tv 0 (.pointer (some ⟨d, 0, none⟩)) rfl rfl ⟨c1, HB3.out⟩ (.inl ⟨rfl, fun _ _ => rfl⟩) ?_; simp only [nrm]; refine tv 1 (.pointer (some ⟨d, 0, none⟩)) rfl rfl ⟨c1, HB3.out⟩ (.inl ⟨rfl, fun _ _ => rfl⟩) ?_; simp only [nrm]; refine tv 2 (.pointer (some ⟨d, 0, none⟩)) rfl rfl ⟨c1, HB3.out⟩ (.inl ⟨rfl, fun _ _ => rfl⟩) ?_; simp only [nrm]; refine tv 3 (.pointer (some ⟨d, 1, none⟩)) rfl rfl ⟨c1, HB3.out⟩ (.inl ⟨rfl, fun W hW => by go_simp⟩) ?_; simp only [nrm]; refine wpAnyK_take (i := 4) (some 39) lv rfl rfl (by kernel_rfl) (fun _ _ _ h => h) ⟨c1, HB3.out⟩ (.inl ⟨rfl, fun W hW => by have c := hW.1; go_simp⟩) ?_; simp only [nrm]; refine tv 5 (.agg cs.toArray) rfl rfl ⟨c1, HB3.out⟩ (yieldsIf_load_mid rfl 203 (.tmp 7) rfl q 0 rfl cs _ (fun W hW j v hj => by rw [Nat.zero_add]; exact hW.2.at_ hj) Tryz.underlying203 rfl (by rw [HCL.out]; exact size_pend)) ?_; simp only [nrm]; have e3 : w3.drew.heap.size = w3.heap.size := rfl; have hfa : Fr [] w3 (w3.drew.alloc (.cells cs.toArray 203)) := (Fr.refl [] w3).drew.alloc _; have hcw : (w3.drew.alloc (.cells cs.toArray 203)).cell? ⟨d, 1, none⟩ = some lv := (HD3.out.fr hfa (by simp)).c1; have hbw : Blk (w3.drew.alloc (.cells cs.toArray 203)) q 203 cs := HB3.out.fr hfa (by simp); have hnw : Blk (w3.drew.alloc (.cells cs.toArray 203)) w3.heap.size 203 cs := Blk.new w3.drew _ cs; have how := own_fr HOWN.out hfa (by simp); refine sp 6 rfl rfl rfl fun K hK => ?_; refine wp_build_one (.tmp 40) rfl Tryz.underlying127 HI0.out HZ0.out cs rfl (by rw [HZ12.out.1, HCL.out]) (by rw [HCL.out]; rfl) (by rw [HCL.out]; omega) (by rw [HCL.out]; omega) (hK _ _ (fun _ => ⟨hcw, hbw⟩) ?_); simp only [nrm]; refine sp 7 rfl rfl rfl fun K hK => ?_
 refine wp_append_lies _ (.tmp 39) (.tmp 41) 127 rfl 0 203 i0 zp 65 72 Tryz.underlying127 HI0.out HZ0.out HZ12.out.1 HZ12.out.2 rfl (by omega) lv D.P.length (pcells D.P) rfl how
  ⟨w3.heap.size, 0, none⟩ 1 1 cs rfl (by rw [HCL.out]) (fun j u hu => by rw [Addr.add_mid, Nat.zero_add]; exact hnw.at_ hu) HC1.out (by omega) ?_ ?_ (Nat.zero_le _) _ rfl ?_
 ·have := HDN.out; unfold maxLen; omega
 ·have := HDN.out; omega
 intro g cap w4 hown4 hg4 hat4 hlt4; have hsz4 : (w3.drew.alloc (.cells cs.toArray 203)).heap.size = w3.heap.size + 1 := by simp
 have hn4 : ∀ g', lv.ownBlock = some g' -> g' ∈ dfp d bb lv ∨ w3.heap.size <= g' := fun g' hg' => .inl (by simp [dfp, hg']); have hf4 : Fr (dfp d bb lv) w3 w4 := ((hfa.mono (by simp)).grown hg4 hn4); have hdb4 := (HD3.out.1.fr hfa (by simp)).grown hg4 (fun e => HD3.out.ne2 e.symm); have hbb4 := (HD3.out.2.1.fr hfa (by simp)).grown hg4 (fun e => HD3.out.ne3 e.symm); have c14 : w4.cell? ⟨d, 1, none⟩ = some lv := hdb4.at_ rfl; have f14 := hdb4.free 1; have hbq4 : Blk w4 q 203 cs := hbw.grown hg4 (fun e => HNE.out q (by simp [dfp, <- e]) (by simp)); refine hK _ _ (fun _ => ⟨c14, hbq4⟩) ?_; simp only [nrm]; refine sp 8 rfl rfl rfl fun K hK => ?_; refine wp_run_value (v := .pointer (some ⟨d, 0, none⟩)) (w' := w4) rfl (hK _ _ (fun h => absurd h (by decide +kernel)) ?_); simp only [nrm]; refine sp 9 rfl rfl rfl fun K hK => ?_; refine wp_run_value (v := .pointer (some ⟨d, 1, none⟩)) (w' := w4) (by go_simp) (hK _ _ (fun h => absurd h (by decide +kernel)) ?_); simp only [nrm]; refine wpAnyK_step (j := 10) none rfl rfl (by kernel_rfl) rfl fun K hK => ?_; refine wp_run_skip (w' := w4.setCell ⟨d, 1, none⟩ (.slice (some ⟨g, 0, none⟩) (D.P.length + 1) cap)) (by go_simp) (hK _ _ (fun h => absurd h (by decide +kernel)) ?_); simp only [Act.put]; refine wd ?_ _
 go_wp2
 go_ret
 have hf5 : Fr (dfp d bb lv) w3 (w4.setCell ⟨d, 1, none⟩ (.slice (some ⟨g, 0, none⟩) (D.P.length + 1) cap)) := hf4.setCell (by simp [dfp]) _
 have hgd : g ≠ d := by
  rcases hat4 with h | h
  ·exact fun e => HD3.out.ne2 (e ▸ h)
  ·have := HD3.out.1.lt; rw [hsz4] at h; omega
 have hgb : bb ≠ d := HD3.out.ne1.symm; have hfin : Fr (dfp d bb lv) w (w4.setCell ⟨d, 1, none⟩ (.slice (some ⟨g, 0, none⟩) (D.P.length + 1) cap)) := (HFW3.out.mono (by simp [dfp])).trans hf5 (fun x hx => .inl hx); refine ⟨rfl, dfp d bb (.slice (some ⟨g, 0, none⟩) (D.P.length + 1) cap), ⟨bb, _, rfl, ?_, ?_, ?_, ?_⟩, hfin, ?_⟩
 ·have := hdb4.set_ 1 (.slice (some ⟨g, 0, none⟩) (D.P.length + 1) cap)
  simpa [DM.spent] using this
 ·exact hbb4.far (by simpa using hgb) _
 ·have e : pcells (D.P ++ [(k, pad bs)]) = pcells D.P ++ cs := by rw [pcells_append, HCS.out]; simp [pcells]
  have h := own_fr hown4 ((Fr.refl [d] w4).setCell (p := ⟨d, 1, none⟩) (by simp) (.slice (some ⟨g, 0, none⟩) (D.P.length + 1) cap)) (by simpa [Value.ownBlock] using hgd)
  simpa [e] using h
 ·exact HOKW.out
 ·have := HFW3.out.size; intro x hx; simp only [dfp, List.mem_cons, Value.ownBlock, Option.toList, List.not_mem_nil, or_false] at hx; rcases hx with rfl | rfl | rfl
  ·simp [dfp]
  ·simp [dfp]
  ·rcases hat4 with h | h
   ·left; simp [dfp, h]
   ·right; rw [hsz4] at h; omega
theorem write_at {w : World} {d : Nat} {D : DM} {fp : List Nat} (h : DiskAt w d D fp) (k : Int) (v : Value) (bs : List UInt8) (gs : Nat) (hv : BytesAt w v bs gs) (hgs : gs ≠ d) (hdone : D.done < 1099511627776) :
  Calls Tryz.prog 127 #[.pointer (some ⟨d, 0, none⟩), .int .i64 k, v] w fun e w' => e = .returned (.int .i64 (D.writeE k bs)) /\ DStep w w' d (D.write k bs) fp := by
 have hA := h; obtain ⟨bb, lv, rfl, h⟩ := h
 by_cases hdead : D.dead = true
 ·refine (write_dead h hdead k v).mono ?_; rintro e w' ⟨rfl, rfl⟩; simp only [DM.writeE, DM.write, hdead, if_true]; exact ⟨trivial, DStep.same hA⟩
 ·have hdead : D.dead = false := by simpa using hdead
  obtain ⟨A, c, off, rfl, hc, hb⟩ := hv
  by_cases hk : k < 0 ∨ (D.S.length : Int) <= k ∨ 64 < bs.length
  ·refine (write_arg h hdead k A bs.length c hk).mono ?_; rintro e w' ⟨rfl, rfl⟩; simp only [DM.writeE, DM.write, hdead, if_false, hk, if_true, Bool.false_eq_true]; exact ⟨trivial, DStep.same hA⟩
  ·obtain ⟨n, rfl⟩ := Int.eq_ofNat_of_zero_le (show 0 <= k by omega)
   by_cases hl : D.limit = 0
   ·refine (write_lim h hdead n (by omega) A bs.length c (by omega) hl).mono ?_; rintro e w' ⟨rfl, hd', hf'⟩; simp only [DM.writeE, DM.write, hdead, if_false, hk, if_true, Bool.false_eq_true, hl]; exact ⟨trivial, _, ⟨bb, lv, rfl, hd'⟩, hf'.mono (by simp [dfp]), fun _ hx => .inl hx⟩
   ·refine (write_ok h hdead n (by omega) _ bs gs ⟨A, c, off, rfl, hc, hb⟩ hgs (by omega) hl hdone).mono ?_; rintro e w' ⟨rfl, hd'⟩; rw [write_eq hdead (by omega) (by omega) hl]; refine ⟨?_, hd'⟩; simp only [DM.writeE, hdead, if_false, hk, Bool.false_eq_true, hl]
def DM.lain (D : DM) (S : List (List UInt8)) : DM := { D with S := S }
theorem DM.ok_lain {D : DM} (h : D.ok) {S : List (List UInt8)} (hl : S.length = D.S.length) (hs : ∀ s ∈ S, s.length = 64) : (D.lain S).ok :=
 ⟨by simpa [DM.lain, hl] using h.some_, by simpa [DM.lain, hl] using h.most, hs, fun p hp => by simpa [DM.lain, hl] using h.pend p hp, h.lim, h.lim', h.few⟩
theorem lay_step (S : List (List UInt8)) (Ps : List (Nat × List UInt8)) (j : Nat) (p : Nat × List UInt8) (hj : Ps[j]? = some p) : layAll S (Ps.take (j + 1)) = (layAll S (Ps.take j)).set p.1 p.2 := by
 have hlt : j < Ps.length := (List.getElem?_eq_some_iff.1 hj).1
 have e : Ps.take (j + 1) = Ps.take j ++ [p] := by
  rw [List.take_succ_eq_append_getElem hlt]; rw [List.getElem?_eq_getElem hlt] at hj; simp only [Option.some.injEq] at hj; rw [hj]
 simp [e, layAll, List.foldl_append]
theorem splice_sector {S : List (List UInt8)} (h : ∀ s ∈ S, s.length = 64) {k : Nat} (hk : k < S.length) {b : List UInt8} (hb : b.length = 64) : splice (bcells S.flatten) (k * 64) (bcells b) = bcells (S.set k b).flatten := by
 simp only [splice, bcells_len, hb]; rw [<- flat_set h hk, bcells_append, bcells_append, bcells_take, bcells_drop]
theorem sync_dead {w : World} {d bb : Nat} {lv : Value} {D : DM} (h : DiskIn w d bb lv D) (hdead : D.dead = true) :
  Calls Tryz.prog 129 #[.pointer (some ⟨d, 0, none⟩)] w fun e w' => e = .returned (.int .i64 10) /\ w = w' := by
 go_enter Tryz.func129, Tryz.ntmps129
 go_wp2_with (go_at_call 90; refine (gone_in h).mono ?_; rintro e w' ⟨rfl, rfl⟩)
 go_ret
 exact ⟨rfl, rfl⟩
theorem sync_lim {w : World} {d bb : Nat} {lv : Value} {D : DM} (h : DiskIn w d bb lv D) (hdead : D.dead = false) (hl : D.limit = 0) :
  Calls Tryz.prog 129 #[.pointer (some ⟨d, 0, none⟩)] w fun e w' => e = .returned (.int .i64 10) /\ DiskIn w' d bb lv D.died /\ Fr [d] w w' := by
 have HL := lh hl; clear hl
 go_enter Tryz.func129, Tryz.ntmps129
 go_wp2_with (first
  | (go_at_call 90; refine (gone_in h).mono ?_; rintro e w' ⟨rfl, rfl⟩)
  | (go_at_call 146; refine (spend_no h HL.out).mono ?_; rintro e w' ⟨rfl, hd', hf'⟩))
 go_ret
 exact ⟨rfl, hd', hf'⟩
def SyncRel (w : World) (d bb : Nat) (lv : Value) (D : DM) (i : Value) (wr : World) : Prop :=
 ∃ j : Nat, j <= D.P.length /\ i = .int .i64 j /\ DiskIn wr d bb lv (D.lain (layAll D.S (D.P.take j))) /\ Fr [bb] w wr
theorem sync_ok {w : World} {d bb : Nat} {lv : Value} {D : DM} (h : DiskIn w d bb lv D) (hdead : D.dead = false) (hl : D.limit ≠ 0) (hdone : D.done < 1099511627776) :
  Calls Tryz.prog 129 #[.pointer (some ⟨d, 0, none⟩)] w fun e w' => e = .returned (.int .i64 0) /\ DStep w w' d { D.spent with S := layAll D.S D.P, P := [] } (dfp d bb lv) := by
 have hok := h.2.2.2; have hfew := hok.few
 have hok2 : DM.ok { D.spent with S := layAll D.S D.P, P := [] } := by
  have h0 := DM.ok_sync hok
  simpa only [DM.sync, hdead, if_false, Bool.false_eq_true, hl] using h0
 have HOK2 := lh hok2; clear hok2; have HL := lh hl; clear hl; have HDN := lh hdone; clear hdone; have H := lh h; clear h; obtain ⟨A, c, rfl, hnc, hcm⟩ := own_shape H.out.2.2.1; have hP0 : D.P.length <= 9223372036854775807 := by unfold maxLen at hcm; omega
 clear hcm
 go_enter Tryz.func129, Tryz.ntmps129
 go_upto_region 3 with (first
  | (go_at_call 90; refine (gone_in H.out).mono ?_; rintro e w' ⟨rfl, rfl⟩)
  | (go_at_call 146; refine (spend_yes H.out HL.out HDN.out).mono ?_; rintro e w1 ⟨rfl, hd1, hf1⟩; have c1 := hd1.c1; have HD1 := lh hd1; have HF1 := lh hf1; clear hd1 hf1))
 go_wp2_with fail
 go_loopw [17] (SyncRel w1 d bb (.slice A D.P.length c) D.spent) (fun i _ => D.P.length - (intOf i).toNat)
 case atStart => exact ⟨0, Nat.zero_le _, rfl, HD1.out, Fr.refl _ _⟩
 case round =>
  obtain ⟨j, hj, rfl, hd, hf⟩ := hrel; have hj' : j <= D.P.length := hj; clear hj c1
  by_cases hjn : j < D.P.length
  ·obtain ⟨p, hp⟩ := gx hjn; obtain ⟨g, rfl, hcell⟩ := own_cell hd.2.2.1 (by show 0 < D.P.length; omega); have hpp := hok.pend p (List.mem_of_getElem? hp); have hp2 := hpp.2
   have hc : wr.rangeAt g (j * 65) (Value.int .i64 (p.1 : Int) :: bcells p.2) := fun i v hi => by
    have hi' : i < 65 := by have := (List.getElem?_eq_some_iff.1 hi).1; simpa [bcells_len, hp2] using this
    exact hcell _ v (by rw [show pcells (D.spent.lain (layAll D.spent.S (D.spent.P.take j))).P = pcells D.P from rfl, pcells_at (fun q hq => (hok.pend q hq).2) hp hi']; exact hi)
   have hlen : (Value.int .i64 (p.1 : Int) :: bcells p.2).length = 65 := by simp [bcells_len, hp2]
   have HC := lh hc; clear hc hcell; have HLEN := lh hlen; clear hlen; have HF := lh hf; clear hf; have HDR := lh hd; clear hd; have HP := lh hp; clear hp; have HP2 := lh hp2; clear hp2; have HPP := lh hpp; clear hpp; have HOK := lh hok; clear hok
   go_wp2_with (first
    | (with_reducible refine wpList_load_mid rfl 203 (.tmp 19) rfl g (j * 65) rfl (Value.int .i64 (p.1 : Int) :: bcells p.2) _ HC.out Tryz.underlying203 rfl (size_pend.trans (by rw [HLEN.out])) ?_)
    | (with_reducible refine wpList_alloc_z rfl 203 rfl zp zpc zero_pend rfl ?_)
    | (with_reducible refine wpList_store_z (W := wr) rfl 203 (.tmp 4) (.tmp 20) rfl (Value.int .i64 (p.1 : Int) :: bcells p.2) rfl rfl rfl (size_pend.trans (by rw [HLEN.out])) ?zl (pend_one p) ?_))
   case zl => rw [HLEN.out]; rfl
   intro w2 hb2 hf2 hz2; have cp0 : w2.cell? ⟨wr.heap.size, 0, none⟩ = some (.int .i64 (p.1 : Int)) := hb2.at_ rfl; have hd2 := HDR.out.fr hf2 (by simp); have HD2 := lh hd2; clear hd2; have HB2 := lh hb2; clear hb2; have HF2 := lh hf2; clear hf2; clear hz2; go_wp2_with fail
   go_still_tail 6, (by kernel_rfl)
   have hlS : (D.spent.lain (layAll D.spent.S (D.spent.P.take j))).S.length = D.S.length := layAll_len _ _
   still_call ((sector_in (HD2.out.fr (Fr.refl [] w2).drew (by simp)) p.1 (by rw [hlS]; exact HPP.out.1)).mono fun e w' h => ⟨h.1, h.2.symm⟩)
   repeat still_step
   refine wpStill_nil ?_; refine wpList_copy_blk rfl (.tmp 24) (.tmp 26) 23 23 rfl 5 Tryz.underlying23 size_u8 (some ⟨bb, p.1 * 64, none⟩) (some ⟨wr.heap.size, 1, none⟩) 64 64 64 64 rfl rfl bb (p.1 * 64) _ 5 (HD2.out.2.1.fr (Fr.refl [] w2).drew (by simp)) (bcells p.2) (by rw [bcells_len, HP2.out]; rfl) (fun _ => ⟨rfl, _, rfl, fun i v hi => ?_⟩) ?_ (bcells_one _) ?_
   ·rw [Addr.add_mid]; exact HB2.out.at_ (i := 1 + i) (by rw [Nat.add_comm]; simpa using hi)
   ·have h1 := flat_len HD2.out.2.2.2.sec; have h2 := HPP.out.1; rw [bcells_len, bcells_len, HP2.out, h1, hlS]; omega
   intro w3 hb3 hf3 hz3; rw [splice_sector HD2.out.2.2.2.sec (by rw [hlS]; exact HPP.out.1) HP2.out] at hb3; have hst := lay_step D.S D.P j p HP.out; have hf3' : Fr [bb] w2 w3 := (Fr.refl [bb] w2).drew.trans hf3 (by simp)
   have hd3 : DiskIn w3 d bb (.slice (some ⟨g, 0, none⟩) D.P.length c) (D.spent.lain (layAll D.spent.S (D.spent.P.take (j + 1)))) := by
    have hn1 := HD2.out.ne1; have hn3 := HD2.out.ne3; refine ⟨?_, ?_, own_fr HD2.out.2.2.1 hf3' (fun g' hg' hm => hn3 (by simp only [List.mem_singleton] at hm; rw [<- hm]; exact hg')), ?_⟩
    ·have := HD2.out.1.fr hf3' (by simpa using hn1); simp only [DM.lain, layAll_len] at this ⊢; exact this
    ·show Blk w3 bb _ (bcells (layAll D.S (D.P.take (j + 1))).flatten)
     rw [hst]; exact hb3
    ·exact DM.ok_lain HD1.out.2.2.2 (layAll_len _ _) (layAll_sec _ _ HOK.out.sec (fun q hq => (HOK.out.pend q (List.mem_of_mem_take hq)).2))
   have hfr3 : Fr [bb] w1 w3 := (HF.out.trans HF2.out (by simp)).trans hf3' (by simp); have HD3 := lh hd3; clear hd3; have HF3 := lh hfr3; clear hfr3; clear hb3 hf3 hf3' hz3 hst hlS cp0
   go_wp2
   go_roundw
   case rel => exact ⟨j + 1, by show j + 1 <= D.P.length; omega, by go_num, HD3.out, HF3.out⟩
   case measure => simp [intOf]; omega
  ·have c1 := hd.c1; have f1 := hd.free 1; have HF := lh hf; clear hf; have HDR := lh hd; clear hd
   go_wp2
   go_ret
   have e : D.P.take j = D.P := List.take_of_length_le (by omega); have hd := HDR.out; simp only [show D.spent.P.take j = D.P from e] at hd; have hne := hd.ne1; have hfs : Fr [d] wr (wr.setCell ⟨d, 1, none⟩ (.slice none 0 0)) := (Fr.refl _ _).setCell (by simp) _; have hfw : Fr (dfp d bb (.slice A D.P.length c)) w wr := (HF1.out.mono (by simp [dfp])).trans HF.out (by simp [dfp]); refine ⟨rfl, dfp d bb (.slice none 0 0), ⟨bb, _, rfl, ?_, ?_, own_nil _ _ _ _, HOK2.out⟩, hfw.trans hfs (by simp [dfp]), by simp [dfp, Value.ownBlock]⟩
   ·have := hd.1.set_ 1 (.slice none 0 0)
    simpa [DM.lain, DM.spent, layAll_len] using this
   ·exact hd.2.1.fr hfs (by simpa using hne.symm)
theorem sync_at {w : World} {d : Nat} {D : DM} {fp : List Nat} (h : DiskAt w d D fp) (hdone : D.done < 1099511627776) :
  Calls Tryz.prog 129 #[.pointer (some ⟨d, 0, none⟩)] w fun e w' => e = .returned (.int .i64 D.syncE) /\ DStep w w' d D.sync fp := by
 have hA := h; obtain ⟨bb, lv, rfl, h⟩ := h
 by_cases hdead : D.dead = true
 ·refine (sync_dead h hdead).mono ?_; rintro e w' ⟨rfl, rfl⟩; simp only [DM.syncE, DM.sync, hdead, if_true]; exact ⟨trivial, DStep.same hA⟩
 ·have hdead : D.dead = false := by simpa using hdead
  by_cases hl : D.limit = 0
  ·refine (sync_lim h hdead hl).mono ?_; rintro e w' ⟨rfl, hd', hf'⟩; simp only [DM.syncE, DM.sync, hdead, if_false, if_true, Bool.false_eq_true, hl]; exact ⟨trivial, _, ⟨bb, lv, rfl, hd'⟩, hf'.mono (by simp [dfp]), fun _ hx => .inl hx⟩
  ·refine (sync_ok h hdead hl hdone).mono ?_; rintro e w' ⟨rfl, hd'⟩; simp only [DM.syncE, DM.sync, hdead, if_false, Bool.false_eq_true, hl]; exact ⟨trivial, hd'⟩
theorem dead_at {w : World} {d : Nat} {D : DM} {fp : List Nat} (h : DiskAt w d D fp) : Calls Tryz.prog 56 #[.pointer (some ⟨d, 0, none⟩)] w fun e w' => e = .returned (.bool D.dead) /\ w = w' := by
 obtain ⟨bb, lv, rfl, h⟩ := h; exact dead_in h
theorem size_at {w : World} {d : Nat} {D : DM} {fp : List Nat} (h : DiskAt w d D fp) : Calls Tryz.prog 57 #[.pointer (some ⟨d, 0, none⟩)] w fun e w' => e = .returned (.int .i64 (D.S.length : Int)) /\ w = w' := by
 obtain ⟨bb, lv, rfl, h⟩ := h; exact size_in h
def ReadAns (w : World) (D : DM) (k : Int) (e : Ending) (w' : World) : Prop :=
 ∃ v g, e = .returned (.tuple #[v, .int .i64 (D.readE k)]) /\ BytesAt w' v (D.read k) g /\ w.heap.size <= g /\ Fr [] w w' /\ (D.readE k = 0 -> v = .slice (some ⟨g, 0, none⟩) 64 64 /\ Blk w' g 5 (bcells (D.read k))) /\ (D.readE k ≠ 0 -> v = .slice none 0 0)
theorem read_bad {w : World} {d bb : Nat} {lv : Value} {D : DM} (h : DiskIn w d bb lv D) (k : Int) (hk : D.readE k ≠ 0) :
  Calls Tryz.prog 116 #[.pointer (some ⟨d, 0, none⟩), .int .i64 k] w fun e w' => e = .returned (.tuple #[.slice none 0 0, .int .i64 (D.readE k)]) /\ w = w' := by
 by_cases hdead : D.dead = true
 ·have e : D.readE k = 10 := by simp [DM.readE, hdead]
  rw [e]; clear hk e
  go_enter Tryz.func116, Tryz.ntmps116
  go_wp2_with (go_at_call 90; refine (gone_in h).mono ?_; rintro e w' ⟨rfl, rfl⟩)
  go_ret2
  exact ⟨rfl, rfl⟩
 ·have hdead : D.dead = false := by simpa using hdead
  have hk' : k < 0 ∨ (D.S.length : Int) <= k := by
   simp only [DM.readE, hdead, Bool.false_eq_true, if_false] at hk
   by_cases h' : k < 0 ∨ (D.S.length : Int) <= k
   ·exact h'
   ·rw [if_neg h'] at hk; exact absurd rfl hk
  have e : D.readE k = 1 := by simp [DM.readE, hdead, hk']
  rw [e]; clear hk e
  by_cases h1 : k < 0
  case' pos =>
   clear hk'
  case' neg =>
   have h2 : (D.S.length : Int) <= k := by omega
   clear hk'
  all_goals
   go_enter Tryz.func116, Tryz.ntmps116
   go_wp2_with (first
    | (go_at_call 90; refine (gone_in h).mono ?_; rintro e w' ⟨rfl, rfl⟩)
    | (go_at_call 57; refine (size_in h).mono ?_; rintro e w' ⟨rfl, rfl⟩))
   go_ret2
   exact ⟨rfl, rfl⟩
theorem read_at {w : World} {d : Nat} {D : DM} {fp : List Nat} (h : DiskAt w d D fp) (k : Int) :
  Calls Tryz.prog 116 #[.pointer (some ⟨d, 0, none⟩), .int .i64 k] w (ReadAns w D k) := by
 obtain ⟨bb, lv, rfl, h⟩ := h
 by_cases hk : D.readE k = 0
 ·have hdead : D.dead = false := by
   cases hd : D.dead with
   | false => rfl
   | true => simp [DM.readE, hd] at hk
  have hk2 : 0 <= k /\ k < D.S.length := by
   simp only [DM.readE, hdead, Bool.false_eq_true, if_false] at hk
   by_cases h' : k < 0 ∨ (D.S.length : Int) <= k
   ·rw [if_pos h'] at hk; exact absurd hk (by decide)
   ·omega
  obtain ⟨n, rfl⟩ := Int.eq_ofNat_of_zero_le hk2.1; refine (read_in h hdead n (by omega)).mono ?_; rintro e w' ⟨g, rfl, hg, hb, hf⟩; have hr : D.read (n : Int) = D.look n := by simp [DM.read, hk]
  have hl : (D.look n).length = 64 := DM.look_len h.2.2.2 (by omega); have hba := BytesAt.of_blk hb 64 (by omega); rw [hl] at hba; exact ⟨_, g, by rw [hk], by rw [hr]; exact hba, hg, hf, fun _ => ⟨rfl, by rw [hr]; exact hb⟩, fun h0 => absurd hk h0⟩
 ·refine (read_bad h k hk).mono ?_; rintro e w' ⟨rfl, rfl⟩; have hr : D.read k = [] := by simp [DM.read, hk]
  exact ⟨_, w.heap.size, rfl, by rw [hr]; exact BytesAt.nil _ _, Nat.le_refl _, Fr.refl _ _, fun h0 => absurd h0 hk, fun _ => rfl⟩
end
section
def wordOf (l : List UInt8) : Nat := l.foldl (fun n c => n * 256 + c.toNat) 0
theorem wordOf_snoc (l : List UInt8) (c : UInt8) : wordOf (l ++ [c]) = wordOf l * 256 + c.toNat := by simp [wordOf, List.foldl_append]
theorem foldl_word_lt : ∀ (l : List UInt8) (n : Nat), l.foldl (fun n c => n * 256 + c.toNat) n < (n + 1) * 256 ^ l.length
 | [], n => by simp
 | c :: l, n => by
  have h := foldl_word_lt l (n * 256 + c.toNat); have hc := c.toNat_lt; have h2 : (n * 256 + c.toNat + 1) * 256 ^ l.length <= ((n + 1) * 256) * 256 ^ l.length := Nat.mul_le_mul_right _ (by omega); have h3 : ((n + 1) * 256) * 256 ^ l.length = (n + 1) * 256 ^ (l.length + 1) := by rw [Nat.pow_succ, Nat.mul_assoc, Nat.mul_comm 256]
  simp only [List.foldl_cons, List.length_cons]; omega
theorem wordOf_lt (l : List UInt8) : wordOf l < 256 ^ l.length := by
 have := foldl_word_lt l 0
 simpa [wordOf] using this
theorem wordOf4_lt (l : List UInt8) (h : l.length <= 4) : wordOf l < 4294967296 := by
 have h1 := wordOf_lt l; have h2 : 256 ^ l.length <= 256 ^ 4 := Nat.pow_le_pow_right (by omega) h; have h3 : 256 ^ 4 = 4294967296 := by decide
 omega
structure Stamp where
 session : Nat
 number : Nat
 count : Nat
 deriving DecidableEq
structure Pc where
 st : Stamp
 place : Nat
 b : List UInt8
def pieceOf (s : List UInt8) : Option Pc :=
 if s.length = 64 /\ s.getD 0 0 = 165 /\ s.getD 1 0 = 90 /\ (s.getD 14 0).toNat <= 48 then
  some { st := { session := wordOf ((s.drop 2).take 4), number := wordOf ((s.drop 6).take 4), count := wordOf ((s.drop 12).take 2) }, place := wordOf ((s.drop 10).take 2), b := (s.drop 16).take (s.getD 14 0).toNat }
 else none
def byteAt (n k : Nat) : UInt8 := UInt8.ofNat (n / 256 ^ k)
def writtenOf (p : Pc) : List UInt8 :=
 [165, 90, byteAt p.st.session 3, byteAt p.st.session 2, byteAt p.st.session 1, byteAt p.st.session 0, byteAt p.st.number 3, byteAt p.st.number 2, byteAt p.st.number 1, byteAt p.st.number 0,
  byteAt p.place 1, byteAt p.place 0, byteAt p.st.count 1, byteAt p.st.count 0, UInt8.ofNat p.b.length, 0] ++ p.b
theorem writtenOf_len (p : Pc) : (writtenOf p).length = 16 + p.b.length := by simp [writtenOf]; omega
def collect (st : Stamp) : Nat -> List (List UInt8) -> Option (List UInt8)
 | _, [] => some []
 | k, s :: L =>
  match pieceOf s with
  | none => none
  | some q => if q.st = st /\ q.place = k /\ (k + 1 < st.count -> q.b.length = 48) then (collect st (k + 1) L).map (q.b ++ ·) else none
def recordOf (L : List (List UInt8)) : Option (Stamp × List UInt8) :=
 match L with
 | [] => none
 | s :: _ =>
  match pieceOf s with
  | none => none
  | some p => if p.st.count < 1 ∨ L.length < p.st.count then none else (collect p.st 0 (L.take p.st.count)).map fun b => (p.st, b)
def needOf (size : Nat) : Nat := if size = 0 then 1 else (size - 1) / 48 + 1
def needI (size : Int) : Int := if size <= 0 then 1 else (size - 1) / 48 + 1
def pieceAt (session number : Nat) (b : List UInt8) (k : Nat) : Pc :=
 { st := { session := session, number := number, count := needOf b.length }, place := k, b := (b.drop (48 * k)).take 48 }
def newestOf (L : List (List UInt8)) : Nat × Nat :=
 L.foldl (fun a s => match pieceOf s with | some p => (max a.1 p.st.session, max a.2 p.st.number) | none => a) (0, 0)
def recordsOf : Nat -> Option Stamp -> List (List UInt8) -> List (Stamp × List UInt8)
 | 0, _, _ => []
 | n + 1, last, L =>
  match recordOf L with
  | none => []
  | some (st, b) =>
   if (match last with | none => false | some l => decide (st.number ≠ (l.number + 1) % 4294967296 ∨ st.session < l.session)) then []
   else (st, b) :: recordsOf n (some st) (L.drop st.count)
end
section
open Go.RowKit
theorem and_mask (n : Int) (c : Nat) (hc : c < 9223372036854775808) : ∃ m : Nat, m <= c /\ bits .and .i64 n (c : Int) = (m : Int) := by
 refine ⟨(BitVec.ofInt 64 n &&& BitVec.ofInt 64 (c : Int)).toNat, ?_, ?_⟩
 ·rw [BitVec.toNat_and, BitVec.ofInt_natCast, BitVec.toNat_ofNat, Nat.mod_eq_of_lt (by omega)]; exact Nat.and_le_right
 ·have hb : (BitVec.ofInt 64 n &&& BitVec.ofInt 64 (c : Int)).toNat <= c := by
   rw [BitVec.toNat_and, BitVec.ofInt_natCast, BitVec.toNat_ofNat, Nat.mod_eq_of_lt (by omega)]; exact Nat.and_le_right
  show IntKind.i64.wrap ((BitVec.ofInt 64 n &&& BitVec.ofInt 64 (c : Int)).toNat : Int) = _
  rw [IntKind.wrap_i64]; omega
theorem or_low (x u : Nat) (hu : u < 256) : x * 256 ||| u = x * 256 + u := by
 have h := Nat.shiftLeft_add_eq_or_of_lt (b := u) (i := 8) (by omega) x; have e : x <<< 8 = x * 256 := by rw [Nat.shiftLeft_eq]
 rw [e] at h; exact h.symm
theorem or_u32 (x u : Nat) (hx : x < 16777216) (hu : u < 256) : bits .or .u32 ((x : Int) * 256) (u : Int) = ((x * 256 + u : Nat) : Int) := by
 have e1 : ((x : Int) * 256) = ((x * 256 : Nat) : Int) := by omega
 rw [e1]
 show IntKind.u32.wrap ((BitVec.ofInt 32 ((x * 256 : Nat) : Int) ||| BitVec.ofInt 32 (u : Int)).toNat : Int) = _
 rw [BitVec.toNat_or, BitVec.ofInt_natCast, BitVec.ofInt_natCast, BitVec.toNat_ofNat, BitVec.toNat_ofNat, Nat.mod_eq_of_lt (by omega), Nat.mod_eq_of_lt (by omega), or_low x u hu]; simp only [IntKind.wrap_u32]; omega
theorem or_i64 (x u : Nat) (hx : x < 256) (hu : u < 256) : bits .or .i64 ((x : Int) * 256) (u : Int) = ((x * 256 + u : Nat) : Int) := by
 have e1 : ((x : Int) * 256) = ((x * 256 : Nat) : Int) := by omega
 rw [e1]
 show IntKind.i64.wrap ((BitVec.ofInt 64 ((x * 256 : Nat) : Int) ||| BitVec.ofInt 64 (u : Int)).toNat : Int) = _
 rw [BitVec.toNat_or, BitVec.ofInt_natCast, BitVec.ofInt_natCast, BitVec.toNat_ofNat, BitVec.toNat_ofNat, Nat.mod_eq_of_lt (by omega), Nat.mod_eq_of_lt (by omega), or_low x u hu]; rw [IntKind.wrap_i64]; omega
def WordRel (l : List UInt8) (n i : Value) : Prop := ∃ k : Nat, k <= 4 /\ i = .int .i64 k /\ n = .int .u32 ((wordOf (l.take k) : Nat) : Int)
theorem word_take {l : List UInt8} {k : Nat} {u : UInt8} (hu : l[k]? = some u) : wordOf (l.take (k + 1)) = wordOf (l.take k) * 256 + u.toNat := by
 have hlt : k < l.length := (List.getElem?_eq_some_iff.1 hu).1; rw [List.take_succ_eq_append_getElem hlt, wordOf_snoc]; rw [List.getElem?_eq_getElem hlt] at hu; simp only [Option.some.injEq] at hu; rw [hu]
theorem word_any {w : World} {g off n c : Nat} {l : List UInt8} (hl : l.length = 4) (hn : 4 <= n) (hnc : n <= c) (hc : ∀ (j : Nat) (u : UInt8), l[j]? = some u -> w.cell? ⟨g, off + j, none⟩ = some (.int .u8 (u.toNat : Int))) :
  Calls Tryz.prog 132 #[.slice (some ⟨g, off, none⟩) n c] w fun e w' => e = .returned (.int .u32 ((wordOf l : Nat) : Int)) /\ w = w' := by
 have HC := lh hc; have HL := lh hl; clear hc hl
 go_enter Tryz.func132, Tryz.ntmps132
 go_wp2
 go_loop [3, 9] (WordRel l) (fun _ i => 4 - (intOf i).toNat)
 case atStart => exact ⟨0, by omega, rfl, rfl⟩
 case round =>
  obtain ⟨k, hk, rfl, rfl⟩ := hrel
  by_cases hk4 : k < 4
  ·obtain ⟨u, hu⟩ : ∃ u, l[k]? = some u := gx (by rw [HL.out]; exact hk4); have cu := HC.out k u hu; have hlt := wordOf_lt (l.take k); have hle : 256 ^ (l.take k).length <= 256 ^ 3 := Nat.pow_le_pow_right (by omega) (by rw [List.length_take]; omega); have h3 : 256 ^ 3 = 16777216 := by decide
   have hx : wordOf (l.take k) < 16777216 := by omega
   have hub : u.toNat < 256 := u.toNat_lt; have hst := word_take hu; have HST := lh hst; clear hst hlt hle h3 hu; generalize wordOf (l.take k) = x at *; have hor := or_u32 x u.toNat hx hub; have HOR := lh hor; clear hor
   go_wp2
   rw [HOR.out]; exact ⟨⟨k + 1, by omega, by go_num, by rw [HST.out]⟩, by simp [intOf]; omega⟩
  ·have hk4' : k = 4 := by omega
   subst hk4'; have e : l.take 4 = l := List.take_of_length_le (by rw [HL.out]; omega); rw [e]
   go_wp2
   go_ret
   exact ⟨rfl, rfl⟩
theorem half_any {w : World} {g off n c : Nat} {l : List UInt8} (hl : l.length = 2) (hn : 2 <= n) (hc : ∀ (j : Nat) (u : UInt8), l[j]? = some u -> w.cell? ⟨g, off + j, none⟩ = some (.int .u8 (u.toNat : Int))) :
  Calls Tryz.prog 133 #[.slice (some ⟨g, off, none⟩) n c] w fun e w' => e = .returned (.int .i64 ((wordOf l : Nat) : Int)) /\ ∃ m, w' = w.drewN m := by
 match l, hl with
 | [u, v], _ =>
  have c0 : w.cell? ⟨g, off, none⟩ = some (.int .u8 (u.toNat : Int)) := hc 0 u rfl; have c1 : w.cell? ⟨g, off + 1, none⟩ = some (.int .u8 (v.toNat : Int)) := hc 1 v rfl; have hub : u.toNat < 256 := u.toNat_lt; have hvb : v.toNat < 256 := v.toNat_lt; have hor := or_i64 u.toNat v.toNat hub hvb; have HOR := lh hor; clear hor hc; have hn1 : (1 : Int) < (n : Int) := by omega
  go_enter Tryz.func133, Tryz.ntmps133
  go_wp2
  go_quiet (fail)
  go_wp2
  go_ret
  refine ⟨?_, _, rfl⟩
  show Ending.returned (.int .i64 (bits .or .i64 ((u.toNat : Int) * 256) (v.toNat : Int))) = _
  rw [HOR.out]
  simp [wordOf]
section
variable {P : Program} {o : Oper} {a : Act} {w : World} {K : Act -> World -> Prop} {Q : Exit -> Act -> World -> Prop}
theorem wp_call_f {f : FuncId} {l : List Operand} {tys : Array TypeId} (ho : o.op = .call { callee := .value (.func f), args := l.toArray, argTypes := tys }) (vs : List Value) (hvs : l.map a.eval = vs)
  (he : ∀ w, (callFunc f vs.toArray).run P w = .ok (.enter f vs.toArray) w)
  (hc : Calls P f vs.toArray w (fun e w' => ∃ v, e = .returned v /\ K (a.put o.dst v) w')) : Oper.wp P o a w K Q := by
 unfold Oper.wp; have hm : l.toArray.map a.eval = vs.toArray := by rw [<- hvs]; simp
 have hrun : (execOp a.eval o).run P w = .ok (.enter f vs.toArray) w := by
  simp only [execOp, ho, resolve, hm]
  simp [invoke, Act.eval, he, Deferred.ofValue]
 rw [hrun]; refine hc.mono ?_; rintro e w' ⟨v, rfl, h⟩; exact h
end
section
variable {P : Program} {o : Oper} {a : Act} {w : World} {K : Act -> World -> Prop} {Q : Exit -> Act -> World -> Prop}
theorem wp_store_row {g : Nat} {t' : TypeId} {old : List Value} (t : TypeId) (x y : Operand) (ho : o.op = .store t x y) (cs : List Value)
  (hx : a.eval x = .pointer (some ⟨g, 0, none⟩)) (hy : a.eval y = .agg cs.toArray) (hb : Blk w g t' old)
  (hi : (P.info? t).map (·.size) = some cs.length) (hl : old.length = cs.length) (h1 : ∀ v ∈ cs, v.oneCell' = true)
  (h : K (a.put o.dst undef) (w.setRow g cs.toArray)) : Oper.wp P o a w K Q := by
 have hrun := run_storeVar_row (P := P) w g t' t old.toArray cs.toArray hb (by simpa using hi) (by simpa using hl) (all_oneCell_toArray h1); unfold Oper.wp
 simp [execOp, ho, hx, hy, Instr.storeAt, Instr.sureAddr, hrun, Result.andThen]
 exact h
theorem run_append_two {t t2 e e2 ty : TypeId} (ht : P.underlying t = some (.slice e)) (h2 : P.underlying t2 = some (.slice e2)) (A B : Option Addr) (n c m d : Nat) :
  (Builtin.append_ #[t, t2] ty #[.slice A n c, .slice B m d]).run P w = (Builtin.append_ #[t, t] ty #[.slice A n c, .slice B m d]).run P w := by
 have h3 : ∀ w, (underlying t2).run P w = .ok (.slice e2) w := fun w => by simp [underlying, go_sem, h2]
 have h4 : ∀ w, (underlying t).run P w = .ok (.slice e) w := fun w => by simp [underlying, go_sem, ht]
 unfold Builtin.append_
 simp [go_sem, h3, h4]
theorem wpList_append_two {ops : Array Oper} {rest : List Oper} {Q : Exit -> Act -> World -> Prop} (hgd : o.guard = none) (s x : Operand) (t t2 : TypeId)
  (ho : o.op = .call { callee := .builtin .append, args := #[s, x], argTypes := #[t, t2] })
  (e e2 : TypeId) (i : TypeInfo) (z : Value) (bytes : Nat) (ht : P.underlying t = some (.slice e)) (ht2 : P.underlying t2 = some (.slice e2)) (hi : P.info? e = some i) (hz : i.zero = some z)
  (hsize : i.size = 1) (hby : i.bytes = bytes) (hzs : z.cells.size = 1)
  (A : Option Addr) (cc n : Nat) (xs : List Value) (hs : a.eval s = .slice A n cc) (hown : w.ownsRow 0 e 1 (.slice A n cc) n xs)
  (ad : Addr) (m c : Nat) (news : List Value) (hx : a.eval x = .slice (some ad) m c) (hl : news.length = m) (hnews : ∀ j u, news[j]? = some u -> w.cell? (ad.add j) = some u) (h1 : ∀ u ∈ news, u.oneCell' = true)
  (hm : 0 < m) (h63 : n + m <= maxLen) (hbytes : (n + m) * bytes <= 140737488355328)
  (h : ∀ g cap w', w'.ownsRow 0 e 1 (.slice (some ⟨g, 0, none⟩) (n + m) cap) (n + m) (xs ++ news) -> w.grownBy w' (Value.slice A n cc).ownBlock -> ((Value.slice A n cc).ownBlock = some g ∨ g = w.heap.size) -> g < w'.heap.size -> wpList P ops Q rest (a.put o.dst (.slice (some ⟨g, 0, none⟩) (n + m) cap)) w') : wpList P ops Q (o :: rest) a w := by
 obtain ⟨g, cap, w', hr, h2, h3, h4, h5⟩ := run_append_lies (P := P) w t o.type 0 e i z 1 bytes ht hi hz hsize hby hzs (by omega) _ n xs hown ad m c news (by omega) hnews h1 hm h63 hbytes (Nat.zero_le _) _ rfl; rw [<- run_append_two ht ht2] at hr; refine wpList_plain hgd fun K hK => ?_; unfold Oper.wp execOp; simp only [ho, resolve, invoke, builtin, Sem.run_bind, Sem.run_pure, Result.andThen_ok, List.map_toArray, List.map_cons, List.map_nil, hs, hx, hr]; exact hK _ _ (h g cap w' h2 h3 h4 h5)
theorem run_append_none {t t2 e e2 ty : TypeId} (ht : P.underlying t = some (.slice e)) (h2 : P.underlying t2 = some (.slice e2)) (hi : (P.info? e).map (·.size) = some 1) (A : Option Addr) (B : Option Addr) (n c d : Nat) (hn : n <= c) :
  (Builtin.append_ #[t, t2] ty #[.slice A n c, .slice B 0 d]).run P w = .ok (.slice A n c) w := by
 obtain ⟨i, hi1, hi2⟩ := Option.map_eq_some_iff.1 hi; have h3 : ∀ w, (underlying t2).run P w = .ok (.slice e2) w := fun w => by simp [underlying, go_sem, h2]
 have h4 : ∀ w, (underlying t).run P w = .ok (.slice e) w := fun w => by simp [underlying, go_sem, ht]
 have h5 : ∀ w, (sizeOf e).run P w = .ok 1 w := fun w => by simp [sizeOf, typeInfo, go_sem, hi1, hi2]
 unfold Builtin.append_
 cases A <;> cases B <;> simp [go_sem, h3, h4, h5, hn, loadCellsFrom]
theorem wpList_append_none {ops : Array Oper} {rest : List Oper} {Q : Exit -> Act -> World -> Prop} (hgd : o.guard = none) (s x : Operand) (t t2 : TypeId)
  (ho : o.op = .call { callee := .builtin .append, args := #[s, x], argTypes := #[t, t2] })
  (e e2 : TypeId) (ht : P.underlying t = some (.slice e)) (ht2 : P.underlying t2 = some (.slice e2)) (hi : (P.info? e).map (·.size) = some 1)
  (A : Option Addr) (B : Option Addr) (n c d : Nat) (hs : a.eval s = .slice A n c) (hx : a.eval x = .slice B 0 d) (hn : n <= c)
  (h : wpList P ops Q rest (a.put o.dst (.slice A n c)) w) : wpList P ops Q (o :: rest) a w := by
 have hr := run_append_none (P := P) (w := w) (ty := o.type) ht ht2 hi A B n c d hn; refine wpList_plain hgd fun K hK => ?_; unfold Oper.wp execOp; simp only [ho, resolve, invoke, builtin, Sem.run_bind, Sem.run_pure, Result.andThen_ok, List.map_toArray, List.map_cons, List.map_nil, hs, hx, hr]; exact hK _ _ h
end
end
end Go.Proofs.YtpjbdpepofnleaaGreat
