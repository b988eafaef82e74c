/-
  Joined by join.py: Od Oe Of
-/
import Derived.Test.YtpjbdpepofnleaaGreatJrg9
section
namespace Go.Proofs.YtpjbdpepofnleaaGreat
open Go.RowKit Go.Sort Go.Shelf
def znd : List Value := [.int .i64 0, .int .i64 0, .slice none 0 0]
theorem zero_nd : (Tryz.prog.info? 88).map (·.zero) = some (some (.agg #[.int .i64 0, .int .i64 0, .slice none 0 0])) := by kernel_rfl
theorem size_nd : (Tryz.prog.info? 88).map (·.size) = some 3 := by kernel_rfl
theorem enter_item (vs : Array Value) (w : World) : (callFunc 109 vs).run Tryz.prog w = .ok (.enter 109 vs) w := by kernel_rfl
theorem results_ct2 {P : Program} {fn : Func} {tmps : Array Value} {w : World} {k k2 : Tmp} {t t' : TypeId} {g : Nat} {cs : List Value} {d : TypeDesc} (hr : fn.results = #[.cell k t, .tmp k2]) (ha : tmps.getD k undef = .pointer (some ⟨g, 0, none⟩)) (hb : Blk w g t' cs)
    (hu : P.underlying t = some d) (hd : d.isRow = true) (hi : (P.info? t).map (·.size) = some cs.length) : (results fn tmps).run P w = .ok (.tuple #[.agg cs.toArray, tmps.getD k2 undef]) w := by
  have hl := run_loadVar_row (P := P) w g t' t cs.toArray (0, 0) d hb hu (by cases d <;> simp_all) (by simpa using hi)
  have ha' : tmps[k]?.getD undef = .pointer (some ⟨g, 0, none⟩) := by simpa using ha
  simp [results, hr, ha', hl, asAddr]
set_option maxRecDepth 100000 in
theorem leaf_any (w : World) (k : Int) (a b : Value) : Calls Tryz.prog 45 #[.agg #[.int .i64 k, a, b]] w fun e w' => e = .returned (.bool (k == 1)) ∧ w' = w.alloc (.cells #[.int .i64 k, a, b] 88) := by
  go_enter Tryz.func45, Tryz.ntmps45
  go_wp2
  go_ret
  exact ⟨rfl, rfl⟩
theorem kind_one (n : Nd) : (kindOf n == 1) = n.lf := by unfold kindOf; cases n.lf <;> rfl
theorem leaf_nd {w : World} {a b : Value} (n : Nd) : Calls Tryz.prog 45 #[.agg #[.int .i64 (kindOf n), a, b]] w fun e w' => e = .returned (.bool n.lf) ∧ Fr [] w w' :=
  (leaf_any w (kindOf n) a b).mono fun e w' ⟨he, hw⟩ => ⟨by rw [he, kind_one], by rw [hw]; exact (Fr.refl [] w).alloc _⟩
def ReadRel (W : World) (B2 rb B5 g : Nat) (n : Nd) (r : List UInt8) (iv : Value) (wr : World) : Prop :=
  ∃ (k : Nat) (sv : Value) (cs : List Value), k ≤ n.l.length ∧ iv = .int .i64 (k : Int) ∧ Blk wr B2 88 znd ∧ Blk wr B5 88 [.int .i64 (kindOf n), .int .i64 (n.first : Int), sv] ∧
    wr.ownsRow (W.heap.size + 3) 77 3 sv k cs ∧ ItsC (fun q => W.heap.size + 3 ≤ q ∧ sv.ownBlock ≠ some q) wr (n.l.take k) cs ∧ Rd wr rb g ((n.l.drop k).flatMap (ib n.lf) ++ r) ∧ Fr [] W wr ∧ W.heap.size + 3 ≤ wr.heap.size
set_option maxRecDepth 100000 in
set_option maxHeartbeats 8000000 in
/-- A page read as the node that it is. -/
theorem read_any {w : World} {v : Value} {n : Nd} {r : List UInt8} {g : Nat} (hv : BytesAt w v (n.written ++ r) g) (hlen : (n.written ++ r).length = 512) (hok : n.ok) :
    Calls Tryz.prog 84 #[v] w fun e w' => ∃ nv, e = .returned (.tuple #[nv, .bool true]) ∧ NdV (fun q => w.heap.size ≤ q) w' w.heap.size nv n ∧ Fr [] w w' := by
  obtain ⟨A, c, off, rfl, hc, hcell0⟩ := hv
  obtain ⟨rfl, hcell⟩ := hcell0 (by omega)
  clear hcell0
  have hgl : g < w.heap.size := by
    have := World.block_lt_of_cell? w _ (hcell 0 _ (List.getElem?_eq_getElem (by rw [bcells_len]; omega)))
    exact this
  refine calls_post fun R HQ => ?_
  rw [hlen] at hc ⊢
  obtain ⟨W1, hW1⟩ : ∃ W1, W1 = (w.alloc (.cells znd.toArray 88)).alloc (.cells #[.slice (some ⟨g, off, none⟩) 512 c, .bool false] 183) := ⟨_, rfl⟩
  have hf1 : Fr [] w W1 := by rw [hW1]; exact ((Fr.refl [] w).alloc _).alloc _
  have hb2 : Blk W1 w.heap.size 88 znd := by rw [hW1]; exact (Blk.new w _ znd).alloc _
  have hrd : Rd W1 (w.heap.size + 1) g (n.written ++ r) := by
    refine ⟨off, c, ?_, by omega, fun j u hj => fr_keep hf1 (hcell j u hj)⟩
    rw [hlen, hW1]
    have := Blk.new (w.alloc (.cells znd.toArray 88)) 183 [.slice (some ⟨g, off, none⟩) 512 c, .bool false]
    rwa [show (w.alloc (.cells znd.toArray 88)).heap.size = w.heap.size + 1 by simp] at this
  have hz1 : W1.heap.size = w.heap.size + 2 := by rw [hW1]; simp
  have hgr : g ≠ w.heap.size + 1 := by omega
  obtain ⟨u, hu⟩ : ∃ u : UInt8, u = if n.lf then 1 else 2 := ⟨_, rfl⟩
  have huk : ((u.toNat : Nat) : Int) = kindOf n := by rw [hu]; unfold kindOf; cases n.lf <;> rfl
  have e0 : n.written ++ r = u :: (b16 n.l.length ++ ((if n.lf then [] else b16 n.first) ++ (n.l.flatMap (ib n.lf) ++ r))) := by rw [hu]; unfold Nd.written Nd.head; simp
  rw [e0] at hrd
  have HO1 := Lib.hid (one_rd hrd hgr)
  have HF1 := Lib.hid hf1; have HB2 := Lib.hid hb2; have HZ1 := Lib.hid hz1; have HOK := Lib.hid hok; have HUK := Lib.hid huk; have HW1 := Lib.hid hW1
  clear hcell hf1 hb2 hrd hz1 hok e0 huk hu hW1
  go_enter Tryz.func84, Tryz.ntmps84
  go_wp2_with (with_reducible refine wpList_alloc_z rfl 88 rfl (.agg #[.int .i64 0, .int .i64 0, .slice none 0 0]) znd.toArray zero_nd rfl ?_)
  rw [← HW1.out]
  refine HO1.out.mono ?_
  rintro e w2 ⟨rfl, hr2, hf2, hz2⟩
  rw [HUK.out]
  have HR2 := Lib.hid hr2
  have HF2 := Lib.hid ((HF1.out.mono (S := []) (T := [w.heap.size + 1]) (by simp)).trans hf2 (by simp))
  have HB22 := Lib.hid (HB2.out.fr hf2 (by simp))
  have HZ2 : Hid (w2.heap.size = w.heap.size + 2) := Lib.hid (by have := HZ1.out; omega)
  clear hr2 hf2 hz2 HO1
  go_wp2_with (first
    | (with_reducible refine wpList_alloc_z rfl 88 rfl (.agg #[.int .i64 0, .int .i64 0, .slice none 0 0]) znd.toArray zero_nd rfl ?_)
    | (refine wpList_store_z (W := w2) rfl 88 (.tmp 5) (.tmp 13) rfl [.int .i64 (kindOf n), .int .i64 0, .slice none 0 0] rfl rfl rfl size_nd rfl ?z1 ?_))
  case z1 => intro x hx; simp at hx; rcases hx with rfl | rfl | rfl <;> rfl
  intro w3 hb3 hf3 hz3
  have HB3 := Lib.hid hb3
  have HF3 := Lib.hid (HF2.out.trans hf3 (by simp))
  have HR3 := Lib.hid (HR2.out.fr hf3 (by simp) (by simp))
  have HB23 := Lib.hid (HB22.out.fr hf3 (by simp))
  have HZ3 : Hid (w3.heap.size = w.heap.size + 3) := Lib.hid (by have := HZ2.out; omega)
  have k0 := hb3.at_ (i := 0) rfl
  have HO3 := Lib.hid (take_rd (k := 2) HR3.out (by rw [List.length_append]; show 2 ≤ 2 + _; omega) hgr)
  clear hb3 hf3 hz3 HF2 HR2 HB22
  cases hlf : n.lf with
  | true =>
    have hkn : kindOf n = 1 := by unfold kindOf; rw [hlf]; rfl
    rw [hkn] at k0
    go_wp2_with fail
    refine HO3.out.mono ?_
    rintro e w4 ⟨v4, rfl, hb4, hr4, hf4, hz4⟩
    have er : r16 ((b16 n.l.length ++ ((if n.lf then [] else b16 n.first) ++ (n.l.flatMap (ib n.lf) ++ r))).take 2) = n.l.length := by
      have := r16_b16 HOK.out.few []
      rwa [List.append_nil] at this
    have hh := half16_any hb4 (by rw [List.length_take, List.length_append]; show 2 ≤ min 2 (2 + _); omega)
    rw [er] at hh
    have HH := Lib.hid hh; have HF4 := Lib.hid hf4; have HZ4 := Lib.hid hz4; have HR4 := Lib.hid hr4
    clear hb4 hr4 hf4 hz4 er hh k0
    go_wp2_with fail
    refine HH.out.mono ?_
    rintro e w5 ⟨rfl, q5, hq5⟩
    have hf5 : Fr [w.heap.size + 1] w3 w5 := by rw [hq5]; exact HF4.out.drewN _
    have hb5 := HB3.out.fr hf5 (by have := HZ2.out; simp; omega)
    have k0 := hb5.at_ (i := 0) rfl
    rw [hkn] at k0
    have k1 := hb5.at_ (i := 1) rfl
    have k2 := hb5.at_ (i := 2) rfl
    have HB5 := Lib.hid hb5; have HF5 := Lib.hid hf5; have HQ5 := Lib.hid hq5
    clear hb5 hf5 hq5 HH
    go_wp2_with fail
    refine (leaf_any w5 1 _ _).mono ?_
    rintro e w6 ⟨rfl, hw6⟩
    have hf6 : Fr [] w5 w6 := by rw [hw6]; exact (Fr.refl [] w5).alloc _
    have hz6 := hf6.size
    have hfirst : n.first = 0 := HOK.out.bare hlf
    have HB25 := Lib.hid ((HB23.out.fr HF5.out (by simp)).fr hf6 (by simp))
    have HB55 : Hid (Blk w6 w2.heap.size 88 [.int .i64 (kindOf n), .int .i64 (n.first : Int), .slice none 0 0]) := Lib.hid (by rw [hfirst]; exact HB5.out.fr hf6 (by simp))
    have HR5 : Hid (Rd w6 (w.heap.size + 1) g ((n.l.drop 0).flatMap (ib n.lf) ++ r)) := Lib.hid (by
      have h0 : (b16 n.l.length ++ ((if n.lf then [] else b16 n.first) ++ (n.l.flatMap (ib n.lf) ++ r))).drop 2 = n.l.flatMap (ib n.lf) ++ r := by rw [hlf]; rfl
      have h1 := HR4.out
      rw [h0] at h1
      have h2 : Fr [] w4 w5 := by rw [HQ5.out]; exact (Fr.refl [] w4).drewN _
      exact (h1.fr h2 (by simp) (by simp)).fr hf6 (by simp) (by simp))
    have HF5' : Hid (Fr [] w w6) := Lib.hid (((HF3.out.trans HF5.out (by simp)).trans hf6 (by simp)).mono (fun x hx => .inr (by simp at hx; omega)))
    have HZ5 : Hid (w.heap.size + 3 ≤ w6.heap.size) := Lib.hid (by have := HZ3.out; have := HF5.out.size; omega)
    have HLF := Lib.hid hlf
    clear hf6 hz6 hfirst hw6 k0 k1 k2 HB5 HF5 HQ5 HF4 HZ4 HR4 HB3 HR3 HB23 HZ3 HF3 HO3 hkn hlf
    go_wp2_with fail
    go_loopw [7] (fun v wr => ReadRel w w.heap.size (w.heap.size + 1) w2.heap.size g n r v wr) (fun v _ => n.l.length - (intOf v).toNat)
    case atStart => exact ⟨0, .slice none 0 0, [], Nat.zero_le _, rfl, HB25.out, HB55.out, own_nil _ _ _ _, trivial, HR5.out, HF5'.out, HZ5.out⟩
    case round =>
      obtain ⟨k, sv, cs, hk, rfl, hb2, hb5, hown, hits, hrd, hfw, hzw⟩ := hrel
      clear HB25 HB55 HR5 HF5' HZ5
      have c0 := hb5.at_ (i := 0) rfl
      have c1 := hb5.at_ (i := 1) rfl
      have c2 := hb5.at_ (i := 2) rfl
      have r1 : wr.cell? ⟨w.heap.size + 1, 1, none⟩ = some (.bool false) := by obtain ⟨_, _, hb, _⟩ := id hrd; exact hb.at_ (i := 1) rfl
      obtain ⟨As, cs', rfl, hsn, hsc⟩ := own_shape hown
      have HB2W := Lib.hid hb2; have HB5W := Lib.hid hb5; have HOWN := Lib.hid hown; have HITS := Lib.hid hits; have HRD := Lib.hid hrd; have HFW := Lib.hid hfw
      have hnl := HOK.out.few
      have hcmp : (((k : Nat) : Int) < (n.l.length : Int)) ↔ k < n.l.length := by omega
      clear hb2 hb5 hown hits hrd hfw
      by_cases hkn : k < n.l.length
      · obtain ⟨x, hx⟩ : ∃ x, n.l[k]? = some x := ⟨_, List.getElem?_eq_getElem hkn⟩
        have hxo := HOK.out.item x (List.mem_of_getElem? hx)
        have hdrop : n.l.drop k = x :: n.l.drop (k + 1) := by
          obtain ⟨h1, h2⟩ := List.getElem?_eq_some_iff.1 hx
          rw [List.drop_eq_getElem_cons h1, h2]
        have htake : n.l.take (k + 1) = n.l.take k ++ [x] := by
          obtain ⟨h1, h2⟩ := List.getElem?_eq_some_iff.1 hx
          rw [List.take_succ_eq_append_getElem h1, h2]
        have hrd' := HRD.out.fr ((Fr.refl [] wr).drew) (by simp) (by simp)
        rw [hdrop, List.flatMap_cons, List.append_assoc] at hrd'
        have HI := Lib.hid (item_rd hrd' hxo hgr (by show g < wr.heap.size; omega))
        have HTK := Lib.hid htake
        clear hx hdrop htake hrd' hxo
        go_wp2_with fail
        refine wp_region_K (fun W => W.cell? ⟨w2.heap.size, 0, none⟩ = some (.int .i64 (kindOf n)) ∧ W.cell? ⟨w2.heap.size, 2, none⟩ = some (.slice As k cs')) [0, 1, 2, 3, 4, 8] (by kernel_rfl) ?_
        refine wpAnyK_take (i := 0) (some 45) ?vq1_0 rfl rfl (by kernel_rfl) (fun _ _ _ h => h) ⟨c0, c2⟩ (.inl ⟨rfl, fun W hW => ?yq1_0⟩) ?_
        case yq1_0 => (obtain ⟨q0, q2⟩ := hW; go_simp) <;> with_reducible rfl
        simp only [nrm]
        refine wpAnyK_take (i := 1) (some 46) ?vq1_1 rfl rfl (by kernel_rfl) (fun _ _ _ h => h) ⟨c0, c2⟩ (.inl ⟨rfl, fun W hW => ?yq1_1⟩) ?_
        case yq1_1 => (obtain ⟨q0, q2⟩ := hW; go_simp) <;> with_reducible rfl
        simp only [nrm]
        refine wpAnyK_take (i := 2) (some 47) ?vq1_2 rfl rfl (by kernel_rfl) (fun _ _ _ h => h) ⟨c0, c2⟩ (.inl ⟨rfl, fun W hW => ?yq1_2⟩) ?_
        case yq1_2 => (obtain ⟨q0, q2⟩ := hW; go_simp) <;> with_reducible rfl
        simp only [nrm]
        refine wpAnyK_take (i := 3) (some 48) ?vq1_3 rfl rfl (by kernel_rfl) (fun _ _ _ h => h) ⟨c0, c2⟩ (.inl ⟨rfl, fun W hW => ?yq1_3⟩) ?_
        case yq1_3 => (obtain ⟨q0, q2⟩ := hW; go_simp) <;> with_reducible rfl
        simp only [nrm]
        refine wpAnyK_take (i := 4) (some 49) ?vq1_4 rfl rfl (by kernel_rfl) (fun _ _ _ h => h) ⟨c0, c2⟩ (.inl ⟨rfl, fun W hW => ?yq1_4⟩) ?_
        case yq1_4 => (obtain ⟨q0, q2⟩ := hW; go_simp) <;> with_reducible rfl
        simp only [nrm]
        refine wpAnyK_step (j := 5) (some 50) rfl rfl (by kernel_rfl) rfl fun K hK => ?_
        refine wp_call_f (l := [.tmp 47, .tmp 49]) rfl [.pointer (some ⟨w.heap.size + 1, 0, none⟩), .int .i64 (kindOf n)] rfl (enter_item _) (HI.out.mono ?_)
        rintro e w7 ⟨kv, vv, rfl, hic, hr7, hf7⟩
        have hf7' : Fr [w.heap.size + 1] wr w7 := ((Fr.refl [w.heap.size + 1] wr).drew).trans hf7 (by simp)
        have hlx := HOWN.out
        have hol := own_lt HOWN.out
        have hoge : ∀ q, (Value.slice As k cs').ownBlock = some q → w.heap.size + 3 ≤ q := fun q hq => (HOWN.out.lt q hq).1
        have hz2 : w.heap.size + 1 < w2.heap.size ∧ w2.heap.size < w.heap.size + 3 := by have := HZ2.out; omega
        have hB57 := HB5W.out.fr hf7' (by simp; omega)
        have hB27 := HB2W.out.fr hf7' (by simp)
        have HOWN7 := Lib.hid (own_fr HOWN.out hf7' (fun q hq => by have := hoge q hq; simp; omega))
        have HITS7 := Lib.hid (HITS.out.fr hf7' (fun q hq hm => by have := hq.1; have := List.mem_singleton.1 hm; omega))
        have HR7 := Lib.hid hr7
        have HF7 := Lib.hid (HFW.out.trans hf7' (fun x hx => .inr (by simp at hx; omega)))
        have hz7 := hf7'.size
        have HIC := Lib.hid hic
        have HB57 := Lib.hid hB57; have HB27 := Lib.hid hB27
        have hone := hic.one
        refine ⟨_, rfl, hK _ _ (fun _ => ⟨hB57.at_ (i := 0) rfl, hB57.at_ (i := 2) rfl⟩) ?_⟩
        simp only [nrm]
        clear hr7 hf7 hf7' hB57 hB27 hK hic hlx
        refine wpAnyK_step (j := 6) (some 51) rfl rfl (by kernel_rfl) rfl fun K hK => ?_
        obtain ⟨ti, hti, hz', hsz', hby⟩ := info_get info_it
        refine wp_build_one (.tmp 50) rfl Tryz.underlying86 hti hz' [kv, vv, .int .i64 (x.at_ : Int)] rfl hsz' rfl (by simp) (by simp) (hK _ _ (fun _ => ⟨(HB57.out.alloc _).at_ (i := 0) rfl, (HB57.out.alloc _).at_ (i := 2) rfl⟩) ?_)
        simp only [nrm]
        clear hK
        have hbn := Blk.new w7 77 [kv, vv, .int .i64 (x.at_ : Int)]
        have hfn : Fr [] w7 (w7.alloc (.cells [kv, vv, .int .i64 (x.at_ : Int)].toArray 77)) := (Fr.refl [] w7).alloc _
        have hsn : (w7.alloc (.cells [kv, vv, .int .i64 (x.at_ : Int)].toArray 77)).heap.size = w7.heap.size + 1 := by simp
        generalize w7.alloc (.cells [kv, vv, .int .i64 (x.at_ : Int)].toArray 77) = w8 at *
        have hne : (Value.slice As k cs').ownBlock ≠ some w2.heap.size := fun e => by have := hoge _ e; omega
        refine wpAnyK_step (j := 7) (some 52) rfl rfl (by kernel_rfl) rfl fun K hK => ?_
        refine wp_append_fr (.tmp 46) (.tmp 51) rfl 77 3 56 Tryz.underlying86 hti hz' hsz' hby rfl (by omega) (.slice As k cs') k cs rfl (own_base (own_fr HOWN7.out hfn (by simp)) (fun _ _ => Nat.zero_le _)) ⟨w7.heap.size, 0, none⟩ 1 1 [kv, vv, .int .i64 (x.at_ : Int)] rfl rfl (fun j u hu => by rw [Addr.add_mid, Nat.zero_add]; exact hbn.at_ hu) hone (by omega) (by unfold maxLen; omega) (by omega) (w7.heap.size + 1) hsn fun g9 c9 w9 ho9 F9 hat9 hlt9 => hK _ _ (fun _ => ⟨((HB57.out.fr hfn (by simp)).fr F9 (by simpa using hne)).at_ (i := 0) rfl, ((HB57.out.fr hfn (by simp)).fr F9 (by simpa using hne)).at_ (i := 2) rfl⟩) ?_
        simp only [nrm]
        clear hK
        have hS9 : ∀ q, q ∈ (Value.slice As k cs').ownBlock.toList → w.heap.size + 3 ≤ q := fun q hq => hoge q (by simpa using hq)
        have hO9 := (HB57.out.fr hfn (by simp)).fr F9 (fun hm => by have := hS9 _ hm; omega)
        have hg9 : w.heap.size + 3 ≤ g9 := by
          rcases hat9 with h | h
          · exact hoge _ h
          · omega
        have hol' : ∀ q, (Value.slice As k cs').ownBlock = some q → q < wr.heap.size := hol
        have hi9 : ItsC (fun q => w.heap.size + 3 ≤ q ∧ (Value.slice As k cs').ownBlock ≠ some q ∧ q ≠ g9) w8 (n.l.take k) cs := (HITS7.out.fr hfn (fun q hq hm => by cases hm)).re (fun q hq hlt => ⟨hq.1, hq.2, fun e => by
          rcases hat9 with h | h
          · exact hq.2 (by rw [e]; exact h)
          · omega⟩) ⟨w.heap.size + 3 + g9 + wr.heap.size, by omega, fun e => by have := hol' _ e; omega, by omega⟩
        have hx9 : ItC (fun q => w.heap.size + 3 ≤ q ∧ (Value.slice As k cs').ownBlock ≠ some q ∧ q ≠ g9) w8 x kv vv (.int .i64 (x.at_ : Int)) := (HIC.out.re (D' := fun q => w.heap.size + 3 ≤ q ∧ (Value.slice As k cs').ownBlock ≠ some q ∧ q ≠ g9) (fun q (hq : wr.heap.size ≤ q) hlt => ⟨by omega, fun e => by have := hol' _ e; omega, fun e => by
          rcases hat9 with h | h
          · have := hol' _ h; omega
          · omega⟩) ⟨w.heap.size + 3 + g9 + wr.heap.size, by omega, fun e => by have := hol' _ e; omega, by omega⟩).fr hfn (fun q hq hm => by cases hm)
        refine wpAnyK_take (i := 8) (some 53) ?vq1_8 rfl rfl (by kernel_rfl) (fun _ _ _ h => h) ⟨hO9.at_ (i := 0) rfl, hO9.at_ (i := 2) rfl⟩ (.inl ⟨rfl, fun W hW => ?yq1_8⟩) ?_
        case yq1_8 => (obtain ⟨q0, q2⟩ := hW; go_simp) <;> with_reducible rfl
        simp only [nrm]
        refine wpAnyK_step (j := 9) none rfl rfl (by kernel_rfl) rfl fun K hK => ?_
        refine wp_run_skip (w' := w9.setCell ⟨w2.heap.size, 2, none⟩ (.slice (some ⟨g9, 0, none⟩) (k + 1) c9)) (by have o2 := hO9.at_ (i := 2) rfl; have of := hO9.free 2; go_simp) (hK _ _ (fun h => absurd h (by decide +kernel)) ?_)
        simp only [Act.put]
        refine wpAnyK_done (by kernel_rfl) ?_ _
        have hfs : Fr [w2.heap.size] w9 (w9.setCell ⟨w2.heap.size, 2, none⟩ (.slice (some ⟨g9, 0, none⟩) (k + 1) c9)) := (Fr.refl _ _).setCell (.inl (by simp)) _
        have hzf := F9.size
        have HX : Hid (ReadRel w w.heap.size (w.heap.size + 1) w2.heap.size g n r (.int .i64 ((k : Int) + 1)) (w9.setCell ⟨w2.heap.size, 2, none⟩ (.slice (some ⟨g9, 0, none⟩) (k + 1) c9))) := Lib.hid ⟨k + 1, .slice (some ⟨g9, 0, none⟩) (k + 1) c9, cs ++ [kv, vv, .int .i64 (x.at_ : Int)], hkn, by go_num,
          (((HB27.out.fr hfn (by simp)).fr F9 (fun hm => by have := hS9 _ hm; omega)).fr hfs (by simp; omega)), hO9.set_ 2 (.slice (some ⟨g9, 0, none⟩) (k + 1) c9),
          own_fr (own_base ho9 (fun q hq => by have : g9 = q := Option.some.inj hq; omega)) hfs (fun q hq hm => by have : g9 = q := Option.some.inj hq; have := List.mem_singleton.1 hm; omega), by
            rw [HTK.out]
            exact (((ItsC.append (l2 := [x]) (cs2 := [kv, vv, .int .i64 (x.at_ : Int)]) hi9 ⟨hx9, trivial⟩).fr F9 (fun q hq hm => absurd (by simpa using hm) hq.2.1)).fr hfs (fun q hq hm => by have := hq.1; have := List.mem_singleton.1 hm; omega)).weak (fun q hq => ⟨hq.1, fun e => hq.2.2 (Option.some.inj e).symm⟩),
          ((HR7.out.fr hfn (by simp) (by simp)).fr F9 (fun hm => by have := hS9 _ hm; omega) (fun hm => by have := hS9 _ hm; omega)).fr hfs (by simp; omega) (by simp; omega),
          ((HF7.out.trans hfn (by simp)).trans F9 (fun q hq => .inr (by have := hS9 q hq; omega))).trans hfs (fun q hq => .inr (by simp at hq; omega)), by simp [World.setCell]; omega⟩
        clear hK hfs hO9 F9 hS9 ho9 hg9 hbn hfn hsn hne hone hi9 hx9 hat9 hlt9
        generalize w9.setCell ⟨w2.heap.size, 2, none⟩ (.slice (some ⟨g9, 0, none⟩) (k + 1) c9) = w10 at *
        go_wp2_with fail
        go_roundw
        case rel => exact HX.out
        case measure => simp [intOf]; omega
      · obtain rfl : k = n.l.length := by omega
        have hz2 := HZ2.out
        rw [hz2] at c0 c1 c2
        have d0 := HB2W.out.at_ (i := 0) rfl
        have d1 := HB2W.out.at_ (i := 1) rfl
        have d2 := HB2W.out.at_ (i := 2) rfl
        have df := HB2W.out.free
        have dl := HB2W.out.lt
        have hfs : Fr [w.heap.size] wr ((((wr.setCell ⟨w.heap.size, 0, none⟩ (.int .i64 (kindOf n))).setCell ⟨w.heap.size, 1, none⟩ (.int .i64 (n.first : Int))).setCell ⟨w.heap.size, 2, none⟩ (.slice As n.l.length cs')).drew) := ((((Fr.refl [w.heap.size] wr).setCell (.inl (by simp)) _).setCell (.inl (by simp)) _).setCell (.inl (by simp)) _).drew
        have HBF : Hid (Blk ((((wr.setCell ⟨w.heap.size, 0, none⟩ (.int .i64 (kindOf n))).setCell ⟨w.heap.size, 1, none⟩ (.int .i64 (n.first : Int))).setCell ⟨w.heap.size, 2, none⟩ (.slice As n.l.length cs')).drew) w.heap.size 88 [.int .i64 (kindOf n), .int .i64 (n.first : Int), .slice As n.l.length cs']) := Lib.hid (((HB2W.out.set_ 0 (.int .i64 (kindOf n))).set_ 1 (.int .i64 (n.first : Int))).set_ 2 (.slice As n.l.length cs')).drew
        have HRES : Hid (∃ nv, Ending.returned (.tuple #[.agg #[.int .i64 (kindOf n), .int .i64 (n.first : Int), .slice As n.l.length cs'], .bool true]) = .returned (.tuple #[nv, .bool true]) ∧ NdV (fun q => w.heap.size ≤ q) ((((wr.setCell ⟨w.heap.size, 0, none⟩ (.int .i64 (kindOf n))).setCell ⟨w.heap.size, 1, none⟩ (.int .i64 (n.first : Int))).setCell ⟨w.heap.size, 2, none⟩ (.slice As n.l.length cs')).drew) w.heap.size nv n ∧ Fr [] w ((((wr.setCell ⟨w.heap.size, 0, none⟩ (.int .i64 (kindOf n))).setCell ⟨w.heap.size, 1, none⟩ (.int .i64 (n.first : Int))).setCell ⟨w.heap.size, 2, none⟩ (.slice As n.l.length cs')).drew)) := Lib.hid ⟨_, rfl, ⟨.slice As n.l.length cs', cs, rfl, own_base (own_fr HOWN.out hfs (fun q hq hm => by have := (HOWN.out.lt q hq).1; have := List.mem_singleton.1 hm; omega)) (fun q hq => by have := (HOWN.out.lt q hq).1; omega), by
          have h := HITS.out
          rw [List.take_of_length_le (Nat.le_refl _)] at h
          exact (h.fr hfs (fun q hq hm => by have := hq.1; have := List.mem_singleton.1 hm; omega)).weak (fun q hq => ⟨by have := hq.1; show w.heap.size ≤ q; omega, hq.2⟩), fun q hq => by have := (HOWN.out.lt q hq).1; show w.heap.size ≤ q; omega⟩, HFW.out.trans hfs (fun q hq => .inr (by have := List.mem_singleton.1 hq; omega))⟩
        clear hfs
        go_wp2_with fail
        go_region
        all_goals go_wp2_with fail
        all_goals exact bodyPost_ret (results_ct2 rfl rfl HBF.out Tryz.underlying88 rfl size_nd) rfl (HQ.out _ _ HRES.out)
  | false =>
    have hkn : kindOf n = 2 := by unfold kindOf; rw [hlf]; rfl
    rw [hkn] at k0
    go_wp2_with fail
    refine HO3.out.mono ?_
    rintro e w4 ⟨v4, rfl, hb4, hr4, hf4, hz4⟩
    have er : r16 ((b16 n.l.length ++ ((if n.lf then [] else b16 n.first) ++ (n.l.flatMap (ib n.lf) ++ r))).take 2) = n.l.length := by
      have := r16_b16 HOK.out.few []
      rwa [List.append_nil] at this
    have hh := half16_any hb4 (by rw [List.length_take, List.length_append]; show 2 ≤ min 2 (2 + _); omega)
    rw [er] at hh
    have HH := Lib.hid hh; have HF4 := Lib.hid hf4; have HZ4 := Lib.hid hz4; have HR4 := Lib.hid hr4
    clear hb4 hr4 hf4 hz4 er hh k0
    go_wp2_with fail
    refine HH.out.mono ?_
    rintro e w5 ⟨rfl, q5, hq5⟩
    have hf5 : Fr [w.heap.size + 1] w3 w5 := by rw [hq5]; exact HF4.out.drewN _
    have hb5 := HB3.out.fr hf5 (by have := HZ2.out; simp; omega)
    have k0 := hb5.at_ (i := 0) rfl
    rw [hkn] at k0
    have k1 := hb5.at_ (i := 1) rfl
    have k2 := hb5.at_ (i := 2) rfl
    have HB5 := Lib.hid hb5; have HF5 := Lib.hid hf5; have HQ5 := Lib.hid hq5
    clear hb5 hf5 hq5 HH
    go_wp2_with fail
    refine (leaf_any w5 2 _ _).mono ?_
    rintro e w6 ⟨rfl, hw6⟩
    have hf6 : Fr [] w5 w6 := by rw [hw6]; exact (Fr.refl [] w5).alloc _
    have hb56 := HB5.out.fr hf6 (by simp)
    have HR6 : Hid (Rd w6 (w.heap.size + 1) g (b16 n.first ++ (n.l.flatMap (ib n.lf) ++ r))) := Lib.hid (by
      have h0 : (b16 n.l.length ++ ((if n.lf then [] else b16 n.first) ++ (n.l.flatMap (ib n.lf) ++ r))).drop 2 = b16 n.first ++ (n.l.flatMap (ib n.lf) ++ r) := by rw [hlf]; rfl
      have h1 := HR4.out
      rw [h0] at h1
      have h2 : Fr [] w4 w5 := by rw [HQ5.out]; exact (Fr.refl [] w4).drewN _
      exact (h1.fr h2 (by simp) (by simp)).fr hf6 (by simp) (by simp))
    have HB26 := Lib.hid ((HB23.out.fr HF5.out (by simp)).fr hf6 (by simp))
    have HB56 := Lib.hid hb56
    have HF6 := Lib.hid ((HF3.out.trans HF5.out (by simp)).trans hf6 (by simp))
    have HZ6 : Hid (w.heap.size + 3 ≤ w6.heap.size) := Lib.hid (by have := HZ3.out; have := HF5.out.size; have := hf6.size; omega)
    have HO6 := Lib.hid (take_rd (k := 2) HR6.out (by rw [List.length_append]; show 2 ≤ 2 + _; omega) hgr)
    clear k0 k1 k2 hf6 hb56 hw6 HB5 HF5 HQ5 HF4 HZ4 HR4 HB3 HR3 HB23 HZ3 HF3 HO3 HR6
    go_wp2_with fail
    refine HO6.out.mono ?_
    rintro e w7 ⟨v7, rfl, hb7, hr7, hf7, hz7⟩
    have er7 : r16 ((b16 n.first ++ (n.l.flatMap (ib n.lf) ++ r)).take 2) = n.first := by
      have := r16_b16 HOK.out.first []
      rwa [List.append_nil] at this
    have hh7 := half16_any hb7 (by rw [List.length_take, List.length_append]; show 2 ≤ min 2 (2 + _); omega)
    rw [er7] at hh7
    have HH7 := Lib.hid hh7; have HF7 := Lib.hid hf7; have HR7 := Lib.hid hr7
    have hz7' : w.heap.size + 3 ≤ w7.heap.size := by have := HZ6.out; omega
    have HZ7 := Lib.hid hz7'
    clear hb7 hr7 hf7 hz7 hh7 hz7' HO6 HZ6
    go_wp2_with fail
    refine HH7.out.mono ?_
    rintro e w8 ⟨rfl, q8, hq8⟩
    have hf8' : Fr [] w7 w8 := by rw [hq8]; exact (Fr.refl [] w7).drewN _
    have hf8 : Fr [w.heap.size + 1] w6 w8 := HF7.out.trans hf8' (by simp)
    have hz8 := hf8'.size
    have hz7 := HZ7.out
    have hb8 := HB56.out.fr hf8 (by have := HZ2.out; simp; omega)
    have k81 := hb8.at_ (i := 1) rfl
    have kf8 := hb8.free
    have kl8 := hb8.lt
    have hs8 : Fr [w2.heap.size] w8 (w8.setCell ⟨w2.heap.size, 1, none⟩ (.int .i64 (n.first : Int))) := (Fr.refl _ _).setCell (.inl (by simp)) _
    have HB25 := Lib.hid ((HB26.out.fr hf8 (by simp)).fr hs8 (by have := HZ2.out; simp; omega))
    have HB55 : Hid (Blk (w8.setCell ⟨w2.heap.size, 1, none⟩ (.int .i64 (n.first : Int))) w2.heap.size 88 [.int .i64 (kindOf n), .int .i64 (n.first : Int), .slice none 0 0]) := Lib.hid (hb8.set_ 1 (.int .i64 (n.first : Int)))
    have HR5 : Hid (Rd (w8.setCell ⟨w2.heap.size, 1, none⟩ (.int .i64 (n.first : Int))) (w.heap.size + 1) g ((n.l.drop 0).flatMap (ib n.lf) ++ r)) := Lib.hid (by
      have h0 : (b16 n.first ++ (n.l.flatMap (ib n.lf) ++ r)).drop 2 = n.l.flatMap (ib n.lf) ++ r := rfl
      have h1 := HR7.out
      rw [h0] at h1
      exact (h1.fr hf8' (by simp) (by simp)).fr hs8 (by have := HZ2.out; simp; omega) (by have := HZ2.out; simp; omega))
    have HF5' : Hid (Fr [] w (w8.setCell ⟨w2.heap.size, 1, none⟩ (.int .i64 (n.first : Int)))) := Lib.hid (((HF6.out.trans hf8 (by simp)).mono (fun x hx => .inr (by simp at hx; omega))).trans hs8 (fun x hx => .inr (by have := HZ2.out; simp at hx; omega)))
    have HZ5 : Hid (w.heap.size + 3 ≤ (w8.setCell ⟨w2.heap.size, 1, none⟩ (.int .i64 (n.first : Int))).heap.size) := Lib.hid (by simp [World.setCell]; omega)
    have HLF := Lib.hid hlf
    clear hf8' hf8 hb8 hs8 HB26 HB56 HF6 HR7 HF7 HZ7 HH7 hq8 hkn hlf
    go_wp2_with fail
    clear k81 kf8 kl8
    generalize w8.setCell ⟨w2.heap.size, 1, none⟩ (.int .i64 (n.first : Int)) = w9' at *
    go_loopw [7] (fun v wr => ReadRel w w.heap.size (w.heap.size + 1) w2.heap.size g n r v wr) (fun v _ => n.l.length - (intOf v).toNat)
    case atStart => exact ⟨0, .slice none 0 0, [], Nat.zero_le _, rfl, HB25.out, HB55.out, own_nil _ _ _ _, trivial, HR5.out, HF5'.out, HZ5.out⟩
    case round =>
      obtain ⟨k, sv, cs, hk, rfl, hb2, hb5, hown, hits, hrd, hfw, hzw⟩ := hrel
      clear HB25 HB55 HR5 HF5' HZ5
      have c0 := hb5.at_ (i := 0) rfl
      have c1 := hb5.at_ (i := 1) rfl
      have c2 := hb5.at_ (i := 2) rfl
      have r1 : wr.cell? ⟨w.heap.size + 1, 1, none⟩ = some (.bool false) := by obtain ⟨_, _, hb, _⟩ := id hrd; exact hb.at_ (i := 1) rfl
      obtain ⟨As, cs', rfl, hsn, hsc⟩ := own_shape hown
      have HB2W := Lib.hid hb2; have HB5W := Lib.hid hb5; have HOWN := Lib.hid hown; have HITS := Lib.hid hits; have HRD := Lib.hid hrd; have HFW := Lib.hid hfw
      have hnl := HOK.out.few
      have hcmp : (((k : Nat) : Int) < (n.l.length : Int)) ↔ k < n.l.length := by omega
      clear hb2 hb5 hown hits hrd hfw
      by_cases hkn : k < n.l.length
      · obtain ⟨x, hx⟩ : ∃ x, n.l[k]? = some x := ⟨_, List.getElem?_eq_getElem hkn⟩
        have hxo := HOK.out.item x (List.mem_of_getElem? hx)
        have hdrop : n.l.drop k = x :: n.l.drop (k + 1) := by
          obtain ⟨h1, h2⟩ := List.getElem?_eq_some_iff.1 hx
          rw [List.drop_eq_getElem_cons h1, h2]
        have htake : n.l.take (k + 1) = n.l.take k ++ [x] := by
          obtain ⟨h1, h2⟩ := List.getElem?_eq_some_iff.1 hx
          rw [List.take_succ_eq_append_getElem h1, h2]
        have hrd' := HRD.out.fr ((Fr.refl [] wr).drew) (by simp) (by simp)
        rw [hdrop, List.flatMap_cons, List.append_assoc] at hrd'
        have HI := Lib.hid (item_rd hrd' hxo hgr (by show g < wr.heap.size; omega))
        have HTK := Lib.hid htake
        clear hx hdrop htake hrd' hxo
        go_wp2_with fail
        refine wp_region_K (fun W => W.cell? ⟨w2.heap.size, 0, none⟩ = some (.int .i64 (kindOf n)) ∧ W.cell? ⟨w2.heap.size, 2, none⟩ = some (.slice As k cs')) [0, 1, 2, 3, 4, 8] (by kernel_rfl) ?_
        refine wpAnyK_take (i := 0) (some 45) ?vq2_0 rfl rfl (by kernel_rfl) (fun _ _ _ h => h) ⟨c0, c2⟩ (.inl ⟨rfl, fun W hW => ?yq2_0⟩) ?_
        case yq2_0 => (obtain ⟨q0, q2⟩ := hW; go_simp) <;> with_reducible rfl
        simp only [nrm]
        refine wpAnyK_take (i := 1) (some 46) ?vq2_1 rfl rfl (by kernel_rfl) (fun _ _ _ h => h) ⟨c0, c2⟩ (.inl ⟨rfl, fun W hW => ?yq2_1⟩) ?_
        case yq2_1 => (obtain ⟨q0, q2⟩ := hW; go_simp) <;> with_reducible rfl
        simp only [nrm]
        refine wpAnyK_take (i := 2) (some 47) ?vq2_2 rfl rfl (by kernel_rfl) (fun _ _ _ h => h) ⟨c0, c2⟩ (.inl ⟨rfl, fun W hW => ?yq2_2⟩) ?_
        case yq2_2 => (obtain ⟨q0, q2⟩ := hW; go_simp) <;> with_reducible rfl
        simp only [nrm]
        refine wpAnyK_take (i := 3) (some 48) ?vq2_3 rfl rfl (by kernel_rfl) (fun _ _ _ h => h) ⟨c0, c2⟩ (.inl ⟨rfl, fun W hW => ?yq2_3⟩) ?_
        case yq2_3 => (obtain ⟨q0, q2⟩ := hW; go_simp) <;> with_reducible rfl
        simp only [nrm]
        refine wpAnyK_take (i := 4) (some 49) ?vq2_4 rfl rfl (by kernel_rfl) (fun _ _ _ h => h) ⟨c0, c2⟩ (.inl ⟨rfl, fun W hW => ?yq2_4⟩) ?_
        case yq2_4 => (obtain ⟨q0, q2⟩ := hW; go_simp) <;> with_reducible rfl
        simp only [nrm]
        refine wpAnyK_step (j := 5) (some 50) rfl rfl (by kernel_rfl) rfl fun K hK => ?_
        refine wp_call_f (l := [.tmp 47, .tmp 49]) rfl [.pointer (some ⟨w.heap.size + 1, 0, none⟩), .int .i64 (kindOf n)] rfl (enter_item _) (HI.out.mono ?_)
        rintro e w7 ⟨kv, vv, rfl, hic, hr7, hf7⟩
        have hf7' : Fr [w.heap.size + 1] wr w7 := ((Fr.refl [w.heap.size + 1] wr).drew).trans hf7 (by simp)
        have hlx := HOWN.out
        have hol := own_lt HOWN.out
        have hoge : ∀ q, (Value.slice As k cs').ownBlock = some q → w.heap.size + 3 ≤ q := fun q hq => (HOWN.out.lt q hq).1
        have hz2 : w.heap.size + 1 < w2.heap.size ∧ w2.heap.size < w.heap.size + 3 := by have := HZ2.out; omega
        have hB57 := HB5W.out.fr hf7' (by simp; omega)
        have hB27 := HB2W.out.fr hf7' (by simp)
        have HOWN7 := Lib.hid (own_fr HOWN.out hf7' (fun q hq => by have := hoge q hq; simp; omega))
        have HITS7 := Lib.hid (HITS.out.fr hf7' (fun q hq hm => by have := hq.1; have := List.mem_singleton.1 hm; omega))
        have HR7 := Lib.hid hr7
        have HF7 := Lib.hid (HFW.out.trans hf7' (fun x hx => .inr (by simp at hx; omega)))
        have hz7 := hf7'.size
        have HIC := Lib.hid hic
        have HB57 := Lib.hid hB57; have HB27 := Lib.hid hB27
        have hone := hic.one
        refine ⟨_, rfl, hK _ _ (fun _ => ⟨hB57.at_ (i := 0) rfl, hB57.at_ (i := 2) rfl⟩) ?_⟩
        simp only [nrm]
        clear hr7 hf7 hf7' hB57 hB27 hK hic hlx
        refine wpAnyK_step (j := 6) (some 51) rfl rfl (by kernel_rfl) rfl fun K hK => ?_
        obtain ⟨ti, hti, hz', hsz', hby⟩ := info_get info_it
        refine wp_build_one (.tmp 50) rfl Tryz.underlying86 hti hz' [kv, vv, .int .i64 (x.at_ : Int)] rfl hsz' rfl (by simp) (by simp) (hK _ _ (fun _ => ⟨(HB57.out.alloc _).at_ (i := 0) rfl, (HB57.out.alloc _).at_ (i := 2) rfl⟩) ?_)
        simp only [nrm]
        clear hK
        have hbn := Blk.new w7 77 [kv, vv, .int .i64 (x.at_ : Int)]
        have hfn : Fr [] w7 (w7.alloc (.cells [kv, vv, .int .i64 (x.at_ : Int)].toArray 77)) := (Fr.refl [] w7).alloc _
        have hsn : (w7.alloc (.cells [kv, vv, .int .i64 (x.at_ : Int)].toArray 77)).heap.size = w7.heap.size + 1 := by simp
        generalize w7.alloc (.cells [kv, vv, .int .i64 (x.at_ : Int)].toArray 77) = w8 at *
        have hne : (Value.slice As k cs').ownBlock ≠ some w2.heap.size := fun e => by have := hoge _ e; omega
        refine wpAnyK_step (j := 7) (some 52) rfl rfl (by kernel_rfl) rfl fun K hK => ?_
        refine wp_append_fr (.tmp 46) (.tmp 51) rfl 77 3 56 Tryz.underlying86 hti hz' hsz' hby rfl (by omega) (.slice As k cs') k cs rfl (own_base (own_fr HOWN7.out hfn (by simp)) (fun _ _ => Nat.zero_le _)) ⟨w7.heap.size, 0, none⟩ 1 1 [kv, vv, .int .i64 (x.at_ : Int)] rfl rfl (fun j u hu => by rw [Addr.add_mid, Nat.zero_add]; exact hbn.at_ hu) hone (by omega) (by unfold maxLen; omega) (by omega) (w7.heap.size + 1) hsn fun g9 c9 w9 ho9 F9 hat9 hlt9 => hK _ _ (fun _ => ⟨((HB57.out.fr hfn (by simp)).fr F9 (by simpa using hne)).at_ (i := 0) rfl, ((HB57.out.fr hfn (by simp)).fr F9 (by simpa using hne)).at_ (i := 2) rfl⟩) ?_
        simp only [nrm]
        clear hK
        have hS9 : ∀ q, q ∈ (Value.slice As k cs').ownBlock.toList → w.heap.size + 3 ≤ q := fun q hq => hoge q (by simpa using hq)
        have hO9 := (HB57.out.fr hfn (by simp)).fr F9 (fun hm => by have := hS9 _ hm; omega)
        have hg9 : w.heap.size + 3 ≤ g9 := by
          rcases hat9 with h | h
          · exact hoge _ h
          · omega
        have hol' : ∀ q, (Value.slice As k cs').ownBlock = some q → q < wr.heap.size := hol
        have hi9 : ItsC (fun q => w.heap.size + 3 ≤ q ∧ (Value.slice As k cs').ownBlock ≠ some q ∧ q ≠ g9) w8 (n.l.take k) cs := (HITS7.out.fr hfn (fun q hq hm => by cases hm)).re (fun q hq hlt => ⟨hq.1, hq.2, fun e => by
          rcases hat9 with h | h
          · exact hq.2 (by rw [e]; exact h)
          · omega⟩) ⟨w.heap.size + 3 + g9 + wr.heap.size, by omega, fun e => by have := hol' _ e; omega, by omega⟩
        have hx9 : ItC (fun q => w.heap.size + 3 ≤ q ∧ (Value.slice As k cs').ownBlock ≠ some q ∧ q ≠ g9) w8 x kv vv (.int .i64 (x.at_ : Int)) := (HIC.out.re (D' := fun q => w.heap.size + 3 ≤ q ∧ (Value.slice As k cs').ownBlock ≠ some q ∧ q ≠ g9) (fun q (hq : wr.heap.size ≤ q) hlt => ⟨by omega, fun e => by have := hol' _ e; omega, fun e => by
          rcases hat9 with h | h
          · have := hol' _ h; omega
          · omega⟩) ⟨w.heap.size + 3 + g9 + wr.heap.size, by omega, fun e => by have := hol' _ e; omega, by omega⟩).fr hfn (fun q hq hm => by cases hm)
        refine wpAnyK_take (i := 8) (some 53) ?vq2_8 rfl rfl (by kernel_rfl) (fun _ _ _ h => h) ⟨hO9.at_ (i := 0) rfl, hO9.at_ (i := 2) rfl⟩ (.inl ⟨rfl, fun W hW => ?yq2_8⟩) ?_
        case yq2_8 => (obtain ⟨q0, q2⟩ := hW; go_simp) <;> with_reducible rfl
        simp only [nrm]
        refine wpAnyK_step (j := 9) none rfl rfl (by kernel_rfl) rfl fun K hK => ?_
        refine wp_run_skip (w' := w9.setCell ⟨w2.heap.size, 2, none⟩ (.slice (some ⟨g9, 0, none⟩) (k + 1) c9)) (by have o2 := hO9.at_ (i := 2) rfl; have of := hO9.free 2; go_simp) (hK _ _ (fun h => absurd h (by decide +kernel)) ?_)
        simp only [Act.put]
        refine wpAnyK_done (by kernel_rfl) ?_ _
        have hfs : Fr [w2.heap.size] w9 (w9.setCell ⟨w2.heap.size, 2, none⟩ (.slice (some ⟨g9, 0, none⟩) (k + 1) c9)) := (Fr.refl _ _).setCell (.inl (by simp)) _
        have hzf := F9.size
        have HX : Hid (ReadRel w w.heap.size (w.heap.size + 1) w2.heap.size g n r (.int .i64 ((k : Int) + 1)) (w9.setCell ⟨w2.heap.size, 2, none⟩ (.slice (some ⟨g9, 0, none⟩) (k + 1) c9))) := Lib.hid ⟨k + 1, .slice (some ⟨g9, 0, none⟩) (k + 1) c9, cs ++ [kv, vv, .int .i64 (x.at_ : Int)], hkn, by go_num,
          (((HB27.out.fr hfn (by simp)).fr F9 (fun hm => by have := hS9 _ hm; omega)).fr hfs (by simp; omega)), hO9.set_ 2 (.slice (some ⟨g9, 0, none⟩) (k + 1) c9),
          own_fr (own_base ho9 (fun q hq => by have : g9 = q := Option.some.inj hq; omega)) hfs (fun q hq hm => by have : g9 = q := Option.some.inj hq; have := List.mem_singleton.1 hm; omega), by
            rw [HTK.out]
            exact (((ItsC.append (l2 := [x]) (cs2 := [kv, vv, .int .i64 (x.at_ : Int)]) hi9 ⟨hx9, trivial⟩).fr F9 (fun q hq hm => absurd (by simpa using hm) hq.2.1)).fr hfs (fun q hq hm => by have := hq.1; have := List.mem_singleton.1 hm; omega)).weak (fun q hq => ⟨hq.1, fun e => hq.2.2 (Option.some.inj e).symm⟩),
          ((HR7.out.fr hfn (by simp) (by simp)).fr F9 (fun hm => by have := hS9 _ hm; omega) (fun hm => by have := hS9 _ hm; omega)).fr hfs (by simp; omega) (by simp; omega),
          ((HF7.out.trans hfn (by simp)).trans F9 (fun q hq => .inr (by have := hS9 q hq; omega))).trans hfs (fun q hq => .inr (by simp at hq; omega)), by simp [World.setCell]; omega⟩
        clear hK hfs hO9 F9 hS9 ho9 hg9 hbn hfn hsn hne hone hi9 hx9 hat9 hlt9
        generalize w9.setCell ⟨w2.heap.size, 2, none⟩ (.slice (some ⟨g9, 0, none⟩) (k + 1) c9) = w10 at *
        go_wp2_with fail
        go_roundw
        case rel => exact HX.out
        case measure => simp [intOf]; omega
      · obtain rfl : k = n.l.length := by omega
        have hz2 := HZ2.out
        rw [hz2] at c0 c1 c2
        have d0 := HB2W.out.at_ (i := 0) rfl
        have d1 := HB2W.out.at_ (i := 1) rfl
        have d2 := HB2W.out.at_ (i := 2) rfl
        have df := HB2W.out.free
        have dl := HB2W.out.lt
        have hfs : Fr [w.heap.size] wr ((((wr.setCell ⟨w.heap.size, 0, none⟩ (.int .i64 (kindOf n))).setCell ⟨w.heap.size, 1, none⟩ (.int .i64 (n.first : Int))).setCell ⟨w.heap.size, 2, none⟩ (.slice As n.l.length cs')).drew) := ((((Fr.refl [w.heap.size] wr).setCell (.inl (by simp)) _).setCell (.inl (by simp)) _).setCell (.inl (by simp)) _).drew
        have HBF : Hid (Blk ((((wr.setCell ⟨w.heap.size, 0, none⟩ (.int .i64 (kindOf n))).setCell ⟨w.heap.size, 1, none⟩ (.int .i64 (n.first : Int))).setCell ⟨w.heap.size, 2, none⟩ (.slice As n.l.length cs')).drew) w.heap.size 88 [.int .i64 (kindOf n), .int .i64 (n.first : Int), .slice As n.l.length cs']) := Lib.hid (((HB2W.out.set_ 0 (.int .i64 (kindOf n))).set_ 1 (.int .i64 (n.first : Int))).set_ 2 (.slice As n.l.length cs')).drew
        have HRES : Hid (∃ nv, Ending.returned (.tuple #[.agg #[.int .i64 (kindOf n), .int .i64 (n.first : Int), .slice As n.l.length cs'], .bool true]) = .returned (.tuple #[nv, .bool true]) ∧ NdV (fun q => w.heap.size ≤ q) ((((wr.setCell ⟨w.heap.size, 0, none⟩ (.int .i64 (kindOf n))).setCell ⟨w.heap.size, 1, none⟩ (.int .i64 (n.first : Int))).setCell ⟨w.heap.size, 2, none⟩ (.slice As n.l.length cs')).drew) w.heap.size nv n ∧ Fr [] w ((((wr.setCell ⟨w.heap.size, 0, none⟩ (.int .i64 (kindOf n))).setCell ⟨w.heap.size, 1, none⟩ (.int .i64 (n.first : Int))).setCell ⟨w.heap.size, 2, none⟩ (.slice As n.l.length cs')).drew)) := Lib.hid ⟨_, rfl, ⟨.slice As n.l.length cs', cs, rfl, own_base (own_fr HOWN.out hfs (fun q hq hm => by have := (HOWN.out.lt q hq).1; have := List.mem_singleton.1 hm; omega)) (fun q hq => by have := (HOWN.out.lt q hq).1; omega), by
          have h := HITS.out
          rw [List.take_of_length_le (Nat.le_refl _)] at h
          exact (h.fr hfs (fun q hq hm => by have := hq.1; have := List.mem_singleton.1 hm; omega)).weak (fun q hq => ⟨by have := hq.1; show w.heap.size ≤ q; omega, hq.2⟩), fun q hq => by have := (HOWN.out.lt q hq).1; show w.heap.size ≤ q; omega⟩, HFW.out.trans hfs (fun q hq => .inr (by have := List.mem_singleton.1 hq; omega))⟩
        clear hfs
        go_wp2_with fail
        go_region
        all_goals go_wp2_with fail
        all_goals exact bodyPost_ret (results_ct2 rfl rfl HBF.out Tryz.underlying88 rfl size_nd) rfl (HQ.out _ _ HRES.out)
end Go.Proofs.YtpjbdpepofnleaaGreat
end
section
namespace Go.Proofs.YtpjbdpepofnleaaGreat
open Go.RowKit Go.Sort Go.Shelf
theorem NdV.parts {D : Nat → Prop} {w : World} {base : Nat} {v : Value} {n : Nd} (h : NdV D w base v n) :
    ∃ A c cs, v = .agg #[.int .i64 (kindOf n), .int .i64 (n.first : Int), .slice A n.l.length c] ∧ n.l.length ≤ c ∧ w.ownsRow base 77 3 (.slice A n.l.length c) n.l.length cs ∧ ItsC D w n.l cs ∧ (0 < n.l.length → ∃ g, A = some ⟨g, 0, none⟩ ∧ ∀ (j : Nat) (u : Value), cs[j]? = some u → w.cell? ⟨g, j, none⟩ = some u) := by
  obtain ⟨sv, cs, rfl, h2, h3, h4⟩ := h
  obtain ⟨A, c, rfl, h5, _⟩ := own_shape h2
  exact ⟨A, c, cs, rfl, h5, h2, h3.weak fun q hq => hq.1, fun h0 => own_cell h2 h0⟩
theorem chOf_last (c : Nat) : ∀ (A : List It) (y : It), chOf c (A ++ [y]) = y.at_
  | [], _ => rfl
  | x :: A, y => chOf_last x.at_ A y
set_option maxRecDepth 100000 in
set_option maxHeartbeats 1000000 in
/-- A node's child. -/
theorem child_nd {D : Nat → Prop} {w : World} {base k : Nat} {v : Value} {n : Nd} (h : NdV D w base v n) (hk : k ≤ n.l.length) (hfew : n.l.length ≤ 65536) :
    Calls Tryz.prog 74 #[v, .int .i64 (k : Int)] w fun e w' => e = .returned (.int .i64 ((n.child k : Nat) : Int)) ∧ Fr [] w w' := by
  obtain ⟨A, c, cs, rfl, hc, hown, hits, hcell⟩ := h.parts
  clear h
  by_cases h0 : k = 0
  · subst h0
    have e : n.child 0 = n.first := rfl
    rw [e]
    clear hown hits hcell
    go_enter Tryz.func74, Tryz.ntmps74
    go_wp2
    go_ret
    exact ⟨rfl, (Fr.refl [] w).alloc _⟩
  · obtain ⟨m, rfl⟩ : ∃ m, k = m + 1 := ⟨k - 1, by omega⟩
    obtain ⟨x, hx⟩ : ∃ x, n.l[m]? = some x := ⟨_, List.getElem?_eq_getElem (by omega)⟩
    obtain ⟨kv, vv, av, c0, c1, c2, hic⟩ := hits.at_ hx
    obtain ⟨g, rfl, hcg⟩ := hcell (by omega)
    have hav := hic.2.2
    subst hav
    have k2 := fr_keep ((Fr.refl [] w).alloc (.cells #[.int .i64 (kindOf n), .int .i64 (n.first : Int), .slice (some ⟨g, 0, none⟩) n.l.length c] 88)) (hcg _ _ c2)
    have e : n.child (m + 1) = x.at_ := by
      unfold Nd.child
      obtain ⟨h1, h2⟩ := List.getElem?_eq_some_iff.1 hx
      rw [List.take_succ_eq_append_getElem h1, h2, chOf_last]
    rw [e]
    have hz1 : (m : Int) + 1 - 1 = (m : Int) := by omega
    have hz2 : (m : Int) < (n.l.length : Int) := by omega
    have hz3 : ¬ ((m : Int) + 1 = 0) := by omega
    have hw : IntKind.i64.wrap ((m : Int) + 1 - 1) = (m : Int) := by rw [IntKind.wrap_i64]; omega
    clear hown hits hcell hcg c0 c1 c2 hic hx e
    go_enter Tryz.func74, Tryz.ntmps74
    go_wp2
    go_ret
    exact ⟨rfl, (Fr.refl [] w).alloc _⟩
theorem count_while {f : It → Bool} : ∀ {l : List It}, l.Pairwise (fun x y => f x = true → f y = true) → (List.range l.length).countP (fun i => !((l[i]?).map f).getD false) = (l.takeWhile fun x => !f x).length
  | [], _ => rfl
  | x :: l, h => by
    obtain ⟨h1, h2⟩ := List.pairwise_cons.1 h
    have ih := count_while h2
    rw [List.length_cons, List.range_succ_eq_map, List.countP_cons, List.countP_map]
    have e : ((fun i => !(((x :: l)[i]?).map f).getD false) ∘ Nat.succ) = fun i => !((l[i]?).map f).getD false := rfl
    rw [e, ih]
    cases hx : f x with
    | false =>
      rw [List.takeWhile_cons_of_pos (by simp [hx])]
      simp [hx]
    | true =>
      rw [List.takeWhile_cons_of_neg (by simp [hx])]
      have h0 : l.takeWhile (fun x => !f x) = [] := by
        cases l with
        | nil => rfl
        | cons y l => rw [List.takeWhile_cons_of_neg (by simp [h1 y (List.mem_cons_self ..) hx])]
      rw [h0]
      simp [hx]
theorem cmp_pos (a b : Ky) : (decide (0 < Lib.compareBytes a b)) = decide (klt b a) := by
  have e : klt b a ↔ 0 < Lib.compareBytes a b := by have := cmp_anti a b; unfold klt; omega
  rw [Bool.eq_iff_iff, decide_eq_true_iff, decide_eq_true_iff]
  exact e.symm
theorem cmp_nonneg (a b : Ky) : (decide (0 ≤ Lib.compareBytes a b)) = !decide (klt a b) := by
  have e : klt a b ↔ ¬ 0 ≤ Lib.compareBytes a b := by unfold klt; omega
  rw [Bool.eq_iff_iff, decide_eq_true_iff, Bool.not_eq_true', decide_eq_false_iff_not, e, Classical.not_not]
set_option maxRecDepth 100000 in
set_option maxHeartbeats 1000000 in
theorem way_clos {w : World} {bn bk g i n c gk gi : Nat} {kv iv : Value} {key ik : Ky} (h2 : w.cell? ⟨bn, 2, none⟩ = some (.slice (some ⟨g, 0, none⟩) n c)) (hk : w.cell? ⟨bk, 0, none⟩ = some kv) (hkb : BytesAt w kv key gk)
    (hi : w.cell? ⟨g, i * 3, none⟩ = some iv) (hib : BytesAt w iv ik gi) (hin : i < n) (_hn : n ≤ 65536) :
    Calls Tryz.prog 104 (#[.int .i64 (i : Int)] ++ #[.pointer (some ⟨bn, 0, none⟩), .pointer (some ⟨bk, 0, none⟩)]) w fun e w' => e = .returned (.bool (decide (klt key ik))) ∧ ∃ q, w' = w.drewN q := by
  have r1 : Hid (∀ nq, Calls Tryz.prog 78 #[iv, kv] (w.drewN nq) fun e w' => e = .returned (.int .i64 (Lib.compareBytes ik key)) ∧ ∃ m, w' = w.drewN m) := Lib.hid fun nq => Calls.quiet_of_same (by
    have h := bytes_compare (hib.fr ((Fr.refl [] w).drewN nq) (by simp)) (hkb.fr ((Fr.refl [] w).drewN nq) (by simp))
    exact h.mono fun e w' ⟨h1, h2⟩ => ⟨h1, h2.symm⟩)
  have hcp := cmp_pos ik key
  have HCP := Lib.hid hcp
  obtain ⟨Ak, ck, ok, rfl, _, _⟩ := hkb
  obtain ⟨Ai, ci, oi, rfl, _, _⟩ := hib
  generalize Lib.compareBytes ik key = cb at *
  have hz : (i : Int) < (n : Int) := by omega
  clear hcp
  go_enter Tryz.func104, Tryz.ntmps104
  go_wp2
  go_quiet (first | with_reducible exact r1.out _)
  go_wp2
  go_ret
  exact ⟨by rw [← HCP.out]; rfl, _, rfl⟩
end Go.Proofs.YtpjbdpepofnleaaGreat
end
section
namespace Go.Proofs.YtpjbdpepofnleaaGreat
open Go.RowKit Go.Sort Go.Shelf
def KRise (l : List It) : Prop := l.Pairwise fun x y => klt x.key y.key
theorem enter_way1 (vs : Array Value) (w : World) : (callFunc 104 vs).run Tryz.prog w = .ok (.enter 104 vs) w := by kernel_rfl
theorem enter_place1 (vs : Array Value) (w : World) : (callFunc 77 vs).run Tryz.prog w = .ok (.enter 77 vs) w := by kernel_rfl
theorem mono_of {f : It → Bool} {l : List It} (h : l.Pairwise (fun x y => f x = true → f y = true)) : ∀ a b, a ≤ b → b < l.length → ((l[a]?).map f).getD false = true → ((l[b]?).map f).getD false = true := by
  intro a b hab hb ha
  rcases Nat.lt_or_eq_of_le hab with hlt | rfl
  · have h1 := List.pairwise_iff_getElem.1 h a b (by omega) hb hlt
    rw [List.getElem?_eq_getElem (by omega)] at ha
    rw [List.getElem?_eq_getElem hb]
    exact h1 ha
  · exact ha
set_option maxRecDepth 100000 in
set_option maxHeartbeats 1000000 in
/-- Which child a key belongs to. -/
theorem way_nd {D : Nat → Prop} {w : World} {base gk : Nat} {v kv : Value} {n : Nd} {key : Ky} (h : NdV D w base v n) (hkb : BytesAt w kv key gk) (hs : KRise n.l) (hfew : n.l.length ≤ 65536) :
    Calls Tryz.prog 73 #[v, kv] w fun e w' => e = .returned (.int .i64 ((n.way key : Nat) : Int)) ∧ Fr [] w w' := by
  obtain ⟨A, c, cs, rfl, hc, hown, hits, hcell⟩ := h.parts
  clear h
  obtain ⟨wb, hwb⟩ : ∃ wb, wb = (w.alloc (.cells #[.int .i64 (kindOf n), .int .i64 (n.first : Int), .slice A n.l.length c] 88)).alloc (.cells #[kv] 23) := ⟨_, rfl⟩
  have hf0 : Fr [] w wb := by rw [hwb]; exact ((Fr.refl [] w).alloc _).alloc _
  have b1 : Blk wb w.heap.size 88 [.int .i64 (kindOf n), .int .i64 (n.first : Int), .slice A n.l.length c] := by
    rw [hwb]; exact (Blk.new w _ [.int .i64 (kindOf n), .int .i64 (n.first : Int), .slice A n.l.length c]).alloc _
  have b2 : Blk wb (w.heap.size + 1) 23 [kv] := by
    rw [hwb]
    have := Blk.new (w.alloc (.cells #[.int .i64 (kindOf n), .int .i64 (n.first : Int), .slice A n.l.length c] 88)) 23 [kv]
    rwa [World.size_alloc] at this
  have hsr := search_fr (w := wb) (g := 104) (cb := #[.pointer (some ⟨w.heap.size, 0, none⟩), .pointer (some ⟨w.heap.size + 1, 0, none⟩)]) (n := n.l.length) (fun i => ((n.l[i]?).map fun x => decide (klt key x.key)).getD false) enter_way1 hfew
    (fun w' hf i hi => by
      obtain ⟨x, hx⟩ : ∃ x, n.l[i]? = some x := ⟨_, List.getElem?_eq_getElem hi⟩
      obtain ⟨ikv, ivv, iav, c0, c1, c2, hic⟩ := hits.at_ hx
      obtain ⟨g, rfl, hcg⟩ := hcell (by omega)
      obtain ⟨gi, hgi, _⟩ := hic.1
      rw [hx]
      exact way_clos (b1.fr hf (by simp) |>.at_ (i := 2) rfl) ((b2.fr hf (by simp)).at_ (i := 0) rfl) ((hkb.fr hf0 (by simp)).fr hf (by simp)) (fr_keep (hf0.trans hf (by simp)) (hcg _ _ c0)) ((hgi.fr hf0 (by simp)).fr hf (by simp)) hi hfew)
    (mono_of (hs.imp fun {x y} hxy hx => by
      rw [decide_eq_true_iff] at hx ⊢
      exact klt_trans hx hxy))
  rw [count_while (f := fun x => decide (klt key x.key)) (hs.imp fun {x y} hxy hx => by
      rw [decide_eq_true_iff] at hx ⊢
      exact klt_trans hx hxy)] at hsr
  have HS := Lib.hid hsr; have HF := Lib.hid hf0
  have e : (n.l.takeWhile fun x => !decide (klt key x.key)).length = n.way key := rfl
  rw [← e]
  clear hsr hf0 b1 b2 hits hown hcell e
  obtain ⟨Ak, ck, ok, rfl, _, _⟩ := hkb
  go_enter Tryz.func73, Tryz.ntmps73
  go_wp2_with fail
  rw [← hwb]
  refine HS.out.mono ?_
  rintro e w' ⟨rfl, hf⟩
  have HF' := Lib.hid (HF.out.trans hf (by simp))
  clear hf HS HF
  go_wp2
  go_ret
  exact ⟨rfl, HF'.out⟩
set_option maxRecDepth 100000 in
set_option maxHeartbeats 1000000 in
theorem place_clos {w : World} {bn bk g i n c gk gi : Nat} {kv iv : Value} {key ik : Ky} (h2 : w.cell? ⟨bn, 2, none⟩ = some (.slice (some ⟨g, 0, none⟩) n c)) (hk : w.cell? ⟨bk, 0, none⟩ = some kv) (hkb : BytesAt w kv key gk)
    (hi : w.cell? ⟨g, i * 3, none⟩ = some iv) (hib : BytesAt w iv ik gi) (hin : i < n) (_hn : n ≤ 65536) :
    Calls Tryz.prog 77 (#[.int .i64 (i : Int)] ++ #[.pointer (some ⟨bn, 0, none⟩), .pointer (some ⟨bk, 0, none⟩)]) w fun e w' => e = .returned (.bool (!decide (klt ik key))) ∧ ∃ q, w' = w.drewN q := by
  have r1 : Hid (∀ nq, Calls Tryz.prog 78 #[iv, kv] (w.drewN nq) fun e w' => e = .returned (.int .i64 (Lib.compareBytes ik key)) ∧ ∃ m, w' = w.drewN m) := Lib.hid fun nq => Calls.quiet_of_same (by
    have h := bytes_compare (hib.fr ((Fr.refl [] w).drewN nq) (by simp)) (hkb.fr ((Fr.refl [] w).drewN nq) (by simp))
    exact h.mono fun e w' ⟨h1, h2⟩ => ⟨h1, h2.symm⟩)
  have HCP := Lib.hid (cmp_nonneg ik key)
  obtain ⟨Ak, ck, ok, rfl, _, _⟩ := hkb
  obtain ⟨Ai, ci, oi, rfl, _, _⟩ := hib
  generalize Lib.compareBytes ik key = cb at *
  have hz : (i : Int) < (n : Int) := by omega
  go_enter Tryz.func77, Tryz.ntmps77
  go_wp2
  go_quiet (first | with_reducible exact r1.out _)
  go_wp2
  go_ret
  exact ⟨by rw [← HCP.out]; rfl, _, rfl⟩
theorem place_head {l : List It} {key : Ky} : placeOf l key < l.length ∧ (∃ x, l[placeOf l key]? = some x ∧ isAt l key = decide (x.key = key)) ∨ placeOf l key = l.length ∧ isAt l key = false := by
  unfold placeOf isAt
  have h := List.takeWhile_append_dropWhile (p := fun y => decide (klt y.key key)) (l := l)
  generalize l.takeWhile (fun y => decide (klt y.key key)) = A at *
  generalize l.dropWhile (fun y => decide (klt y.key key)) = B at *
  subst h
  cases B with
  | nil => exact .inr ⟨by simp, rfl⟩
  | cons y B => exact .inl ⟨by simp, y, by simp, rfl⟩
set_option maxRecDepth 100000 in
set_option maxHeartbeats 1000000 in
/-- Where a key is, or would be. -/
theorem place_nd {D : Nat → Prop} {w : World} {base gk : Nat} {v kv : Value} {n : Nd} {key : Ky} (h : NdV D w base v n) (hkb : BytesAt w kv key gk) (hs : KRise n.l) (hfew : n.l.length ≤ 65536) :
    Calls Tryz.prog 40 #[v, kv] w fun e w' => e = .returned (.tuple #[.int .i64 ((placeOf n.l key : Nat) : Int), .bool (isAt n.l key)]) ∧ Fr [] w w' := by
  obtain ⟨A, c, cs, rfl, hc, hown, hits, hcell⟩ := h.parts
  clear h
  obtain ⟨wb, hwb⟩ : ∃ wb, wb = (w.alloc (.cells #[.int .i64 (kindOf n), .int .i64 (n.first : Int), .slice A n.l.length c] 88)).alloc (.cells #[kv] 23) := ⟨_, rfl⟩
  have hf0 : Fr [] w wb := by rw [hwb]; exact ((Fr.refl [] w).alloc _).alloc _
  have b1 : Blk wb w.heap.size 88 [.int .i64 (kindOf n), .int .i64 (n.first : Int), .slice A n.l.length c] := by
    rw [hwb]; exact (Blk.new w _ [.int .i64 (kindOf n), .int .i64 (n.first : Int), .slice A n.l.length c]).alloc _
  have b2 : Blk wb (w.heap.size + 1) 23 [kv] := by
    rw [hwb]
    have := Blk.new (w.alloc (.cells #[.int .i64 (kindOf n), .int .i64 (n.first : Int), .slice A n.l.length c] 88)) 23 [kv]
    rwa [World.size_alloc] at this
  have hmo : n.l.Pairwise fun x y => (!decide (klt x.key key)) = true → (!decide (klt y.key key)) = true := hs.imp fun {x y} hxy hx => by
      rw [Bool.not_eq_true', decide_eq_false_iff_not] at hx ⊢
      exact fun hy => hx (klt_trans hxy hy)
  have hsr := search_fr (w := wb) (g := 77) (cb := #[.pointer (some ⟨w.heap.size, 0, none⟩), .pointer (some ⟨w.heap.size + 1, 0, none⟩)]) (n := n.l.length) (fun i => ((n.l[i]?).map fun x => !decide (klt x.key key)).getD false) enter_place1 hfew
    (fun w' hf i hi => by
      obtain ⟨x, hx⟩ : ∃ x, n.l[i]? = some x := ⟨_, List.getElem?_eq_getElem hi⟩
      obtain ⟨ikv, ivv, iav, c0, c1, c2, hic⟩ := hits.at_ hx
      obtain ⟨g, rfl, hcg⟩ := hcell (by omega)
      obtain ⟨gi, hgi, _⟩ := hic.1
      rw [hx]
      exact place_clos (b1.fr hf (by simp) |>.at_ (i := 2) rfl) ((b2.fr hf (by simp)).at_ (i := 0) rfl) ((hkb.fr hf0 (by simp)).fr hf (by simp)) (fr_keep (hf0.trans hf (by simp)) (hcg _ _ c0)) ((hgi.fr hf0 (by simp)).fr hf (by simp)) hi hfew)
    (mono_of hmo)
  rw [count_while (f := fun x => !decide (klt x.key key)) hmo] at hsr
  have e : (n.l.takeWhile fun x => !!decide (klt x.key key)).length = placeOf n.l key := by unfold placeOf; simp only [Bool.not_not]
  rw [e] at hsr
  have HS := Lib.hid hsr; have HF := Lib.hid hf0
  have HB1 := Lib.hid b1; have HB2 := Lib.hid b2; have HC := Lib.hid hcell; have HI := Lib.hid hits
  have HKB := Lib.hid (hkb.fr hf0 (by simp))
  have hpl := place_head (l := n.l) (key := key)
  have HPL := Lib.hid hpl
  generalize placeOf n.l key = k at *
  generalize isAt n.l key = is at *
  clear hsr hf0 b1 b2 hits hown hcell e hmo hpl
  obtain ⟨Ak, ck, ok, rfl, _, _⟩ := hkb
  go_enter Tryz.func40, Tryz.ntmps40
  go_wp2_with fail
  rw [← hwb]
  refine HS.out.mono ?_
  rintro e w' ⟨rfl, hf⟩
  have HF' := Lib.hid (HF.out.trans hf (by simp))
  have hb1 := HB1.out.fr hf (by simp)
  have hb2 := HB2.out.fr hf (by simp)
  have k2 := hb1.at_ (i := 2) rfl
  have kk := hb2.at_ (i := 0) rfl
  have HKB' := Lib.hid (HKB.out.fr hf (by simp))
  rcases HPL.out with ⟨hlt, x, hx, rfl⟩ | ⟨rfl, rfl⟩
  · obtain ⟨ikv, ivv, iav, c0, c1, c2, hic⟩ := HI.out.at_ hx
    obtain ⟨g, rfl, hcg⟩ := HC.out (by omega)
    obtain ⟨gi, hgi, _⟩ := hic.1
    have ki := fr_keep HF'.out (hcg _ _ c0)
    have r1 : Hid (∀ nq, Calls Tryz.prog 79 #[ikv, .slice Ak key.length ck] (w'.drewN nq) fun e w'' => e = .returned (.bool (decide (x.key = key))) ∧ ∃ m, w'' = w'.drewN m) := Lib.hid fun nq => Calls.quiet_of_same (by
      have h := bytes_equal ((hgi.fr HF'.out (by simp)).fr ((Fr.refl [] w').drewN nq) (by simp)) (HKB'.out.fr ((Fr.refl [] w').drewN nq) (by simp))
      exact h.mono fun e w' ⟨h1, h2⟩ => ⟨h1, h2.symm⟩)
    have hz1 : (k : Int) < (n.l.length : Int) := by omega
    obtain ⟨Ai, ci, oi, rfl, _, _⟩ := hgi
    clear hf hb1 hb2 hcg hic hx HPL HI HC HS HF HB1 HB2 HKB HKB' c0 c1 c2
    generalize hdd : decide (x.key = key) = is at *
    have HDD := Lib.hid hdd
    clear hdd
    go_wp2_with fail
    go_quiet (first | with_reducible exact r1.out _)
    go_wp2
    go_ret2
    exact ⟨by rw [HDD.out]; rfl, HF'.out.drewN _⟩
  · have hz1 : ¬ ((n.l.length : Int) < (n.l.length : Int)) := by omega
    clear hf hb1 hb2 HPL HI HC HS HF HB1 HB2 HKB HKB'
    go_wp2_with fail
    go_quiet (first | fail)
    go_wp2
    go_ret2
    exact ⟨rfl, HF'.out.drewN _⟩
end Go.Proofs.YtpjbdpepofnleaaGreat
end
