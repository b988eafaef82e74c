/-
  The contract of regex.runes.
-/
import Derived.Test.YtnhlgjjdpappkaaUc
import Derived.Test.YtnhlgjjdpappkaaRa
import Derived.Laws.IdiomStrings
namespace Go.Proofs.Ytnhlgjjdpappkaa
open Go.RowKit

theorem next_any {w : World} {A : Option Addr} {n c : Nat} {bs : List UInt8} {g : Nat} (hv : BytesAt w (.slice A n c) bs g) (hc : c ≤ 9223372036854775807) : Calls Try.prog 27 #[.slice A n c] w fun e w' => e = .returned (nextV bs) ∧ Fr [] w w' := by
  obtain ⟨A', c', off, hv', hl, hb⟩ := hv
  injection hv' with h1 h2 h3
  subst h1 h2 h3
  match bs, hb with
  | [], _ => exact next_nil
  | b0 :: l, hb =>
    obtain ⟨rfl, h⟩ := hb (by simp)
    refine next_cons (by simp) hl hc fun j u hu => h j (B8 u) ?_
    rw [bcells_at, hu]; rfl
theorem info_i32 : (Try.prog.info? 21).map (fun i => (i.zero, i.size, i.bytes)) = some (some (.int .i32 0), 1, 4) := by kernel_rfl
theorem or_strange (b : UInt8) : bits .or .i32 2097152 (b.toNat : Int) = ((2097152 + b.toNat : Nat) : Int) := by
  have all : ∀ b : Fin 256, bits .or .i32 2097152 (b.val : Int) = ((2097152 + b.val : Nat) : Int) := by decide +kernel
  exact all ⟨b.toNat, b.toNat_lt⟩

def RuRel (w w0 : World) (bs : List UInt8) (k : Nat) (v3 v4 : Value) (wr : World) : Prop :=
  ∃ (l : List UInt8) (out : List Int) (m : Nat) (A : Option Addr) (c : Nat), v3 = .slice A l.length c ∧ BytesAt wr (.slice A l.length c) l w.heap.size ∧ c ≤ 9223372036854775807 ∧ runesOf bs = out ++ runesF m l ∧ l.length ≤ m ∧ l.length ≤ k ∧ out.length + l.length ≤ bs.length ∧
    wr.ownsRow 0 21 1 v4 out.length (rcellsR out) ∧ (∀ x, v4.ownBlock = some x → w.heap.size ≤ x) ∧ v4.ownBlock ≠ some w.heap.size ∧ w.heap.size < wr.heap.size ∧ Fr [] w wr
theorem ru_step {w wr w3 w7 : World} {out : List Int} {ov : Value} {x : Int} {g7 cap H : Nat} (hown : wr.ownsRow 0 21 1 ov out.length (rcellsR out)) (hge : ∀ x, ov.ownBlock = some x → w.heap.size ≤ x) (hne : ov.ownBlock ≠ some w.heap.size) (hlt : w.heap.size < wr.heap.size) (hf : Fr [] w wr)
    (hf3 : Fr [] wr w3) (hs3 : w3.heap.size = H) (hH : wr.heap.size ≤ H) (hf7 : Fr ov.ownBlock.toList w3 w7) (ho7 : w7.ownsRow 0 21 1 (.slice (some ⟨g7, 0, none⟩) (out.length + 1) cap) (out.length + 1) (rcellsR out ++ [.int .i32 x])) (hat : ov.ownBlock = some g7 ∨ g7 = H) :
    Fr ov.ownBlock.toList wr w7 ∧ w7.ownsRow 0 21 1 (.slice (some ⟨g7, 0, none⟩) (out.length + 1) cap) (out ++ [x]).length (rcellsR (out ++ [x])) ∧ (∀ y, (Value.slice (some ⟨g7, 0, none⟩) (out.length + 1) cap).ownBlock = some y → w.heap.size ≤ y) ∧ (Value.slice (some ⟨g7, 0, none⟩) (out.length + 1) cap).ownBlock ≠ some w.heap.size ∧ w.heap.size < w7.heap.size ∧ Fr [] w w7 := by
  have h1 : Fr ov.ownBlock.toList wr w7 := (hf3.mono (by simp)).trans hf7 (fun x hx => .inl hx)
  have hg : w.heap.size ≤ g7 ∧ g7 ≠ w.heap.size := by
    rcases hat with h | h
    · exact ⟨hge _ h, fun e => hne (e ▸ h)⟩
    · omega
  refine ⟨h1, ?_, fun y hy => ?_, fun e => ?_, by have := h1.size; omega, hf.trans h1 (fun y hy => .inr (hge y (by simpa using hy)))⟩
  · rw [show (out ++ [x]).length = out.length + 1 by simp, show rcellsR (out ++ [x]) = rcellsR out ++ [.int .i32 x] by simp [rcellsR, R32]]
    exact ho7
  · simp [Value.ownBlock] at hy; omega
  · simp [Value.ownBlock] at e; omega

def strBytes (s : ByteArray) : List UInt8 := s.data.toList
theorem strBytes_len (s : ByteArray) : (strBytes s).length = s.size := by simp [strBytes]

set_option maxRecDepth 100000 in
set_option maxHeartbeats 1600000 in
theorem runes_any {w : World} (s : ByteArray) (hs : s.size ≤ 1000000) : Calls Try.prog 25 #[.string s] w fun e w' => ∃ v g, e = .returned v ∧ SlAt w' v (runesOf (strBytes s)).length (rcellsR (runesOf (strBytes s))) g ∧ (0 < (runesOf (strBytes s)).length → w.heap.size ≤ g) ∧ Fr [] w w' := by
  refine calls_post fun R HQ => ?_
  have hcv := run_bytes_of_string (P := Try.prog) w 9 34 5 s Try.underlying9 Try.underlying34 Try.underlying5
  have hge := grownCap_ge w s.size 0 5
  have hle := grownCap_le_maxLen w s.size 0 5 (by unfold maxLen; omega)
  unfold maxLen at hle
  generalize hC : grownCap w s.size 0 5 = C at *
  clear hC
  have hba : BytesAt (w.drew.alloc (.cells (bytesRow s C) 5 ((bytesRow s C).size, (bytesRow s C).size + 1))) (.slice (some ⟨w.heap.size, 0, none⟩) s.size C) (strBytes s) w.heap.size := by
    refine ⟨_, C, 0, by rw [strBytes_len], by rw [strBytes_len]; exact hge, fun h0 => ⟨rfl, fun j u hu => ?_⟩⟩
    have hb : (w.drew.alloc (.cells (bytesRow s C) 5 ((bytesRow s C).size, (bytesRow s C).size + 1))).heap[w.heap.size]? = some (.cells (bytesRow s C) 5 ((bytesRow s C).size, (bytesRow s C).size + 1)) := heap_alloc_new w.drew _
    rw [Nat.zero_add]
    simp only [World.cell?, hb]
    rw [bcells_at] at hu
    obtain ⟨x, hx, rfl⟩ := Option.map_eq_some_iff.1 hu
    unfold strBytes at hx
    obtain ⟨hj, hx'⟩ := List.getElem?_eq_some_iff.1 hx
    have hj' : j < s.data.size := by simpa using hj
    simp only [Option.isSome_none, Bool.false_eq_true, if_false]
    rw [bytesRow, Array.getElem?_append_left (by simpa using hj')]
    simp only [Array.getElem?_map]
    rw [Array.getElem?_eq_getElem hj']
    have : s.data[j] = x := by simpa using hx'
    rw [this]; rfl
  have hfa : Fr [] w (w.drew.alloc (.cells (bytesRow s C) 5 ((bytesRow s C).size, (bytesRow s C).size + 1))) := ((Fr.refl [] w).drew).alloc _
  have hsa : (w.drew.alloc (.cells (bytesRow s C) 5 ((bytesRow s C).size, (bytesRow s C).size + 1))).heap.size = w.heap.size + 1 := by simp
  generalize w.drew.alloc (.cells (bytesRow s C) 5 ((bytesRow s C).size, (bytesRow s C).size + 1)) = w0 at *
  have HBA := Lib.hid hba; have HFA := Lib.hid hfa; have HSA := Lib.hid hsa
  clear hba hfa hsa
  go_enter Try.func25, Try.ntmps25
  go_wp2_with fail
  clear hcv
  have hlen := strBytes_len s
  obtain ⟨bs, hbs⟩ : ∃ bs, bs = strBytes s := ⟨_, rfl⟩
  rw [← hbs] at HBA HQ hlen
  clear hbs
  go_loopg [3, 4] s.size (RuRel w w0 bs)
  case atStart => exact ⟨bs, [], bs.length, _, C, by rw [hlen], by rw [hlen]; exact HBA.out, hle, rfl, Nat.le_refl _, by omega, by simp, own_nil _ _ _ _, by simp [Value.ownBlock], by simp [Value.ownBlock], by rw [HSA.out]; omega, HFA.out⟩
  case round =>
    obtain ⟨L, out, m, A, c, rfl, hb, hc, hru, hm, hk, hol, hown, hge', hne, hbl, hf⟩ := hrel
    have HBS := Lib.hid hb; have HRU := Lib.hid hru; have HOWN := Lib.hid hown; have HGE := Lib.hid hge'; have HNE := Lib.hid hne; have HF := Lib.hid hf
    clear hb hru hown hge' hne hf HBA HFA HSA hge
    obtain ⟨oA, oc, rfl, hoc, _⟩ := own_shape HOWN.out
    obtain ⟨ov, hov⟩ : ∃ ov, ov = Value.slice oA out.length oc := ⟨_, rfl⟩
    rw [← hov] at HOWN HGE HNE ⊢
    have HOV := Lib.hid hov
    have hlen' : bs.length ≤ s.size := by omega
    clear hov hlen
    cases L with
    | nil =>
      have HE : Hid (runesOf bs = out) := Lib.hid (by rw [HRU.out]; cases m <;> simp [runesF])
      rw [HOV.out] at HOWN HGE HNE ⊢
      go_wp2_with fail
      obtain ⟨g, h1, h2, _⟩ := SlAt.of_own HOWN.out 0
      exact HQ.out _ _ ⟨_, g, rfl, by rw [HE.out]; exact h1, fun h => HGE.out g (h2 (by rw [HE.out] at h; exact h)), HF.out⟩
    | cons b0 l =>
      obtain ⟨n, hn⟩ : ∃ n, n = (b0 :: l).length := ⟨_, rfl⟩
      have hn1 : l.length + 1 ≤ n ∧ n ≤ l.length + 1 := by rw [hn]; simp
      rw [← hn] at HBS hm hk hol ⊢
      have HN := Lib.hid hn
      clear hn
      obtain ⟨m', rfl⟩ : ∃ m', m = m' + 1 := ⟨m - 1, by omega⟩
      have hb0 : wr.cell? ⟨w.heap.size, 0, none⟩ = wr.cell? ⟨w.heap.size, 0, none⟩ := rfl
      obtain ⟨A', c', off, hv, _, hcell⟩ := HBS.out
      injection hv with hv1 hv2 hv3
      clear hv2
      subst hv1 hv3
      obtain ⟨rfl, hcell'⟩ := hcell (by simp)
      have c0 := hcell' 0 (B8 b0) rfl
      rw [Nat.add_zero] at c0
      unfold B8 at c0
      have d0 : decide (0 < n) = true := by simp; omega
      have d1 : 0 < n := by omega
      clear hcell hcell' hb0
      go_wp2_with fail
      refine (next_any HBS.out hc).mono ?_
      rintro e w2 ⟨rfl, hf2⟩
      have HF2 := Lib.hid hf2
      have c02 : w2.cell? ⟨w.heap.size, off, none⟩ = some (.int .u8 (b0.toNat : Int)) := by rw [hf2.cell (World.block_lt_of_cell? wr _ c0) (by simp)]; exact c0
      clear hf2
      unfold nextV
      cases hnx : nextOf (b0 :: l) with
      | none =>
        have HRU2 : Hid (runesOf bs = (out ++ [((2097152 + b0.toNat : Nat) : Int)]) ++ runesF m' ((b0 :: l).drop 1)) := Lib.hid (by rw [HRU.out, runesF, hnx]; simp)
        have hb8 : b0.toNat < 256 := b0.toNat_lt
        have os := or_strange b0
        clear hnx
        generalize ((2097152 + b0.toNat : Nat) : Int) = rr at *
        -- the character rr of 1 bytes is laid; HS2: the bytes behind it
        go_upto_region 7 with fail
        refine wp_region_lit ?_
        refine wpList_plain rfl fun K hK => ?_
        refine wp_run_same (v := ?au2_0) ?yu2_0 (hK _ _ ?_)
        case yu2_0 => go_simp <;> with_reducible rfl
        clear hK K
        simp only [Act.put, List.setIfInBounds_toArray, List.set_cons_zero, List.set_cons_succ]
        refine wpList_plain rfl fun K hK => ?_
        refine wp_run_same (v := ?au3_1) ?yu3_1 (hK _ _ ?_)
        case yu3_1 => go_simp <;> with_reducible rfl
        clear hK K
        simp only [Act.put, List.setIfInBounds_toArray, List.set_cons_zero, List.set_cons_succ]
        refine wpList_plain rfl fun K hK => ?_
        obtain ⟨iu, hi, hz', hsz', hby⟩ := info_parts info_i32
        refine wp_build_cell (.tmp 25) rfl Try.underlying58 hi hz' hsz' rfl (.int .i32 rr) rfl rfl w2.heap.size rfl fun w3 hbn hfn hsn => hK _ _ ?_
        simp only [Act.put, List.setIfInBounds_toArray, List.set_cons_zero, List.set_cons_succ]
        clear hK
        refine wpList_plain rfl fun K hK => ?_
        refine wp_append_fr (.tmp 24) (.tmp 26) rfl 21 1 4 Try.underlying58 hi hz' hsz' hby rfl (by omega) ov out.length (rcellsR out) rfl (own_fr HOWN.out (HF2.out.trans hfn (by simp)) (by simp)) ⟨w2.heap.size, 0, none⟩ 1 1 [.int .i32 rr] rfl rfl (fun j u hu => by rw [Addr.add_mid, Nat.zero_add]; exact hbn.at_ hu) (by intro u hu; simp at hu; subst hu; rfl) (by omega) (by unfold maxLen; omega) (by omega) (w2.heap.size + 1) hsn fun g7 cap w7 ho7 hf7 hat7 hlt7 => hK _ _ ?_
        simp only [Act.put, List.setIfInBounds_toArray, List.set_cons_zero, List.set_cons_succ]
        clear hK
        refine wpList_plain rfl fun K hK => ?_
        refine wp_run_same (v := ?au4_4) ?yu4_4 (hK _ _ ?_)
        case yu4_4 => go_simp <;> with_reducible rfl
        clear hK K
        simp only [Act.put, List.setIfInBounds_toArray, List.set_cons_zero, List.set_cons_succ]
        refine wpList_nil ?_
        have hz2 := HF2.out.size
        have hne : ∀ x, ov.ownBlock = some x → x ≠ w.heap.size := fun x hx e => HNE.out (e ▸ hx)
        have HR7 := Lib.hid (ru_step (x := rr) (g7 := g7) (cap := cap) HOWN.out HGE.out HNE.out hbl HF.out (HF2.out.trans hfn (by simp)) hsn (by omega) hf7 ho7 hat7)
        clear hf7 ho7 hat7 hlt7 hbn hfn hsn hne hi hz' hsz' hby
        have hsl := slice_run_from (P := Try.prog) (t := 34) Try.underlying34 (by kernel_rfl) (some ⟨w.heap.size, off, none⟩) n c 1 .i64 (by omega)
        rw [show ((1 : Nat) : Int) = 1 from rfl] at hsl
        have hbs2 := HBS.out.from_ 1 (by rw [← HN.out]; omega)
        rw [← HN.out] at hbs2
        generalize hsa : (if c = 1 then some (⟨w.heap.size, off, none⟩ : Addr) else (some (⟨w.heap.size, off, none⟩ : Addr)).map (·.add 1)) = sa at *
        have HSL := Lib.hid hsl; have HBS2 := Lib.hid hbs2
        clear hsl hbs2 hsa
        go_upto_region 8 with fail
        refine wp_region_lit ?_
        refine wpList_plain rfl fun K hK => ?_
        refine wp_run_same (v := ?au6_0) ?yu6_0 (hK _ _ ?_)
        case yu6_0 => go_simp <;> with_reducible rfl
        clear hK K
        simp only [Act.put, List.setIfInBounds_toArray, List.set_cons_zero, List.set_cons_succ]
        refine wpList_plain rfl fun K hK => ?_
        refine wp_run_same (v := ?au7_1) ?yu7_1 (hK _ _ ?_)
        case yu7_1 => go_simp <;> with_reducible rfl
        clear hK K
        simp only [Act.put, List.setIfInBounds_toArray, List.set_cons_zero, List.set_cons_succ]
        refine wpList_plain rfl fun K hK => ?_
        refine wp_run_same (v := .slice sa (n - 1) (c - 1)) (exec_slice rfl rfl rfl rfl (HSL.out w7)) (hK _ _ ?_)
        simp only [Act.put, List.setIfInBounds_toArray, List.set_cons_zero, List.set_cons_succ]
        clear hK
        refine wpList_plain rfl fun K hK => ?_
        refine wp_run_same (v := ?au8_3) ?yu8_3 (hK _ _ ?_)
        case yu8_3 => go_simp <;> with_reducible rfl
        clear hK K
        simp only [Act.put, List.setIfInBounds_toArray, List.set_cons_zero, List.set_cons_succ]
        refine wpList_nil ?_
        go_wp2_with fail
        have hdl : ((b0 :: l).drop 1).length = n - 1 := by rw [List.length_drop, ← HN.out]
        go_roundg (n - 1)
        case measure => omega
        case rel => exact ⟨((b0 :: l).drop 1), out ++ [rr], m', _, c - 1, by rw [hdl], by rw [hdl]; exact HBS2.out.fr (HR7.out.1) (by simpa using HNE.out), by omega, HRU2.out, by rw [hdl]; omega, by rw [hdl]; exact Nat.le_refl _, by rw [hdl]; simp; omega, HR7.out.2.1, HR7.out.2.2.1, HR7.out.2.2.2.1, HR7.out.2.2.2.2.1, HR7.out.2.2.2.2.2⟩
      | some y =>
        obtain ⟨rn, k⟩ := y
        have hnp := nextOf_pos hnx
        have HRU2 : Hid (runesOf bs = (out ++ [(rn : Int)]) ++ runesF m' ((b0 :: l).drop k)) := Lib.hid (by rw [HRU.out, runesF, hnx]; simp)
        clear hnx
        have k0 : ((k : Int) == 0) = false := by simp; omega
        obtain ⟨n1, n2, n3, n4⟩ := hnp
        rw [← HN.out] at n2
        -- the character (rn : Int) of k bytes is laid; HS2: the bytes behind it
        go_upto_region 7 with fail
        refine wp_region_lit ?_
        refine wpList_plain rfl fun K hK => ?_
        refine wp_run_same (v := ?au10_0) ?yu10_0 (hK _ _ ?_)
        case yu10_0 => go_simp <;> with_reducible rfl
        clear hK K
        simp only [Act.put, List.setIfInBounds_toArray, List.set_cons_zero, List.set_cons_succ]
        refine wpList_plain rfl fun K hK => ?_
        refine wp_run_same (v := ?au11_1) ?yu11_1 (hK _ _ ?_)
        case yu11_1 => go_simp <;> with_reducible rfl
        clear hK K
        simp only [Act.put, List.setIfInBounds_toArray, List.set_cons_zero, List.set_cons_succ]
        refine wpList_plain rfl fun K hK => ?_
        obtain ⟨iu, hi, hz', hsz', hby⟩ := info_parts info_i32
        refine wp_build_cell (.tmp 25) rfl Try.underlying58 hi hz' hsz' rfl (.int .i32 (rn : Int)) rfl rfl w2.heap.size rfl fun w3 hbn hfn hsn => hK _ _ ?_
        simp only [Act.put, List.setIfInBounds_toArray, List.set_cons_zero, List.set_cons_succ]
        clear hK
        refine wpList_plain rfl fun K hK => ?_
        refine wp_append_fr (.tmp 24) (.tmp 26) rfl 21 1 4 Try.underlying58 hi hz' hsz' hby rfl (by omega) ov out.length (rcellsR out) rfl (own_fr HOWN.out (HF2.out.trans hfn (by simp)) (by simp)) ⟨w2.heap.size, 0, none⟩ 1 1 [.int .i32 (rn : Int)] rfl rfl (fun j u hu => by rw [Addr.add_mid, Nat.zero_add]; exact hbn.at_ hu) (by intro u hu; simp at hu; subst hu; rfl) (by omega) (by unfold maxLen; omega) (by omega) (w2.heap.size + 1) hsn fun g7 cap w7 ho7 hf7 hat7 hlt7 => hK _ _ ?_
        simp only [Act.put, List.setIfInBounds_toArray, List.set_cons_zero, List.set_cons_succ]
        clear hK
        refine wpList_plain rfl fun K hK => ?_
        refine wp_run_same (v := ?au12_4) ?yu12_4 (hK _ _ ?_)
        case yu12_4 => go_simp <;> with_reducible rfl
        clear hK K
        simp only [Act.put, List.setIfInBounds_toArray, List.set_cons_zero, List.set_cons_succ]
        refine wpList_nil ?_
        have hz2 := HF2.out.size
        have hne : ∀ x, ov.ownBlock = some x → x ≠ w.heap.size := fun x hx e => HNE.out (e ▸ hx)
        have HR7 := Lib.hid (ru_step (x := (rn : Int)) (g7 := g7) (cap := cap) HOWN.out HGE.out HNE.out hbl HF.out (HF2.out.trans hfn (by simp)) hsn (by omega) hf7 ho7 hat7)
        clear hf7 ho7 hat7 hlt7 hbn hfn hsn hne hi hz' hsz' hby
        have hsl := slice_run_from (P := Try.prog) (t := 34) Try.underlying34 (by kernel_rfl) (some ⟨w.heap.size, off, none⟩) n c k .i64 (by omega)
        rw [show ((k : Nat) : Int) = (k : Int) from rfl] at hsl
        have hbs2 := HBS.out.from_ k (by rw [← HN.out]; omega)
        rw [← HN.out] at hbs2
        generalize hsa : (if c = k then some (⟨w.heap.size, off, none⟩ : Addr) else (some (⟨w.heap.size, off, none⟩ : Addr)).map (·.add k)) = sa at *
        have HSL := Lib.hid hsl; have HBS2 := Lib.hid hbs2
        clear hsl hbs2 hsa
        go_upto_region 8 with fail
        refine wp_region_lit ?_
        refine wpList_plain rfl fun K hK => ?_
        refine wp_run_same (v := ?au14_0) ?yu14_0 (hK _ _ ?_)
        case yu14_0 => go_simp <;> with_reducible rfl
        clear hK K
        simp only [Act.put, List.setIfInBounds_toArray, List.set_cons_zero, List.set_cons_succ]
        refine wpList_plain rfl fun K hK => ?_
        refine wp_run_same (v := ?au15_1) ?yu15_1 (hK _ _ ?_)
        case yu15_1 => go_simp <;> with_reducible rfl
        clear hK K
        simp only [Act.put, List.setIfInBounds_toArray, List.set_cons_zero, List.set_cons_succ]
        refine wpList_plain rfl fun K hK => ?_
        refine wp_run_same (v := .slice sa (n - k) (c - k)) (exec_slice rfl rfl rfl rfl (HSL.out w7)) (hK _ _ ?_)
        simp only [Act.put, List.setIfInBounds_toArray, List.set_cons_zero, List.set_cons_succ]
        clear hK
        refine wpList_plain rfl fun K hK => ?_
        refine wp_run_same (v := ?au16_3) ?yu16_3 (hK _ _ ?_)
        case yu16_3 => go_simp <;> with_reducible rfl
        clear hK K
        simp only [Act.put, List.setIfInBounds_toArray, List.set_cons_zero, List.set_cons_succ]
        refine wpList_nil ?_
        go_wp2_with fail
        have hdl : ((b0 :: l).drop k).length = n - k := by rw [List.length_drop, ← HN.out]
        go_roundg (n - k)
        case measure => omega
        case rel => exact ⟨((b0 :: l).drop k), out ++ [(rn : Int)], m', _, c - k, by rw [hdl], by rw [hdl]; exact HBS2.out.fr (HR7.out.1) (by simpa using HNE.out), by omega, HRU2.out, by rw [hdl]; omega, by rw [hdl]; exact Nat.le_refl _, by rw [hdl]; simp; omega, HR7.out.2.1, HR7.out.2.2.1, HR7.out.2.2.2.1, HR7.out.2.2.2.2.1, HR7.out.2.2.2.2.2⟩

end Go.Proofs.Ytnhlgjjdpappkaa
