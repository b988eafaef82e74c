/-
  The contracts of the pattern's reader: class.
-/
import Derived.Test.YtnhlgjjdpappkaaRc
namespace Go.Proofs.Ytnhlgjjdpappkaa
open Go.RowKit

theorem RS.item_pos {b : Bool} {s s1 : RS} {x : Sp} (h : s.pos) (ht : s.item b = some (x, s1)) : s1.pos := by
  unfold RS.item at ht
  split at ht
  · simp only [Option.some.injEq, Prod.mk.injEq] at ht; obtain ⟨_, rfl⟩ := ht; exact h.next
  · split at ht
    · cases ht
    · rename_i a s2 h1
      have h2 := RS.end_pos h h1
      split at ht
      · split at ht
        · cases ht
        · rename_i b1 s3 h3
          have h4 := RS.end_pos h2.next h3
          split at ht
          · simp only [Option.some.injEq, Prod.mk.injEq] at ht; obtain ⟨_, rfl⟩ := ht; exact h4
          · cases ht
      · simp only [Option.some.injEq, Prod.mk.injEq] at ht; obtain ⟨_, rfl⟩ := ht; exact h2
theorem RS.isS_pos {s : RS} (h : s.pos) (c : Int) : (s.isS c).pos := by
  unfold RS.isS
  split
  · exact h.next
  · exact h
theorem RS.items_done {m : Nat} {s : RS} (hm : 0 < m) (hp : s.peek = 93) : RS.items m false s = some ([], s.next) := by
  match m, hm with
  | m + 1, _ => unfold RS.items; rw [if_pos ⟨rfl, hp⟩]
theorem RS.items_on {m : Nat} {b : Bool} {s : RS} (hp : ¬ (b = false ∧ s.peek = 93)) : RS.items (m + 1) b s = match s.item b with | none => none | some (x, s) => (RS.items m false s).map fun r => (x :: r.1, r.2) := by
  rw [RS.items, if_neg hp]; rfl
theorem enter_item (vs : Array Value) (w : World) : (callFunc 57 vs).run Try.prog w = .ok (.enter 57 vs) w := by kernel_rfl
theorem info_span : (Try.prog.info? 91).map (fun i => (i.zero, i.size, i.bytes)) = some (some (.agg #[.int .i32 0, .int .i32 0]), 2, 8) := by kernel_rfl
def zero6 : List Value := [.int .i64 0, .bool false, .slice none 0 0, .slice none 0 0, .int .i64 0, .int .i64 0]

def ClRel (w : World) (r gl gO : Nat) (neg : Bool) (X : Option (List Sp × RS)) (k : Nat) (v : Value) (wr : World) : Prop :=
  ∃ (m : Nat) (acc : List Sp) (sk : RS) (b : Bool) (sv : Value), v = .bool b ∧ X = (RS.items m b sk).map (fun r => (acc ++ r.1, r.2)) ∧ sk.l.length < m ∧ sk.l.length ≤ k ∧ acc.length + sk.l.length ≤ 1000 ∧ sk.pos ∧ RdAt wr r gl sk ∧
    Blk wr w.heap.size 43 zero6 ∧ Blk wr gO 43 [.int .i64 0, .bool neg, sv, .slice none 0 0, .int .i64 0, .int .i64 0] ∧ wr.ownsRow 0 91 2 sv acc.length (spCells acc) ∧ (∀ x, sv.ownBlock = some x → w.heap.size ≤ x) ∧ Fr [r] w wr

/-- A span more. -/
theorem cl_step {w w2 w3 w7 : World} {r gl gO : Nat} {neg : Bool} {X : Option (List Sp × RS)} {k m : Nat} {acc : List Sp} {x : Sp} {s2 : RS} {sv : Value} {g7 cap : Nat} (hX : X = (RS.items m false s2).map (fun r => ((acc ++ [x]) ++ r.1, r.2))) (hm : s2.l.length < m) (hk : s2.l.length ≤ k) (ha : acc.length + 1 + s2.l.length ≤ 1000) (hp : s2.pos)
    (hr : RdAt w2 r gl s2) (hlt : r < w.heap.size) (hgo : w.heap.size < gO) (hz : Blk w2 w.heap.size 43 zero6) (ho : Blk w2 gO 43 [.int .i64 0, .bool neg, sv, .slice none 0 0, .int .i64 0, .int .i64 0]) (hne : sv.ownBlock ≠ some gO) (hne' : sv.ownBlock ≠ some w.heap.size) (hge : ∀ x, sv.ownBlock = some x → w.heap.size ≤ x) (hf : Fr [r] w w2)
    (hfn : Fr [] w2 w3) (hf7 : Fr sv.ownBlock.toList w3 w7) (ho7 : w7.ownsRow 0 91 2 (.slice (some ⟨g7, 0, none⟩) (acc.length + 1) cap) (acc.length + 1) (spCells acc ++ [R32 x.lo, R32 x.hi])) (hat : sv.ownBlock = some g7 ∨ g7 = w2.heap.size + 1) (hz2 : gO < w2.heap.size) :
    ClRel w r gl gO neg X k (.bool false) (w7.setCell ⟨gO, 2, none⟩ (.slice (some ⟨g7, 0, none⟩) (acc.length + 1) cap)) := by
  have hlt2 := hz.lt
  have hg7 : g7 ≠ gO := by
    rcases hat with h | h
    · intro e; subst e; exact hne h
    · omega
  have hgw : w.heap.size ≤ g7 := by
    rcases hat with h | h
    · exact hge _ h
    · omega
  have hf27 : Fr sv.ownBlock.toList w2 w7 := (hfn.mono (by simp)).trans hf7 (fun x hx => .inl hx)
  have hS : ∀ x ∈ sv.ownBlock.toList, w.heap.size ≤ x := fun x hx => hge x (by simpa using hx)
  have hf8 : Fr (gO :: sv.ownBlock.toList) w2 (w7.setCell ⟨gO, 2, none⟩ (.slice (some ⟨g7, 0, none⟩) (acc.length + 1) cap)) := (hf27.mono (fun x hx => .inl (List.mem_cons_of_mem _ hx))).setCell (.inl (by simp)) _
  refine ⟨m, acc ++ [x], s2, false, _, rfl, hX, hm, hk, by simpa using ha, hp, hr.fr hf8 (fun y hy => ?_), hz.fr hf8 ?_, (ho.fr hf27 (by simpa using hne)).set_ 2 _, ?_, fun y hy => ?_, ?_⟩
  · rcases List.mem_cons.1 hy with rfl | hy
    · omega
    · have := hS y hy; omega
  · intro hm'
    rcases List.mem_cons.1 hm' with h | h
    · omega
    · exact hne' (by simpa using h)
  · have e : spCells (acc ++ [x]) = spCells acc ++ [R32 x.lo, R32 x.hi] := by simp [spCells]
    rw [e, show (acc ++ [x]).length = acc.length + 1 by simp]
    exact own_fr ho7 ((Fr.refl [gO] w7).setCell (.inl (by simp)) _) (fun g hg => by simp [Value.ownBlock] at hg; subst hg; simpa using hg7)
  · simp [Value.ownBlock] at hy; omega
  · exact hf.trans hf8 (fun y hy => by
      rcases List.mem_cons.1 hy with rfl | hy
      · right; omega
      · right; exact hS y hy)

set_option maxRecDepth 100000 in
set_option maxHeartbeats 800000 in
theorem class_any {w : World} {r gl : Nat} {s : RS} (h : RdAt w r gl s) (hp : s.pos) (hl : s.l.length ≤ 1000) : Calls Try.prog 52 #[.pointer (some ⟨r, 0, none⟩)] w (PRes (PartV w) w r gl s.class_) := by
  refine calls_post fun R HQ => ?_
  have HA : Hid (RdAt (w.alloc (.cells zero6.toArray 43)) r gl s) := Lib.hid (h.fr ((Fr.refl [] w).alloc _) (by simp))
  have HZ : Hid (Blk (w.alloc (.cells zero6.toArray 43)) w.heap.size 43 zero6) := Lib.hid (Blk.new w 43 zero6)
  have HFA : Hid (Fr [r] w (w.alloc (.cells zero6.toArray 43))) := Lib.hid ((Fr.refl [r] w).alloc _)
  have HLT : Hid (r < w.heap.size) := Lib.hid h.lt
  have HP := Lib.hid hp
  clear h hp
  unfold zero6 at HA HZ HFA
  go_enter Try.func52, Try.ntmps52
  go_wp2_with fail
  refine (is_any HA.out (by omega)).mono ?_
  rintro e w1 ⟨rfl, hr1, hf1, hs1⟩
  have HR1 := Lib.hid hr1; have HF1 := Lib.hid (HFA.out.trans hf1 (fun x hx => .inl hx)); have HZ1 := Lib.hid (HZ.out.fr hf1 (by have := HLT.out; simp; omega))
  have hz1 : w.heap.size < w1.heap.size := HZ1.out.lt
  clear hr1 hf1 hs1
  go_wp2_with fail
  obtain ⟨neg, hneg⟩ : ∃ neg, neg = s.isB 94 := ⟨_, rfl⟩
  rw [← hneg]
  have HX : Hid (s.class_ = (RS.items (s.l.length + 1) true (s.isS 94)).map fun r => (.char neg r.1, r.2)) := Lib.hid (by unfold RS.class_; rw [hneg])
  clear hneg
  obtain ⟨X, hX⟩ : ∃ X, X = RS.items (s.l.length + 1) true (s.isS 94) := ⟨_, rfl⟩
  rw [← hX] at HX
  go_loopg [4] (s.l.length + 1) (ClRel w r gl w1.heap.size neg X)
  case atStart =>
    refine ⟨s.l.length + 1, [], s.isS 94, true, .slice none 0 0, rfl, by rw [hX]; cases RS.items (s.l.length + 1) true (s.isS 94) <;> simp, by have := RS.isS_len s 94; omega, by have := RS.isS_len s 94; omega, by have := RS.isS_len s 94; simp; omega, RS.isS_pos HP.out 94, HR1.out.fr ((Fr.refl [] _).alloc _) (by simp), HZ1.out.alloc _, Blk.new w1 43 [.int .i64 0, .bool neg, .slice none 0 0, .slice none 0 0, .int .i64 0, .int .i64 0], own_nil _ _ _ _, by simp [Value.ownBlock], HF1.out.alloc _⟩
  case round =>
    obtain ⟨m, acc, sk, b, sv, rfl, hXk, hm, hk, hacc, hpk, hr, hz, ho, hown, hge, hf⟩ := hrel
    have HXK := Lib.hid hXk; have HPK := Lib.hid hpk; have HR := Lib.hid hr; have HZR := Lib.hid hz; have HO := Lib.hid ho; have HOWN := Lib.hid hown; have HGE := Lib.hid hge; have HF := Lib.hid hf
    clear hXk hpk hr hz ho hown hge hf HR1 HF1 HZ1 hX
    cases b with
    | true =>
      have HON : Hid (¬ (true = false ∧ sk.peek = 93)) := Lib.hid (by simp)
      have HC := Lib.hid (item_any (HR.out.fr ((Fr.refl [] wr).drew) (by simp)) HPK.out true)
      have c2 := HO.out.at_ (i := 2) rfl
      obtain ⟨m', rfl⟩ : ∃ m', m = m' + 1 := ⟨m - 1, by omega⟩
      have HI := Lib.hid (RS.items_on (m := m') HON.out)
      go_wp2_with fail
      refine wp_region_K (fun W => W.cell? ⟨w1.heap.size, 2, none⟩ = some sv ∧ True) [0, 1, 2, 3, 7] (by kernel_rfl) ?_
      refine wpAnyK_take (i := 0) (some 14) ?vq1_0 rfl rfl (by kernel_rfl) (fun _ _ _ h => h) ⟨c2, trivial⟩ (.inl ⟨rfl, fun W hW => ?yq1_0⟩) ?_
      case yq1_0 => (obtain ⟨c2', _⟩ := hW; go_simp) <;> with_reducible rfl
      simp only [Act.put, List.setIfInBounds_toArray, List.set_cons_zero, List.set_cons_succ]
      refine wpAnyK_take (i := 1) (some 15) ?vq1_1 rfl rfl (by kernel_rfl) (fun _ _ _ h => h) ⟨c2, trivial⟩ (.inl ⟨rfl, fun W hW => ?yq1_1⟩) ?_
      case yq1_1 => (obtain ⟨c2', _⟩ := hW; go_simp) <;> with_reducible rfl
      simp only [Act.put, List.setIfInBounds_toArray, List.set_cons_zero, List.set_cons_succ]
      refine wpAnyK_take (i := 2) (some 16) ?vq1_2 rfl rfl (by kernel_rfl) (fun _ _ _ h => h) ⟨c2, trivial⟩ (.inl ⟨rfl, fun W hW => ?yq1_2⟩) ?_
      case yq1_2 => (obtain ⟨c2', _⟩ := hW; go_simp) <;> with_reducible rfl
      simp only [Act.put, List.setIfInBounds_toArray, List.set_cons_zero, List.set_cons_succ]
      refine wpAnyK_take (i := 3) (some 17) ?vq1_3 rfl rfl (by kernel_rfl) (fun _ _ _ h => h) ⟨c2, trivial⟩ (.inl ⟨rfl, fun W hW => ?yq1_3⟩) ?_
      case yq1_3 => (obtain ⟨c2', _⟩ := hW; go_simp) <;> with_reducible rfl
      simp only [Act.put, List.setIfInBounds_toArray, List.set_cons_zero, List.set_cons_succ]
      refine wpAnyK_step (j := 4) (some 18) rfl rfl (by kernel_rfl) rfl fun K hK => ?_
      cases hi : sk.item true with
      | none =>
        refine wp_callp (l := [.tmp 16, .tmp 17]) rfl [.pointer (some ⟨r, 0, none⟩), .bool true] rfl (enter_item _) (HC.out.mono ?_)
        rw [hi] at HI ⊢
        rintro e w2 ⟨rfl, hf⟩
        have HN : Hid (s.class_ = none) := Lib.hid (by rw [HX.out, HXK.out, HI.out]; rfl)
        exact .inr ⟨_, rfl, rfl, HQ.out _ _ (pres_none HN.out (HF.out.trans ((Fr.refl [r] wr).drew.trans hf (fun x hx => .inl hx)) (fun x hx => .inl hx)))⟩
      | some y =>
        obtain ⟨x, s2⟩ := y
        have hil := RS.item_len hi
        have HP2 := Lib.hid (RS.item_pos HPK.out hi)
        refine wp_callp (l := [.tmp 16, .tmp 17]) rfl [.pointer (some ⟨r, 0, none⟩), .bool true] rfl (enter_item _) (HC.out.mono ?_)
        rw [hi] at HI ⊢
        have HXK2 : Hid (X = (RS.items m' false s2).map (fun r => ((acc ++ [x]) ++ r.1, r.2))) := Lib.hid (by rw [HXK.out, HI.out]; simp [Option.map_map, Function.comp_def])
        rintro e w2 ⟨_, rfl, rfl, hr2, hf2⟩
        have hf2' : Fr [r] wr w2 := (Fr.refl [r] wr).drew.trans hf2 (fun x hx => .inl hx)
        have hr0 := HLT.out
        have ho2 := HO.out.fr hf2' (by simp; omega)
        have HO2 := Lib.hid ho2
        have HZ2 := Lib.hid (HZR.out.fr hf2' (by simp; omega))
        have HOW2 := Lib.hid (own_fr HOWN.out hf2' (fun g hg => by have := HGE.out g hg; simp; omega))
        have HR2 := Lib.hid hr2
        have HF2 := Lib.hid (HF.out.trans hf2' (fun x hx => .inl hx))
        have hne : sv.ownBlock ≠ some w1.heap.size := own_ne HOWN.out HO.out (by decide)
        have hne' : sv.ownBlock ≠ some w.heap.size := own_ne HOWN.out HZR.out (by decide)
        have h1z := ho2.lt
        refine .inl ⟨_, rfl, hK _ _ (fun _ => ⟨ho2.at_ (i := 2) rfl, trivial⟩) ?_⟩
        simp only [Act.put, List.setIfInBounds_toArray, List.set_cons_zero, List.set_cons_succ]
        clear hr2 hf2 hf2' ho2 hi hK
        refine wpAnyK_step (j := 5) (some 19) rfl rfl (by kernel_rfl) rfl fun K hK => ?_
        obtain ⟨iu, hi, hz', hsz', hby⟩ := info_parts info_span
        refine wp_build_one (.tmp 18) rfl Try.underlying40 hi hz' [R32 x.lo, R32 x.hi] rfl hsz' rfl (by simp) (by simp) (hK _ _ (fun _ => ⟨(HO2.out.alloc _).at_ (i := 2) rfl, trivial⟩) ?_)
        simp only [Act.put, List.setIfInBounds_toArray, List.set_cons_zero, List.set_cons_succ]
        clear hK
        have hbn := Blk.new w2 91 [R32 x.lo, R32 x.hi]
        have hfn : Fr [] w2 (w2.alloc (.cells [R32 x.lo, R32 x.hi].toArray 91)) := (Fr.refl [] w2).alloc _
        have hsn : (w2.alloc (.cells [R32 x.lo, R32 x.hi].toArray 91)).heap.size = w2.heap.size + 1 := by simp
        generalize w2.alloc (.cells [R32 x.lo, R32 x.hi].toArray 91) = w3 at *
        refine wpAnyK_step (j := 6) (some 20) rfl rfl (by kernel_rfl) rfl fun K hK => ?_
        refine wp_append_fr (.tmp 15) (.tmp 19) rfl 91 2 8 Try.underlying40 hi hz' hsz' hby rfl (by omega) sv acc.length (spCells acc) rfl (own_fr HOW2.out hfn (by simp)) ⟨w2.heap.size, 0, none⟩ 1 1 [R32 x.lo, R32 x.hi] rfl rfl (fun j u hu => by rw [Addr.add_mid, Nat.zero_add]; exact hbn.at_ hu) (by intro u hu; simp at hu; rcases hu with rfl | rfl <;> rfl) (by omega) (by unfold maxLen; omega) (by omega) (w2.heap.size + 1) hsn fun g7 cap w7 ho7 hf7 hat7 hlt7 => hK _ _ (fun _ => ⟨((HO2.out.fr hfn (by simp)).fr hf7 (by simpa using hne)).at_ (i := 2) rfl, trivial⟩) ?_
        simp only [Act.put, List.setIfInBounds_toArray, List.set_cons_zero, List.set_cons_succ]
        clear hK
        have hO7 := (HO2.out.fr hfn (by simp)).fr hf7 (by simpa using hne)
        refine wpAnyK_take (i := 7) (some 21) ?vq1_7 rfl rfl (by kernel_rfl) (fun _ _ _ h => h) ⟨hO7.at_ (i := 2) rfl, trivial⟩ (.inl ⟨rfl, fun W hW => ?yq1_7⟩) ?_
        case yq1_7 => (obtain ⟨c2', _⟩ := hW; go_simp) <;> with_reducible rfl
        simp only [Act.put, List.setIfInBounds_toArray, List.set_cons_zero, List.set_cons_succ]
        refine wpAnyK_step (j := 8) none rfl rfl (by kernel_rfl) rfl fun K hK => ?_
        refine wp_run_skip (w' := w7.setCell ⟨w1.heap.size, 2, none⟩ (.slice (some ⟨g7, 0, none⟩) (acc.length + 1) cap)) (by have o2 := hO7.at_ (i := 2) rfl; have of := hO7.free 2; go_simp) (hK _ _ (fun h => absurd h (by decide +kernel)) ?_)
        simp only [Act.put]
        refine wpAnyK_done (by kernel_rfl) ?_ _
        have hrel := cl_step (k := s2.l.length) HXK2.out (by omega) (Nat.le_refl _) (by omega) HP2.out HR2.out HLT.out hz1 HZ2.out HO2.out hne hne' HGE.out HF2.out hfn hf7 ho7 hat7 h1z
        have HREL := Lib.hid hrel
        clear hrel hK hO7 hf7 ho7 hat7 hlt7 hbn hfn hsn
        generalize w7.setCell ⟨w1.heap.size, 2, none⟩ (.slice (some ⟨g7, 0, none⟩) (acc.length + 1) cap) = w8 at *
        go_wp2_with fail
        go_roundg s2.l.length
        case measure => omega
        case rel => exact HREL.out
    | false =>
      have hr0 := HLT.out
      go_wp2_with fail
      refine (is_any HR.out (by omega)).mono ?_
      rintro e w5 ⟨rfl, hr5, hf5, hs5⟩
      have HO5 := Lib.hid (HO.out.fr hf5 (by simp; omega))
      have HZ5 := Lib.hid (HZR.out.fr hf5 (by simp; omega))
      have HOW5 := Lib.hid (own_fr HOWN.out hf5 (fun g hg => by have := HGE.out g hg; simp; omega))
      have HF5 := Lib.hid (HF.out.trans hf5 (fun x hx => .inl hx))
      by_cases hp93 : sk.peek = 93
      · have e5 : sk.isB 93 = true := by simpa [RS.isB] using hp93
        have e6 : sk.isS 93 = sk.next := by simp [RS.isS, hp93]
        rw [e6] at hr5
        rw [e5]
        have HR5 := Lib.hid hr5
        have HE : Hid (s.class_ = some (.char neg acc, sk.next)) := Lib.hid (by rw [HX.out, HXK.out, RS.items_done (by omega) hp93]; simp)
        obtain ⟨A, c, rfl, _, _⟩ := own_shape HOW5.out
        have c0 := HO5.out.at_ (i := 0) rfl
        have c1 := HO5.out.at_ (i := 1) rfl
        have c2 := HO5.out.at_ (i := 2) rfl
        have c3 := HO5.out.at_ (i := 3) rfl
        have c4 := HO5.out.at_ (i := 4) rfl
        have c5 := HO5.out.at_ (i := 5) rfl
        have z0 := HZ5.out.at_ (i := 0) rfl
        have z1 := HZ5.out.at_ (i := 1) rfl
        have z2 := HZ5.out.at_ (i := 2) rfl
        have z3 := HZ5.out.at_ (i := 3) rfl
        have z4 := HZ5.out.at_ (i := 4) rfl
        have z5 := HZ5.out.at_ (i := 5) rfl
        have zf := HZ5.out.free
        clear hr5 hf5 hs5 e5 e6 hp93
        have hne2 : ¬ w.heap.size = w1.heap.size := by omega
        go_wp2_with fail
        have hsp : ∃ g, SlAt w5 (.slice A acc.length c) acc.length (spCells acc) g ∧ (0 < acc.length → w.heap.size ≤ g ∧ g ≠ w.heap.size) := by
          obtain ⟨g, h1, h2, _⟩ := SlAt.of_own HOW5.out 0
          exact ⟨g, h1, fun h => ⟨HGE.out g (h2 h), fun e => own_ne HOW5.out HZ5.out (by decide) (e ▸ h2 h)⟩⟩
        obtain ⟨g, h1, h2⟩ := hsp
        have hfz := Fr.set6 w5 w.heap.size (.int .i64 0) (.bool neg) (.slice A acc.length c) (.slice none 0 0) (.int .i64 0) (.int .i64 0)
        refine ret_blk (g := w.heap.size) (t' := 43) (d := _) rfl rfl (HZ5.out.set6 (.int .i64 0) (.bool neg) (.slice A acc.length c) (.slice none 0 0) (.int .i64 0) (.int .i64 0)) Try.underlying43 rfl (by kernel_rfl) (HQ.out _ _ (pres_some HE.out ⟨_, rfl, PartAt.char_ ⟨g, h1.fr hfz (fun h => by simpa using (h2 h).2), fun h => (h2 h).1⟩⟩ ?_ ?_))
        · exact HR5.out.fr hfz (by simpa using hr0)
        · exact HF5.out.trans hfz (by simp)
      · have e5 : sk.isB 93 = false := by simpa [RS.isB] using hp93
        have e6 : sk.isS 93 = sk := by simp [RS.isS, hp93]
        rw [e6] at hr5
        rw [e5]
        have HR5 := Lib.hid hr5
        have HON : Hid (¬ (false = false ∧ sk.peek = 93)) := Lib.hid (by simpa using hp93)
        clear hr5 hf5 hs5 e5 e6 hp93 hr0
        have HC := Lib.hid (item_any (HR5.out.fr ((Fr.refl [] w5).drew) (by simp)) HPK.out false)
        have c2 := HO5.out.at_ (i := 2) rfl
        obtain ⟨m', rfl⟩ : ∃ m', m = m' + 1 := ⟨m - 1, by omega⟩
        have HI := Lib.hid (RS.items_on (m := m') HON.out)
        go_wp2_with fail
        refine wp_region_K (fun W => W.cell? ⟨w1.heap.size, 2, none⟩ = some sv ∧ True) [0, 1, 2, 3, 7] (by kernel_rfl) ?_
        refine wpAnyK_take (i := 0) (some 14) ?vq2_0 rfl rfl (by kernel_rfl) (fun _ _ _ h => h) ⟨c2, trivial⟩ (.inl ⟨rfl, fun W hW => ?yq2_0⟩) ?_
        case yq2_0 => (obtain ⟨c2', _⟩ := hW; go_simp) <;> with_reducible rfl
        simp only [Act.put, List.setIfInBounds_toArray, List.set_cons_zero, List.set_cons_succ]
        refine wpAnyK_take (i := 1) (some 15) ?vq2_1 rfl rfl (by kernel_rfl) (fun _ _ _ h => h) ⟨c2, trivial⟩ (.inl ⟨rfl, fun W hW => ?yq2_1⟩) ?_
        case yq2_1 => (obtain ⟨c2', _⟩ := hW; go_simp) <;> with_reducible rfl
        simp only [Act.put, List.setIfInBounds_toArray, List.set_cons_zero, List.set_cons_succ]
        refine wpAnyK_take (i := 2) (some 16) ?vq2_2 rfl rfl (by kernel_rfl) (fun _ _ _ h => h) ⟨c2, trivial⟩ (.inl ⟨rfl, fun W hW => ?yq2_2⟩) ?_
        case yq2_2 => (obtain ⟨c2', _⟩ := hW; go_simp) <;> with_reducible rfl
        simp only [Act.put, List.setIfInBounds_toArray, List.set_cons_zero, List.set_cons_succ]
        refine wpAnyK_take (i := 3) (some 17) ?vq2_3 rfl rfl (by kernel_rfl) (fun _ _ _ h => h) ⟨c2, trivial⟩ (.inl ⟨rfl, fun W hW => ?yq2_3⟩) ?_
        case yq2_3 => (obtain ⟨c2', _⟩ := hW; go_simp) <;> with_reducible rfl
        simp only [Act.put, List.setIfInBounds_toArray, List.set_cons_zero, List.set_cons_succ]
        refine wpAnyK_step (j := 4) (some 18) rfl rfl (by kernel_rfl) rfl fun K hK => ?_
        cases hi : sk.item false with
        | none =>
          refine wp_callp (l := [.tmp 16, .tmp 17]) rfl [.pointer (some ⟨r, 0, none⟩), .bool false] rfl (enter_item _) (HC.out.mono ?_)
          rw [hi] at HI ⊢
          rintro e w2 ⟨rfl, hf⟩
          have HN : Hid (s.class_ = none) := Lib.hid (by rw [HX.out, HXK.out, HI.out]; rfl)
          exact .inr ⟨_, rfl, rfl, HQ.out _ _ (pres_none HN.out (HF5.out.trans ((Fr.refl [r] w5).drew.trans hf (fun x hx => .inl hx)) (fun x hx => .inl hx)))⟩
        | some y =>
          obtain ⟨x, s2⟩ := y
          have hil := RS.item_len hi
          have HP2 := Lib.hid (RS.item_pos HPK.out hi)
          refine wp_callp (l := [.tmp 16, .tmp 17]) rfl [.pointer (some ⟨r, 0, none⟩), .bool false] rfl (enter_item _) (HC.out.mono ?_)
          rw [hi] at HI ⊢
          have HXK2 : Hid (X = (RS.items m' false s2).map (fun r => ((acc ++ [x]) ++ r.1, r.2))) := Lib.hid (by rw [HXK.out, HI.out]; simp [Option.map_map, Function.comp_def])
          rintro e w2 ⟨_, rfl, rfl, hr2, hf2⟩
          have hf2' : Fr [r] w5 w2 := (Fr.refl [r] w5).drew.trans hf2 (fun x hx => .inl hx)
          have hr0 := HLT.out
          have ho2 := HO5.out.fr hf2' (by simp; omega)
          have HO2 := Lib.hid ho2
          have HZ2 := Lib.hid (HZ5.out.fr hf2' (by simp; omega))
          have HOW2 := Lib.hid (own_fr HOW5.out hf2' (fun g hg => by have := HGE.out g hg; simp; omega))
          have HR2 := Lib.hid hr2
          have HF2 := Lib.hid (HF5.out.trans hf2' (fun x hx => .inl hx))
          have hne : sv.ownBlock ≠ some w1.heap.size := own_ne HOW5.out HO5.out (by decide)
          have hne' : sv.ownBlock ≠ some w.heap.size := own_ne HOW5.out HZ5.out (by decide)
          have h1z := ho2.lt
          refine .inl ⟨_, rfl, hK _ _ (fun _ => ⟨ho2.at_ (i := 2) rfl, trivial⟩) ?_⟩
          simp only [Act.put, List.setIfInBounds_toArray, List.set_cons_zero, List.set_cons_succ]
          clear hr2 hf2 hf2' ho2 hi hK
          refine wpAnyK_step (j := 5) (some 19) rfl rfl (by kernel_rfl) rfl fun K hK => ?_
          obtain ⟨iu, hi, hz', hsz', hby⟩ := info_parts info_span
          refine wp_build_one (.tmp 18) rfl Try.underlying40 hi hz' [R32 x.lo, R32 x.hi] rfl hsz' rfl (by simp) (by simp) (hK _ _ (fun _ => ⟨(HO2.out.alloc _).at_ (i := 2) rfl, trivial⟩) ?_)
          simp only [Act.put, List.setIfInBounds_toArray, List.set_cons_zero, List.set_cons_succ]
          clear hK
          have hbn := Blk.new w2 91 [R32 x.lo, R32 x.hi]
          have hfn : Fr [] w2 (w2.alloc (.cells [R32 x.lo, R32 x.hi].toArray 91)) := (Fr.refl [] w2).alloc _
          have hsn : (w2.alloc (.cells [R32 x.lo, R32 x.hi].toArray 91)).heap.size = w2.heap.size + 1 := by simp
          generalize w2.alloc (.cells [R32 x.lo, R32 x.hi].toArray 91) = w3 at *
          refine wpAnyK_step (j := 6) (some 20) rfl rfl (by kernel_rfl) rfl fun K hK => ?_
          refine wp_append_fr (.tmp 15) (.tmp 19) rfl 91 2 8 Try.underlying40 hi hz' hsz' hby rfl (by omega) sv acc.length (spCells acc) rfl (own_fr HOW2.out hfn (by simp)) ⟨w2.heap.size, 0, none⟩ 1 1 [R32 x.lo, R32 x.hi] rfl rfl (fun j u hu => by rw [Addr.add_mid, Nat.zero_add]; exact hbn.at_ hu) (by intro u hu; simp at hu; rcases hu with rfl | rfl <;> rfl) (by omega) (by unfold maxLen; omega) (by omega) (w2.heap.size + 1) hsn fun g7 cap w7 ho7 hf7 hat7 hlt7 => hK _ _ (fun _ => ⟨((HO2.out.fr hfn (by simp)).fr hf7 (by simpa using hne)).at_ (i := 2) rfl, trivial⟩) ?_
          simp only [Act.put, List.setIfInBounds_toArray, List.set_cons_zero, List.set_cons_succ]
          clear hK
          have hO7 := (HO2.out.fr hfn (by simp)).fr hf7 (by simpa using hne)
          refine wpAnyK_take (i := 7) (some 21) ?vq2_7 rfl rfl (by kernel_rfl) (fun _ _ _ h => h) ⟨hO7.at_ (i := 2) rfl, trivial⟩ (.inl ⟨rfl, fun W hW => ?yq2_7⟩) ?_
          case yq2_7 => (obtain ⟨c2', _⟩ := hW; go_simp) <;> with_reducible rfl
          simp only [Act.put, List.setIfInBounds_toArray, List.set_cons_zero, List.set_cons_succ]
          refine wpAnyK_step (j := 8) none rfl rfl (by kernel_rfl) rfl fun K hK => ?_
          refine wp_run_skip (w' := w7.setCell ⟨w1.heap.size, 2, none⟩ (.slice (some ⟨g7, 0, none⟩) (acc.length + 1) cap)) (by have o2 := hO7.at_ (i := 2) rfl; have of := hO7.free 2; go_simp) (hK _ _ (fun h => absurd h (by decide +kernel)) ?_)
          simp only [Act.put]
          refine wpAnyK_done (by kernel_rfl) ?_ _
          have hrel := cl_step (k := s2.l.length) HXK2.out (by omega) (Nat.le_refl _) (by omega) HP2.out HR2.out HLT.out hz1 HZ2.out HO2.out hne hne' HGE.out HF2.out hfn hf7 ho7 hat7 h1z
          have HREL := Lib.hid hrel
          clear hrel hK hO7 hf7 ho7 hat7 hlt7 hbn hfn hsn
          generalize w7.setCell ⟨w1.heap.size, 2, none⟩ (.slice (some ⟨g7, 0, none⟩) (acc.length + 1) cap) = w8 at *
          go_wp2_with fail
          go_roundg s2.l.length
          case measure => omega
          case rel => exact HREL.out

end Go.Proofs.Ytnhlgjjdpappkaa
