/-
  The contract of maybe.
-/
import Derived.Test.YtnhlgjjdpappkaaCc
namespace Go.Proofs.Ytnhlgjjdpappkaa
open Go.RowKit

/-- Parts that may be left out; the first k forks are led to e already. -/
def mayK (f : Nat → List Rop) (len : Nat) : Nat → Nat → Nat → Nat → List Rop
  | 0, _, _, _ => []
  | n + 1, k, b, e => .fork (if 0 < k then e else 0) :: (f (b + 1) ++ mayK f len n (k - 1) (b + 1 + len) e)
section
variable {f : Nat → List Rop} {len : Nat} (hf : ∀ b, (f b).length = len)
theorem mayK_all : ∀ (n k b e : Nat), n ≤ k → mayK f len n k b e = mayCode f len n b e
  | 0, _, _, _, _ => rfl
  | n + 1, k, b, e, h => by rw [mayK, mayCode, if_pos (by omega), mayK_all n (k - 1) _ _ (by omega)]
theorem mayK_none : ∀ (n b e : Nat), mayK f len n 0 b e = mayCode f len n b 0
  | 0, _, _ => rfl
  | n + 1, b, e => by rw [mayK, mayCode, if_neg (by omega), mayK_none n]
include hf
theorem mayK_len : ∀ (n k b e : Nat), (mayK f len n k b e).length = n * (1 + len)
  | 0, _, _, _ => by simp [mayK]
  | n + 1, k, b, e => by simp [mayK, hf, mayK_len n, Nat.succ_mul]; omega
theorem mayK_get : ∀ (n k b e : Nat), k < n → (mayK f len n k b e)[k * (1 + len)]? = some (.fork 0)
  | 0, _, _, _, h => by omega
  | n + 1, 0, b, e, _ => by simp [mayK]
  | n + 1, k + 1, b, e, h => by
    rw [mayK, show (k + 1) * (1 + len) = k * (1 + len) + len + 1 by rw [Nat.succ_mul]; omega, List.getElem?_cons_succ, List.getElem?_append_right (by rw [hf]; omega), hf, show k * (1 + len) + len - len = k * (1 + len) by omega]
    exact mayK_get n k _ _ (by omega)
theorem mayK_set : ∀ (n k b e : Nat), k < n → (mayK f len n k b e).set (k * (1 + len)) (.fork e) = mayK f len n (k + 1) b e
  | 0, _, _, _, h => by omega
  | n + 1, 0, b, e, _ => by
    rw [mayK, mayK, Nat.zero_mul, List.set_cons_zero, if_pos (by omega)]
  | n + 1, k + 1, b, e, h => by
    have ih := mayK_set n k (b + 1 + len) e (by omega)
    rw [mayK, mayK, if_pos (show 0 < k + 1 by omega), if_pos (show 0 < k + 1 + 1 by omega), show (k + 1) * (1 + len) = k * (1 + len) + len + 1 by rw [Nat.succ_mul]; omega, List.set_cons_succ, List.set_append, if_neg (by rw [hf]; omega), hf, show k * (1 + len) + len - len = k * (1 + len) by omega, show k + 1 - 1 = k by omega, show k + 1 + 1 - 1 = k + 1 by omega, ih]
omit hf in
theorem mayCode_snoc : ∀ (n b e : Nat), mayCode f len (n + 1) b e = mayCode f len n b e ++ .fork e :: f (b + n * (1 + len) + 1)
  | 0, b, e => by simp [mayCode]
  | n + 1, b, e => by
    rw [mayCode, mayCode_snoc n (b + 1 + len) e, mayCode]
    simp only [List.cons_append, List.append_assoc]
    rw [show b + 1 + len + n * (1 + len) + 1 = b + (n + 1) * (1 + len) + 1 by rw [Nat.succ_mul]; omega]
end
theorem CStep.frS {S : List Nat} {a b c : World} {gp : Nat} {v x : Value} (k : CStep a b gp v x) (h : Fr S b c) (hS : ∀ y ∈ S, a.heap.size ≤ y) : CStep a c gp v x := ⟨k.1.trans h (fun y hy => .inr (hS y hy)), k.2⟩
def I64 (n : Nat) : Value := .int .i64 (n : Int)
theorem info_int : (Try.prog.info? 3).map (fun i => (i.zero, i.size, i.bytes)) = some (some (.int .i64 0), 1, 8) := by kernel_rfl
theorem enter_put (vs : Array Value) (w : World) : (callFunc 20 vs).run Try.prog w = .ok (.enter 20 vs) w := by kernel_rfl
/-- A slice of places of the call's own, apart from the program. -/
structure FK (w w0 : World) (gp gx : Nat) (v fv : Value) (l : List Nat) : Prop where
  own : w.ownsRow 0 3 1 fv l.length (l.map I64)
  lo : ∀ g, fv.ownBlock = some g → w0.heap.size ≤ g ∧ g ≠ gp ∧ g ≠ gx ∧ v.ownBlock ≠ some g
theorem FK.nil (w w0 : World) (gp gx : Nat) (v : Value) : FK w w0 gp gx v (.slice none 0 0) [] := ⟨own_nil _ _ _ _, by simp [Value.ownBlock]⟩
theorem FK.lt {w w0 : World} {gp gx : Nat} {v fv : Value} {l : List Nat} (h : FK w w0 gp gx v fv l) : ∀ g, fv.ownBlock = some g → g < w.heap.size := own_lt h.own
theorem FK.step {w w' w0 : World} {gp gx : Nat} {v v' fv : Value} {l : List Nat} (h : FK w w0 gp gx v fv l) (k : CStep w w' gp v v') : FK w' w0 gp gx v' fv l := by
  refine ⟨own_fr h.own k.1 (fun g hg hm => ?_), fun g hg => ?_⟩
  · obtain ⟨_, h1, h2, h3⟩ := h.lo g hg
    rcases List.mem_cons.1 hm with e | e
    · exact h1 e
    · exact h3 (by simpa using e)
  · obtain ⟨h0, h1, h2, h3⟩ := h.lo g hg
    refine ⟨h0, h1, h2, fun e => ?_⟩
    rcases k.2 g e with e | e
    · exact h3 e
    · have := h.lt g hg; omega
theorem FK.push {w w3 w7 w0 : World} {gp gx : Nat} {v fv : Value} {l : List Nat} {x g7 cap H : Nat} (h : FK w w0 gp gx v fv l) (hf3 : Fr [] w w3) (hH : w.heap.size ≤ H) (hgp : gp < H) (hgx : gx < H) (hw0 : w0.heap.size ≤ H) (hov : ∀ g, v.ownBlock = some g → g < H) (hf7 : Fr fv.ownBlock.toList w3 w7) (ho7 : w7.ownsRow 0 3 1 (.slice (some ⟨g7, 0, none⟩) (l.length + 1) cap) (l.length + 1) (l.map I64 ++ [I64 x])) (hat : fv.ownBlock = some g7 ∨ g7 = H) :
    FK w7 w0 gp gx v (.slice (some ⟨g7, 0, none⟩) (l.length + 1) cap) (l ++ [x]) := by
  refine ⟨by rw [List.length_append, List.map_append]; exact ho7, fun g hg => ?_⟩
  have e : g7 = g := by simpa [Value.ownBlock] using hg
  subst e
  rcases hat with e | e
  · exact h.lo _ e
  · refine ⟨by omega, by omega, by omega, fun e' => ?_⟩
    have := hov _ e'; omega

def MyRel (w w0 : World) (gp B gx : Nat) (v : Value) (ops : List Rop) (p : Pt) (bx : List Value) (n j : Nat) (v6 v10 : Value) (wr : World) : Prop :=
  ∃ (k : Nat) (v' : Value), k + j = n ∧ v10 = .int .i64 (k : Int) ∧ CP wr gp B v' (ops ++ mayCode p.code p.len k ops.length 0) ∧ FK wr w0 gp gx v' v6 ((List.range k).map fun i => ops.length + i * (1 + p.len)) ∧ CStep w0 wr gp v v' ∧ Blk wr gx 43 bx ∧ v'.ownBlock ≠ some gx
def HeRel (w0 : World) (gp B : Nat) (v v' fv : Value) (ops : List Rop) (f : Nat → List Rop) (len n j : Nat) (v24 : Value) (wr : World) : Prop :=
  ∃ k : Nat, k + j = n ∧ v24 = .int .i64 (k : Int) ∧ CP wr gp B v' (ops ++ mayK f len n k ops.length (ops.length + n * (1 + len))) ∧ FK wr w0 gp gp v' fv ((List.range n).map fun i => ops.length + i * (1 + len)) ∧ CStep w0 wr gp v v'

set_option maxRecDepth 100000 in
set_option maxHeartbeats 800000 in
theorem maybe_any {m : Nat} (IH : PartOK m) {p : Pt} (hm : SizeOf.sizeOf p < m) {w : World} {gp B : Nat} {v : Value} {ops : List Rop} {cs : List Value} {n : Nat} (h : CP w gp B v ops) (hp : PartAt w (fun g => g < B) p cs) (ho : p.ok) (hB : B ≤ w.heap.size) (hn : ops.length + n * (1 + p.len) < 90000) (hn1 : n ≤ 99) :
    Calls Try.prog 34 #[.pointer (some ⟨gp, 0, none⟩), .agg cs.toArray, .int .i64 (n : Int)] w (LayRes w gp B v (ops ++ mayCode p.code p.len n ops.length (ops.length + n * (1 + p.len)))) := by
  refine calls_post fun R HQ => ?_
  have HIH := Lib.hid IH; have HO := Lib.hid ho
  obtain ⟨sv, lv, rfl, hs, hl⟩ := hp.inv
  obtain ⟨A1, c1, rfl⟩ := hs.slice
  obtain ⟨A2, c2, rfl⟩ := hl.slice
  unfold pcells at hp ⊢
  generalize p.kind = pk at *
  generalize p.neg = pn at *
  generalize p.lo = plo at *
  generalize p.hi = phi at *
  generalize p.set.length = n1 at *
  generalize p.subs.length = n2 at *
  have hlt := h.lt
  have hfa : Fr [] w (w.alloc (.cells #[.int .i64 pk, .bool pn, .slice A1 n1 c1, .slice A2 n2 c2, .int .i64 plo, .int .i64 phi] 43)) := (Fr.refl [] w).alloc _
  have hsa : (w.alloc (.cells #[.int .i64 pk, .bool pn, .slice A1 n1 c1, .slice A2 n2 c2, .int .i64 plo, .int .i64 phi] 43)).heap.size = w.heap.size + 1 := by simp
  have HBX := Lib.hid (Blk.new w 43 [.int .i64 pk, .bool pn, .slice A1 n1 c1, .slice A2 n2 c2, .int .i64 plo, .int .i64 phi])
  have HC0 := Lib.hid (h.frn hfa); have HP0 := Lib.hid (hp.fr hfa (by simp)); have HFA := Lib.hid hfa
  have HOW : Hid (v.ownBlock ≠ some w.heap.size) := Lib.hid fun e => by have := hlt.2 _ e; omega
  have hgp : gp < w.heap.size := hlt.1
  clear h hp hs hl hfa hlt
  go_enter Try.func34, Try.ntmps34
  go_wp2_with fail
  generalize w.alloc (.cells #[.int .i64 pk, .bool pn, .slice A1 n1 c1, .slice A2 n2 c2, .int .i64 plo, .int .i64 phi] 43) = w0 at *
  go_loopg [6, 10] n (MyRel w w0 gp B w.heap.size v ops p [.int .i64 pk, .bool pn, .slice A1 n1 c1, .slice A2 n2 c2, .int .i64 plo, .int .i64 phi] n)
  case atStart => exact ⟨0, v, by omega, rfl, by simpa [mayCode] using HC0.out, FK.nil _ _ _ _ _, CStep.refl _ _ _, HBX.out, HOW.out⟩
  case round =>
    obtain ⟨k, v', hk, rfl, hC, hFK, hS, hbx, hov⟩ := hrel
    have HC := Lib.hid hC; have HFK := Lib.hid hFK; have HS := Lib.hid hS; have HBX' := Lib.hid hbx; have HOV := Lib.hid hov
    have hzr := hS.1.size
    clear hC hFK hS hbx hov
    have hml : (mayCode p.code p.len k ops.length 0).length = k * (1 + p.len) := mayCode_len p.code_len _ _ _
    have hkk : k * (1 + p.len) ≤ n * (1 + p.len) := Nat.mul_le_mul_right _ (by omega)
    by_cases hkn : k < n
    · have hk1 : k * (1 + p.len) + (1 + p.len) ≤ n * (1 + p.len) := by rw [← Nat.succ_mul]; exact Nat.mul_le_mul_right _ (by omega)
      have hplt := HC.out.lt
      have HPr := Lib.hid (HS.out.part HC0.out HP0.out)
      obtain ⟨fA, fc, hfv, hfn, _⟩ := own_shape HFK.out.own
      rw [List.length_map, List.length_range] at hfv
      subst hfv
      have hpos : (ops ++ mayCode p.code p.len k ops.length 0).length = ops.length + k * (1 + p.len) := by rw [List.length_append, hml]
      have HCP := Lib.hid (put_any HC.out (fork_at wr B 0) (by omega) (by rw [hpos]; omega))
      rw [hpos] at HCP
      clear hpos
      obtain ⟨pos, hpos⟩ : ∃ pos, pos = ops.length + k * (1 + p.len) := ⟨_, rfl⟩
      rw [← hpos] at HCP
      have HPOS := Lib.hid hpos
      clear hpos
      go_upto_region 4 with fail
      refine wp_region_lit ?_
      refine wpList_plain rfl fun K hK => ?_
      refine wp_run_same (v := ?au2_0) ?yu2_0 (hK _ _ ?_)
      case yu2_0 => go_simp <;> with_reducible rfl
      clear hK K
      simp only [Act.put, List.setIfInBounds_toArray, List.set_cons_zero, List.set_cons_succ]
      refine wpList_plain rfl fun K hK => ?_
      refine wp_run_same (v := ?au3_1) ?yu3_1 (hK _ _ ?_)
      case yu3_1 => go_simp <;> with_reducible rfl
      clear hK K
      simp only [Act.put, List.setIfInBounds_toArray, List.set_cons_zero, List.set_cons_succ]
      refine wpList_plain rfl fun K hK => ?_
      refine wp_run_same (v := ?au4_2) ?yu4_2 (hK _ _ ?_)
      case yu4_2 => go_simp <;> with_reducible rfl
      clear hK K
      simp only [Act.put, List.setIfInBounds_toArray, List.set_cons_zero, List.set_cons_succ]
      refine wpList_plain rfl fun K hK => ?_
      refine wp_callp (l := [.tmp 13, .tmp 14]) rfl [.pointer (some ⟨gp, 0, none⟩), .agg #[.int .i64 1, .bool false, .slice none 0 0, .int .i64 0]] rfl (enter_put _) (HCP.out.mono ?_)
      rintro e w1 ⟨rfl, v1, hC1, hS1⟩
      refine .inl ⟨_, rfl, hK _ _ ?_⟩
      simp only [Act.put, List.setIfInBounds_toArray, List.set_cons_zero, List.set_cons_succ]
      clear hK
      have hFK1 := HFK.out.step hS1
      obtain ⟨hbx1, hov1⟩ := hS1.keep HBX'.out (by omega) HOV.out
      have hz1 := hS1.1.size
      have hgp1 := hC1.lt
      refine wpList_plain rfl fun K hK => ?_
      obtain ⟨iu, hi, hz', hsz', hby⟩ := info_parts info_int
      refine wp_build_cell (.tmp 15) rfl Try.underlying74 hi hz' hsz' rfl (.int .i64 (pos : Int)) rfl rfl w1.heap.size rfl fun w2 hbn hfn2 hsn => hK _ _ ?_
      simp only [Act.put, List.setIfInBounds_toArray, List.set_cons_zero, List.set_cons_succ]
      clear hK
      refine wpList_plain rfl fun K hK => ?_
      refine wp_append_fr (.tmp 12) (.tmp 16) rfl 3 1 8 Try.underlying74 hi hz' hsz' hby rfl (by omega) (.slice fA k fc) k (((List.range k).map fun i => ops.length + i * (1 + p.len)).map I64) rfl (by have := own_fr hFK1.own hfn2 (by simp); rwa [List.length_map, List.length_range] at this) ⟨w1.heap.size, 0, none⟩ 1 1 [.int .i64 (pos : Int)] rfl rfl (fun j u hu => by rw [Addr.add_mid, Nat.zero_add]; exact hbn.at_ hu) (by intro u hu; simp at hu; subst hu; rfl) (by omega) (by unfold maxLen; omega) (by omega) (w1.heap.size + 1) hsn fun g7 cap w7 ho7 hf7 hat7 hlt7 => hK _ _ ?_
      simp only [Act.put, List.setIfInBounds_toArray, List.set_cons_zero, List.set_cons_succ]
      clear hK
      refine wpList_plain rfl fun K hK => ?_
      refine wp_run_same (v := ?au5_6) ?yu5_6 (hK _ _ ?_)
      case yu5_6 => go_simp <;> with_reducible rfl
      clear hK K
      simp only [Act.put, List.setIfInBounds_toArray, List.set_cons_zero, List.set_cons_succ]
      refine wpList_nil ?_
      have hfS : ∀ y ∈ (Value.slice fA k fc).ownBlock.toList, w0.heap.size ≤ y ∧ y ≠ gp ∧ y ≠ w.heap.size ∧ v1.ownBlock ≠ some y := fun y hy => hFK1.lo y (by simpa using hy)
      have hf17 : Fr (Value.slice fA k fc).ownBlock.toList w1 w7 := (hfn2.mono (by simp)).trans hf7 (fun x hx => .inl hx)
      have hC7 : CP w7 gp B v1 (ops ++ mayCode p.code p.len k ops.length 0 ++ [Rop.fork 0]) := hC1.fr hf17 (fun hm' => (hfS _ hm').2.1 rfl) (fun g hg hm' => (hfS g hm').2.2.2 hg) (fun x hx => by have := (hfS x hx).1; omega)
      have hbx7 := hbx1.fr hf17 (fun hm' => (hfS _ hm').2.2.1 rfl)
      have hFK7 : FK w7 w0 gp w.heap.size v1 (.slice (some ⟨g7, 0, none⟩) (k + 1) cap) (((List.range k).map fun i => ops.length + i * (1 + p.len)) ++ [pos]) := by
        have := FK.push (x := pos) (g7 := g7) (cap := cap) (H := w1.heap.size + 1) hFK1 hfn2 (by omega) (by omega) (by omega) (by omega) (fun g hg => by have := hgp1.2 g hg; omega) hf7 (by rw [List.length_map, List.length_range]; exact ho7) hat7
        rwa [List.length_map, List.length_range] at this
      have hS7 : CStep w0 w7 gp v v1 := (HS.out.trans hS1).frS hf17 (fun y hy => (hfS y hy).1)
      have hz7 := hf17.size
      have HC7 := Lib.hid hC7; have HBX7 := Lib.hid hbx7; have HFK7 := Lib.hid hFK7; have HS7 := Lib.hid hS7; have HOV7 := Lib.hid hov1
      have HP7 := Lib.hid (hS7.part HC0.out HP0.out)
      clear hC7 hbx7 hFK7 hS7 hf17 hfS hf7 ho7 hat7 hlt7 hbn hfn2 hsn hFK1 hbx1 hov1 hC1 hS1 hgp1 hi hz' hsz' hby HCP
      have y0 := HBX7.out.at_ (i := 0) rfl
      have y1 := HBX7.out.at_ (i := 1) rfl
      have y2 := HBX7.out.at_ (i := 2) rfl
      have y3 := HBX7.out.at_ (i := 3) rfl
      have y4 := HBX7.out.at_ (i := 4) rfl
      have y5 := HBX7.out.at_ (i := 5) rfl
      have hl7 : (ops ++ mayCode p.code p.len k ops.length 0 ++ [Rop.fork 0]).length = pos + 1 := by rw [HPOS.out]; simp [hml]; omega
      have HCQ := Lib.hid (HIH.out p hm w7 gp B v1 _ _ HC7.out HP7.out HO.out (by omega) (by rw [hl7, HPOS.out]; omega))
      rw [hl7] at HCQ
      clear hl7
      go_wp2_with fail
      refine HCQ.out.mono ?_
      rintro e w8 ⟨rfl, v8, hC8, hS8⟩
      obtain ⟨hbx8, hov8⟩ := hS8.keep HBX7.out (by omega) HOV7.out
      have hFK8 := HFK7.out.step hS8
      have HC8 := Lib.hid hC8; have HS8 := Lib.hid (HS7.out.trans hS8); have HBX8 := Lib.hid hbx8; have HOV8 := Lib.hid hov8; have HFK8 := Lib.hid hFK8
      clear hC8 hS8 hbx8 hov8 hFK8 y0 y1 y2 y3 y4 y5
      go_wp2_with fail
      go_roundg (gk - 1)
      case measure => omega
      case rel =>
        refine ⟨k + 1, v8, by omega, by go_num, ?_, ?_, HS8.out, HBX8.out, HOV8.out⟩
        · rw [mayCode_snoc, ← HPOS.out]
          have := HC8.out
          simpa using this
        · rw [List.range_succ, List.map_append]
          simpa [HPOS.out] using HFK8.out
    · obtain rfl : k = n := by omega
      have HFKn : Hid (FK wr w0 gp gp v' u6 ((List.range k).map fun i => ops.length + i * (1 + p.len))) := Lib.hid ⟨HFK.out.own, fun g hg => ⟨(HFK.out.lo g hg).1, (HFK.out.lo g hg).2.1, (HFK.out.lo g hg).2.1, (HFK.out.lo g hg).2.2.2⟩⟩
      obtain ⟨fA, fc, hfv, hfn, _⟩ := own_shape HFK.out.own
      rw [List.length_map, List.length_range] at hfv hfn
      subst hfv
      have HCn : Hid (CP wr gp B v' (ops ++ mayK p.code p.len k 0 ops.length (ops.length + k * (1 + p.len)))) := Lib.hid (by rw [mayK_none]; exact HC.out)
      clear HC HFK HBX' HOV hk
      go_wp2_with fail
      go_loopg [24] k (HeRel w0 gp B v v' (.slice fA k fc) ops p.code p.len k)
      case atStart => exact ⟨0, by omega, rfl, HCn.out, HFKn.out, HS.out⟩
      case round =>
        obtain ⟨j, hj, rfl, hC, hFK, hS⟩ := hrel
        have HCj := Lib.hid hC; have HFKj := Lib.hid hFK; have HSj := Lib.hid hS
        clear hC hFK hS HCn HFKn HS
        by_cases hjk : j < k
        · obtain ⟨g, rfl, hcell⟩ := own_cell (by have := HFKj.out.own; rwa [List.length_map, List.length_range] at this) (by omega)
          have cj := hcell j (I64 (ops.length + j * (1 + p.len))) (by simp [hjk])
          unfold I64 at cj
          have hget : (ops ++ mayK p.code p.len k j ops.length (ops.length + k * (1 + p.len)))[ops.length + j * (1 + p.len)]? = some (.fork 0) := by
            rw [List.getElem?_append_right (by omega), show ops.length + j * (1 + p.len) - ops.length = j * (1 + p.len) by omega]
            exact mayK_get p.code_len k j _ _ hjk
          have hlen : (ops ++ mayK p.code p.len k j ops.length (ops.length + k * (1 + p.len))).length = ops.length + k * (1 + p.len) := by rw [List.length_append, mayK_len p.code_len]
          have hset : (ops ++ mayK p.code p.len k j ops.length (ops.length + k * (1 + p.len))).set (ops.length + j * (1 + p.len)) (Rop.goto_ (.fork 0) (ops ++ mayK p.code p.len k j ops.length (ops.length + k * (1 + p.len))).length) = ops ++ mayK p.code p.len k (j + 1) ops.length (ops.length + k * (1 + p.len)) := by
            rw [hlen, List.set_append, if_neg (by omega), show ops.length + j * (1 + p.len) - ops.length = j * (1 + p.len) by omega]
            show ops ++ (mayK p.code p.len k j ops.length (ops.length + k * (1 + p.len))).set (j * (1 + p.len)) (.fork (ops.length + k * (1 + p.len))) = _
            rw [mayK_set p.code_len k j _ _ hjk]
          have HCH := Lib.hid (here_any HCj.out hget trivial (by rw [hlen]; omega))
          rw [hset] at HCH
          have hzj := HSj.out.1.size
          clear hget hlen hset hcell
          generalize ops.length + j * (1 + p.len) = pos at *
          go_wp2_with fail
          refine HCH.out.mono ?_
          rintro e w9 ⟨rfl, hC9, hS9⟩
          have HC9 := Lib.hid hC9; have HS9 := Lib.hid (HSj.out.trans hS9); have HFK9 := Lib.hid (HFKj.out.step hS9)
          clear hC9 hS9
          go_wp2_with fail
          go_roundg (gk - 1)
          case measure => omega
          case rel => exact ⟨j + 1, by omega, by go_num, HC9.out, HFK9.out, HS9.out⟩
        · obtain rfl : j = k := by omega
          have HCe : Hid (CP wr gp B v' (ops ++ mayCode p.code p.len j ops.length (ops.length + j * (1 + p.len)))) := Lib.hid (by rw [← mayK_all j j _ _ (Nat.le_refl _)]; exact HCj.out)
          go_wp2_with fail
          exact bodyPost_end (results_none rfl _ _ _) rfl (HQ.out _ _ ⟨rfl, v', HCe.out, CStep.pre HFA.out HSj.out⟩)

end Go.Proofs.Ytnhlgjjdpappkaa
