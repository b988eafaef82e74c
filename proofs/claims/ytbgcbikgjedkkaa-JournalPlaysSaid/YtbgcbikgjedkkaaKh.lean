/-
  A slice of law07's operations that came in: five fields: two ints, a byte, bytes, bools; and 'small' of law07.
-/
import Derived.Test.YtbgcbikgjedkkaaKg
namespace Go.Proofs.Ytbgcbikgjedkkaa
open Go.RowKit Go.ChangeShapes Go.WideShapes Go.Deep

/-- One thing that is done, as it came in. -/
structure OpB where
  what : Int
  n : Int
  c : UInt8
  bv : Value
  kv : Value
  bs : List UInt8
  ks : List Bool
structure OpB.at_ (W : World) (g off : Nat) (o : OpB) : Prop where
  c0 : W.cell? ⟨g, off, none⟩ = some (.int .i64 o.what)
  c1 : W.cell? ⟨g, off + 1, none⟩ = some (.int .i64 o.n)
  c2 : W.cell? ⟨g, off + 2, none⟩ = some (B8 o.c)
  c3 : W.cell? ⟨g, off + 3, none⟩ = some o.bv
  c4 : W.cell? ⟨g, off + 4, none⟩ = some o.kv
  b : ArgBytes W o.bv o.bs
  k : ArgBools W o.kv o.ks
  w0 : (Lit.int .i64 o.what).wf = true
  w1 : (Lit.int .i64 o.n).wf = true
def ArgOpsB (W : World) (v : Value) (l : List OpB) : Prop :=
  ∃ A c g off, v = .slice A l.length c ∧ l.length ≤ maxLen ∧ ∀ (j : Nat) (o : OpB), l[j]? = some o → A = some ⟨g, off, none⟩ ∧ o.at_ W g (off + j * 5)
theorem OpB.at_.fr {W w : World} {g off : Nat} {o : OpB} (h : o.at_ W g off) (hf : Fr [] W w) :
    w.cell? ⟨g, off, none⟩ = some (.int .i64 o.what) ∧ w.cell? ⟨g, off + 1, none⟩ = some (.int .i64 o.n) ∧ w.cell? ⟨g, off + 2, none⟩ = some (B8 o.c) ∧ w.cell? ⟨g, off + 3, none⟩ = some o.bv ∧ w.cell? ⟨g, off + 4, none⟩ = some o.kv := by
  exact ⟨hf.keep h.c0, hf.keep h.c1, hf.keep h.c2, hf.keep h.c3, hf.keep h.c4⟩
section
variable {H : Type} {enc : TypeId × Value → H} {P : Program}
theorem arg_opsB {W : World} {t e ti tu tb te tk tke : TypeId} {f0 f1 f2 f3 f4 : Field} {fuel : Nat} {v : Value} {x : DataW H × List MemPlace} (ht : P.underlying t = some (.slice e)) (he : P.underlying e = some (.struct #[f0, f1, f2, f3, f4]))
    (hone : oneCellFields P #[f0, f1, f2, f3, f4] = true) (hC : P.cellsOf e = 5) (h0 : f0.type = ti) (h1 : f1.type = ti) (h2 : f2.type = tu) (h3 : f3.type = tb) (h4 : f4.type = tk)
    (hti : P.underlying ti = some (.int .i64)) (htu : P.underlying tu = some (.int .u8)) (htb : P.underlying tb = some (.slice te)) (hte : P.underlying te = some (.int .u8)) (hCe : P.cellsOf te = 1) (htk : P.underlying tk = some (.slice tke)) (htke : P.underlying tke = some .bool) (hCk : P.cellsOf tke = 1)
    (h : DataW.trod enc P W 0 (fun _ => true) true fuel t [v] = some x) : ∃ l, ArgOpsB W v l := by
  obtain ⟨A, len, cap, rfl, hlc, hcm, hA0, hf⟩ := slice_fields ht he hone hC h
  by_cases hz : len = 0
  · subst hz
    exact ⟨[], A, cap, 0, 0, rfl, by simp, fun j o hj => by simp at hj⟩
  · obtain ⟨a, rfl, hf0⟩ := hf 0 (by omega)
    obtain ⟨u, _, _, hu, _⟩ := hf0 0 f0 rfl
    obtain ⟨g, off, rfl⟩ := add_form (w := W) (a := a) (v := u) (by simpa using hu)
    obtain ⟨l, hl, hp⟩ := list_of (p := fun i (o : OpB) => o.at_ W g (off + i * 5)) len (fun i hi => by
      obtain ⟨a', ha, hfi⟩ := hf i hi
      obtain rfl : a' = ⟨g, off, none⟩ := by injection ha with ha; exact ha.symm
      obtain ⟨u0, n0, y0, hc0, hy0⟩ := hfi 0 f0 rfl
      obtain ⟨u1, n1, y1, hc1, hy1⟩ := hfi 1 f1 rfl
      obtain ⟨u2, n2, y2, hc2, hy2⟩ := hfi 2 f2 rfl
      obtain ⟨u3, n3, y3, hc3, hy3⟩ := hfi 3 f3 rfl
      obtain ⟨u4, n4, y4, hc4, hy4⟩ := hfi 4 f4 rfl
      rw [add_eq] at hc0 hc1 hc2 hc3 hc4
      rw [h0] at hy0; rw [h1] at hy1; rw [h2] at hy2; rw [h3] at hy3; rw [h4] at hy4
      obtain ⟨z0, e0, _, w0⟩ := DataW.trod_int hti hy0
      obtain ⟨z1, e1, _, w1⟩ := DataW.trod_int hti hy1
      obtain ⟨z2, e2, _, w2⟩ := DataW.trod_int htu hy2
      obtain ⟨bs, hbs⟩ := arg_bytes htb hte hCe hy3
      obtain ⟨ks, hks⟩ := arg_bools htk htke hCk hy4
      have e0' : u0 = .int .i64 z0 := by simpa using e0
      have e1' : u1 = .int .i64 z1 := by simpa using e1
      have e2' : u2 = B8 (UInt8.ofNat z2.toNat) := by rw [← u8_of_wf w2]; simpa using e2
      subst e0'; subst e1'; subst e2'
      exact ⟨⟨z0, z1, UInt8.ofNat z2.toNat, u3, u4, bs, ks⟩, by simpa using hc0, by simpa [Nat.add_assoc] using hc1, by simpa [Nat.add_assoc] using hc2, by simpa [Nat.add_assoc] using hc3, by simpa [Nat.add_assoc] using hc4, hbs, hks, w0, w1⟩)
    exact ⟨l, some ⟨g, off, none⟩, cap, g, off, by rw [hl], by omega, fun j o hj => ⟨rfl, hp j o hj⟩⟩
end

def okOpB (o : OpB) : Bool := decide (o.bs.length ≤ 100) && decide (o.ks.length ≤ 200)
def smallBB (l : List OpB) : Bool := decide (l.length ≤ 40) && l.all okOpB

theorem all_take_succB {l : List OpB} {j : Nat} {o : OpB} (hj : l[j]? = some o) (h : (l.take j).all okOpB = true) : (l.take (j + 1)).all okOpB = okOpB o := by
  have hlt : j < l.length := (List.getElem?_eq_some_iff.1 hj).1
  rw [List.take_succ_eq_append_getElem hlt, List.all_append, h]
  rw [List.getElem?_eq_getElem hlt] at hj
  simp only [Option.some.injEq] at hj
  simp [hj]
theorem all_falseB {l : List OpB} {j : Nat} {o : OpB} (hj : l[j]? = some o) (h : okOpB o = false) : l.all okOpB = false := by
  rw [List.all_eq_false]
  exact ⟨o, List.mem_of_getElem? hj, by simp [h]⟩

def SmallRelB (l : List OpB) (i : Value) : Prop := ∃ j : Nat, j ≤ l.length ∧ i = .int .i64 j ∧ (l.take j).all okOpB = true

set_option maxRecDepth 100000 in
set_option maxHeartbeats 1000000 in
theorem small7_any {W w : World} {v : Value} {l : List OpB} (hl : ArgOpsB W v l) (hf : Fr [] W w) :
    Calls Try.prog 39 #[v] w fun e w' => e = .returned (.bool (smallBB l)) ∧ w = w' := by
  obtain ⟨A, c, g, off, rfl, hm, hel⟩ := hl
  unfold maxLen at hm
  have HEL := Lib.hid hel; have HF := Lib.hid hf; clear hel hf
  by_cases hbig : 40 < l.length
  · have e : smallBB l = false := by simp [smallBB]; omega
    rw [e]
    clear e
    go_enter Try.func39, Try.ntmps39
    go_wp2
    go_ret
    exact ⟨rfl, rfl⟩
  · have e : smallBB l = l.all okOpB := by simp [smallBB]; omega
    rw [e]
    clear e
    go_enter Try.func39, Try.ntmps39
    go_wp2
    go_loop [3] (SmallRelB l) (fun i => l.length - (intOf i).toNat)
    case atStart => exact ⟨0, Nat.zero_le _, rfl, rfl⟩
    case round =>
      obtain ⟨j, hj, rfl, hall⟩ := hrel
      have HALL := Lib.hid hall; clear hall
      by_cases hjl : j < l.length
      · obtain ⟨o, ho⟩ : ∃ o, l[j]? = some o := ⟨_, List.getElem?_eq_getElem hjl⟩
        obtain ⟨rfl, hat⟩ := HEL.out j o ho
        obtain ⟨_, c1, c2, c3, c4⟩ := hat.fr HF.out
        obtain ⟨hbm, bg, ⟨bA, bc, bo, hbv, _⟩, _⟩ := hat.b
        obtain ⟨hkm, kg, ⟨kA, kc, ko, hkv, _⟩, _⟩ := hat.k
        rw [hbv] at c3
        rw [hkv] at c4
        unfold maxLen at hbm hkm
        have HO := Lib.hid ho
        clear hbv hkv hat ho c1 c2
        by_cases h1 : 100 < o.bs.length
        · have hno : l.all okOpB = false := all_falseB HO.out (by simp [okOpB]; omega)
          have HNO := Lib.hid hno; clear hno
          go_wp2
          go_ret
          rw [HNO.out]
          exact ⟨rfl, rfl⟩
        · by_cases h2 : 200 < o.ks.length
          · have hno : l.all okOpB = false := all_falseB HO.out (by simp [okOpB]; omega)
            have HNO := Lib.hid hno; clear hno
            go_wp2
            go_ret
            rw [HNO.out]
            exact ⟨rfl, rfl⟩
          · have hyes : (l.take (j + 1)).all okOpB = true := by rw [all_take_succB HO.out HALL.out]; simp [okOpB]; omega
            have HY := Lib.hid hyes; clear hyes
            go_wp2
            go_round
            case rel => exact ⟨j + 1, by omega, by go_num, HY.out⟩
            case measure => simp [intOf]; omega
      · have hyes : l.all okOpB = true := by have := HALL.out; rwa [List.take_of_length_le (by omega)] at this
        have HY := Lib.hid hyes; clear hyes
        go_wp2
        go_ret
        rw [HY.out]
        exact ⟨rfl, rfl⟩

end Go.Proofs.Ytbgcbikgjedkkaa
