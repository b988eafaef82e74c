/-
  For the laws of layer 8: rounds that came in; 'few', 'filled', 'shown'.
-/
import Derived.Test.YtidpleejgalljaaPg
import Derived.Test.YtidpleejgalljaaArgOps
namespace Go.Proofs.Ytidpleejgalljaa
open Go.RowKit Go.ChangeShapes Go.WideShapes Go.Deep

/-- A slice of ints that came in. -/
def ArgIntsR (W : World) (v : Value) (zs : List Int) : Prop := zs.length ≤ maxLen ∧ ∃ A c, v = .slice A zs.length c ∧ zs.length ≤ c ∧ (0 < zs.length → ∃ g off, A = some ⟨g, off, none⟩ ∧ ∀ (j : Nat) (z : Int), zs[j]? = some z → W.cell? ⟨g, off + j, none⟩ = some (.int .i64 z))
/-- A round, as it came in. -/
structure RndA where
  av : Value
  bv : Value
  zs : List Int
  bs : List UInt8
  com : Bool
  chk : Bool
structure RndA.at_ (W : World) (g off : Nat) (o : RndA) : Prop where
  c0 : W.cell? ⟨g, off, none⟩ = some o.av
  c1 : W.cell? ⟨g, off + 1, none⟩ = some o.bv
  c2 : W.cell? ⟨g, off + 2, none⟩ = some (.bool o.com)
  c3 : W.cell? ⟨g, off + 3, none⟩ = some (.bool o.chk)
  a : ArgIntsR W o.av o.zs
  b : ArgBytes W o.bv o.bs
def ArgRnds (W : World) (v : Value) (l : List RndA) : Prop :=
  ∃ A c g off, v = .slice A l.length c ∧ l.length ≤ maxLen ∧ ∀ (j : Nat) (o : RndA), l[j]? = some o → A = some ⟨g, off, none⟩ ∧ o.at_ W g (off + j * 4)
theorem RndA.at_.fr {W w : World} {g off : Nat} {o : RndA} (h : o.at_ W g off) (hf : Fr [] W w) :
    w.cell? ⟨g, off, none⟩ = some o.av ∧ w.cell? ⟨g, off + 1, none⟩ = some o.bv ∧ w.cell? ⟨g, off + 2, none⟩ = some (.bool o.com) ∧ w.cell? ⟨g, off + 3, none⟩ = some (.bool o.chk) :=
  ⟨hf.keep h.c0, hf.keep h.c1, hf.keep h.c2, hf.keep h.c3⟩
section
variable {P : Program} {H : Type} {enc : TypeId × Value → H}
theorem arg_intsR {W : World} {t e : TypeId} {v : Value} {fuel : Nat} {x : DataW H × List MemPlace} (ht : P.underlying t = some (.slice e)) (he : P.underlying e = some (.int .i64)) (hC : P.cellsOf e = 1)
    (h : DataW.trod enc P W 0 (fun _ => true) true fuel t [v] = some x) : ∃ zs, ArgIntsR W v zs := by
  rcases open_ints ht he hC h with ⟨hcs, _⟩ | ⟨a, len, cap, zs, hcs, _, hl, hm, hz, _, hcell, hwf⟩
  · obtain rfl : v = .slice none 0 0 := by simpa using hcs
    exact ⟨[], by simp, none, 0, rfl, by simp, fun h => by simp at h⟩
  · obtain rfl : v = .slice (some a) len cap := by simpa using hcs
    simp only [if_true] at hz
    have hl0 : (zs.take len).length = len := by simp; omega
    refine ⟨zs.take len, by rw [hl0]; omega, some a, cap, by rw [hl0], by rw [hl0]; exact hl, fun h0 => ?_⟩
    rw [hl0] at h0
    obtain ⟨g, off, rfl⟩ := add_form (hcell 0 (by omega))
    refine ⟨g, off, rfl, fun j z hj => ?_⟩
    have hj' : j < len := by have := (List.getElem?_eq_some_iff.1 hj).1; rw [hl0] at this; exact this
    have hc := hcell j (by omega)
    rw [add_eq] at hc
    rw [hc]
    rw [List.getElem?_take, if_pos hj', List.getElem?_eq_getElem (by omega : j < zs.length)] at hj
    simp only [Option.some.injEq] at hj
    rw [List.getD_eq_getElem?_getD, List.getElem?_eq_getElem (by omega : j < zs.length), Option.getD_some, ← hj]
theorem arg_rnds {W : World} {t e ti tie tb te tk : TypeId} {f0 f1 f2 f3 : Field} {fuel : Nat} {v : Value} {x : DataW H × List MemPlace} (ht : P.underlying t = some (.slice e)) (he : P.underlying e = some (.struct #[f0, f1, f2, f3]))
    (hone : oneCellFields P #[f0, f1, f2, f3] = true) (hC : P.cellsOf e = 4) (h0 : f0.type = ti) (h1 : f1.type = tb) (h2 : f2.type = tk) (h3 : f3.type = tk)
    (hti : P.underlying ti = some (.slice tie)) (htie : P.underlying tie = some (.int .i64)) (hCi : P.cellsOf tie = 1) (htb : P.underlying tb = some (.slice te)) (hte : P.underlying te = some (.int .u8)) (hCe : P.cellsOf te = 1) (htk : P.underlying tk = some .bool)
    (h : DataW.trod enc P W 0 (fun _ => true) true fuel t [v] = some x) : ∃ l, ArgRnds W v l := by
  obtain ⟨A, len, cap, rfl, hlc, hcm, hA0, hf⟩ := slice_fields ht he hone hC h
  by_cases hz : len = 0
  · subst hz
    exact ⟨[], A, cap, 0, 0, rfl, by simp, fun j o hj => by simp at hj⟩
  · obtain ⟨a, rfl, hf0⟩ := hf 0 (by omega)
    obtain ⟨u, _, _, hu, _⟩ := hf0 0 f0 rfl
    obtain ⟨g, off, rfl⟩ := add_form (w := W) (a := a) (v := u) (by simpa using hu)
    obtain ⟨l, hl, hp⟩ := list_of (p := fun i (o : RndA) => o.at_ W g (off + i * 4)) len (fun i hi => by
      obtain ⟨a', ha, hfi⟩ := hf i hi
      obtain rfl : a' = ⟨g, off, none⟩ := by injection ha with ha; exact ha.symm
      obtain ⟨u0, n0, y0, hc0, hy0⟩ := hfi 0 f0 rfl
      obtain ⟨u1, n1, y1, hc1, hy1⟩ := hfi 1 f1 rfl
      obtain ⟨u2, n2, y2, hc2, hy2⟩ := hfi 2 f2 rfl
      obtain ⟨u3, n3, y3, hc3, hy3⟩ := hfi 3 f3 rfl
      rw [add_eq] at hc0 hc1 hc2 hc3
      rw [h0] at hy0; rw [h1] at hy1; rw [h2] at hy2; rw [h3] at hy3
      obtain ⟨zs, hzs⟩ := arg_intsR hti htie hCi hy0
      obtain ⟨bs, hbs⟩ := arg_bytes htb hte hCe hy1
      obtain ⟨z2, e2, _⟩ := DataW.trod_bool htk hy2
      obtain ⟨z3, e3, _⟩ := DataW.trod_bool htk hy3
      have e2' : u2 = .bool z2 := by simpa using e2
      have e3' : u3 = .bool z3 := by simpa using e3
      subst e2'; subst e3'
      exact ⟨⟨u0, u1, zs, bs, z2, z3⟩, by simpa using hc0, by simpa [Nat.add_assoc] using hc1, by simpa [Nat.add_assoc] using hc2, by simpa [Nat.add_assoc] using hc3, hzs, hbs⟩)
    exact ⟨l, some ⟨g, off, none⟩, cap, g, off, by rw [hl], by omega, fun j o hj => ⟨rfl, hp j o hj⟩⟩
end

/-! ### few -/
def okRnd (o : RndA) : Bool := decide (o.zs.length ≤ 8) && decide (o.bs.length ≤ 8)
def fewB (l : List RndA) : Bool := decide (l.length ≤ 12) && l.all okRnd
theorem rall_take_succ {l : List RndA} {j : Nat} {o : RndA} (hj : l[j]? = some o) (h : (l.take j).all okRnd = true) : (l.take (j + 1)).all okRnd = okRnd o := by
  have hlt : j < l.length := (List.getElem?_eq_some_iff.1 hj).1
  rw [List.take_succ_eq_append_getElem hlt, List.all_append, h]
  rw [List.getElem?_eq_getElem hlt] at hj
  simp only [Option.some.injEq] at hj
  simp [hj]
theorem rall_false {l : List RndA} {j : Nat} {o : RndA} (hj : l[j]? = some o) (h : okRnd o = false) : l.all okRnd = false := by
  rw [List.all_eq_false]
  exact ⟨o, List.mem_of_getElem? hj, by simp [h]⟩
def FewRel (l : List RndA) (i : Value) : Prop := ∃ j : Nat, j ≤ l.length ∧ i = .int .i64 j ∧ (l.take j).all okRnd = true
set_option maxRecDepth 100000 in
set_option maxHeartbeats 1000000 in
theorem few_any {W w : World} {v : Value} {l : List RndA} (hl : ArgRnds W v l) (hf : Fr [] W w) :
    Calls Try.prog 9 #[v] w fun e w' => e = .returned (.bool (fewB l)) ∧ w = w' := by
  obtain ⟨A, c, g, off, rfl, hm, hel⟩ := hl
  unfold maxLen at hm
  have HEL := Lib.hid hel; have HF := Lib.hid hf; clear hel hf
  by_cases hbig : 12 < l.length
  · have e : fewB l = false := by simp [fewB]; omega
    rw [e]
    clear e
    go_enter Try.func9, Try.ntmps9
    go_wp2
    go_ret
    exact ⟨rfl, rfl⟩
  · have e : fewB l = l.all okRnd := by simp [fewB]; omega
    rw [e]
    clear e
    go_enter Try.func9, Try.ntmps9
    go_wp2
    go_loop [3] (FewRel l) (fun i => l.length - (intOf i).toNat)
    case atStart => exact ⟨0, Nat.zero_le _, rfl, rfl⟩
    case round =>
      obtain ⟨j, hj, rfl, hall⟩ := hrel
      have HALL := Lib.hid hall; clear hall
      by_cases hjl : j < l.length
      · obtain ⟨o, ho⟩ : ∃ o, l[j]? = some o := ⟨_, List.getElem?_eq_getElem hjl⟩
        obtain ⟨rfl, hat⟩ := HEL.out j o ho
        obtain ⟨c0, c1, _, _⟩ := hat.fr HF.out
        obtain ⟨hbm, bg, ⟨bA, bc, bo, hbv, _⟩, _⟩ := hat.b
        obtain ⟨hzm, zA, zc, hzv, _⟩ := hat.a
        rw [hzv] at c0
        rw [hbv] at c1
        unfold maxLen at hbm hzm
        have HO := Lib.hid ho
        clear hbv hzv hat ho
        by_cases h1 : 8 < o.zs.length
        · have hno : l.all okRnd = false := rall_false HO.out (by simp [okRnd]; omega)
          have HNO := Lib.hid hno; clear hno
          go_wp2
          go_ret
          rw [HNO.out]
          exact ⟨rfl, rfl⟩
        · by_cases h2 : 8 < o.bs.length
          · have hno : l.all okRnd = false := rall_false HO.out (by simp [okRnd]; omega)
            have HNO := Lib.hid hno; clear hno
            go_wp2
            go_ret
            rw [HNO.out]
            exact ⟨rfl, rfl⟩
          · have hyes : (l.take (j + 1)).all okRnd = true := by rw [rall_take_succ HO.out HALL.out]; simp [okRnd]; omega
            have HYES := Lib.hid hyes; clear hyes
            go_wp2
            go_round
            case rel => exact ⟨j + 1, by omega, by go_num, HYES.out⟩
            case measure => simp [intOf]; omega
      · obtain rfl : j = l.length := by omega
        have hyes : l.all okRnd = true := by have := HALL.out; rwa [List.take_of_length_le (Nat.le_refl _)] at this
        have HYES := Lib.hid hyes; clear hyes
        go_wp2
        go_ret
        rw [HYES.out]
        exact ⟨rfl, rfl⟩

/-! ### filled -/
theorem make512r (w : World) : (Instr.makeSlice 35 (.int .i64 512) (.int .i64 512)).run Try.prog w = .ok (.slice (some ⟨w.heap.size, 0, none⟩) 512 512) (w.alloc (.cells (bcells zpage).toArray 5)) := by kernel_rfl
def runF (k : Nat) (c : UInt8) : List UInt8 := List.replicate k c ++ List.replicate (512 - k) 0
theorem runF_set (k : Nat) (c : UInt8) (h : k < 512) : (runF k c).set k c = runF (k + 1) c := by
  apply List.ext_getElem?
  intro i
  unfold runF
  rw [List.getElem?_set]
  by_cases hi : k = i
  · subst hi
    rw [if_pos rfl, if_pos (by rw [List.length_append, List.length_replicate, List.length_replicate]; omega), List.getElem?_append_left (by rw [List.length_replicate]; omega), List.getElem?_replicate, if_pos (by omega)]
  · rw [if_neg hi]
    by_cases h1 : i < k
    · rw [List.getElem?_append_left (by simpa using h1), List.getElem?_append_left (by simp; omega), List.getElem?_replicate, List.getElem?_replicate, if_pos h1, if_pos (by omega)]
    · rw [List.getElem?_append_right (by simp; omega), List.getElem?_append_right (by simp; omega), List.getElem?_replicate, List.getElem?_replicate]
      simp only [List.length_replicate]
      by_cases h2 : i < 512
      · rw [if_pos (by omega), if_pos (by omega)]
      · rw [if_neg (by omega), if_neg (by omega)]
def FilRel (w : World) (c : UInt8) (i : Value) (wr : World) : Prop := ∃ k : Nat, k ≤ 512 ∧ i = .int .i64 (k : Int) ∧ Blk wr w.heap.size 5 (bcells (runF k c)) ∧ Fr [] w wr
set_option maxRecDepth 100000 in
set_option maxHeartbeats 1000000 in
theorem filled_any (w : World) (c : UInt8) : Calls Try.prog 15 #[.int .u8 (c.toNat : Int)] w fun e w' => e = .returned (.slice (some ⟨w.heap.size, 0, none⟩) 512 512) ∧ BytesAt w' (.slice (some ⟨w.heap.size, 0, none⟩) 512 512) (List.replicate 512 c) w.heap.size ∧ Fr [] w w' := by
  have hmk := make512r
  go_enter Try.func15, Try.ntmps15
  go_wp2
  go_loopw [4] (FilRel w c) (fun i _ => 512 - (intOf i).toNat)
  case atStart => exact ⟨0, by omega, rfl, Blk.new w 5 (bcells (runF 0 c)), (Fr.refl _ _).alloc _⟩
  case round =>
    obtain ⟨k, hk, rfl, hb, hf⟩ := hrel
    have hl := hb.lt
    have hfr := hb.free
    have HB := Lib.hid hb; have HF := Lib.hid hf; clear hb hf
    by_cases hkn : k < 512
    · have hcell : wr.cell? ⟨w.heap.size, k, none⟩ = some (.int .u8 0) := HB.out.at_ (by
        rw [bcells_at]; unfold runF; rw [List.getElem?_append_right (by rw [List.length_replicate]; exact Nat.le_refl _), List.getElem?_replicate, List.length_replicate, if_pos (by omega)]; rfl)
      have HX : Hid (FilRel w c (.int .i64 ((k : Int) + 1)) (wr.setCell ⟨w.heap.size, k, none⟩ (.int .u8 (c.toNat : Int)))) := Lib.hid ⟨k + 1, hkn, by go_num, by
        have h := HB.out.set_ k (B8 c)
        rw [← bcells_set, runF_set k c hkn] at h
        exact h, HF.out.setCell (.inr (Nat.le_refl _)) _⟩
      go_wp2
      refine ⟨HX.out, by simp [intOf]; omega⟩
    · obtain rfl : k = 512 := by omega
      have HX : Hid (BytesAt wr (.slice (some ⟨w.heap.size, 0, none⟩) 512 512) (List.replicate 512 c) w.heap.size) := Lib.hid (by
        have h := HB.out
        rw [show runF 512 c = List.replicate 512 c by unfold runF; exact List.append_nil _] at h
        have h2 := BytesAt.of_blk h 512 (by rw [List.length_replicate]; exact Nat.le_refl _)
        rw [List.length_replicate] at h2
        exact h2)
      go_wp2
      go_ret
      exact ⟨rfl, HX.out, HF.out⟩

/-! ### shown -/
def outF (f : Nat → UInt8) (i : Nat) : List Value := (List.range 4).map fun j => if j < i then B8 (f j) else .int .u8 0
theorem outF_at (f : Nat → UInt8) {i j : Nat} (hj : j < 4) : (outF f i)[j]? = some (if j < i then B8 (f j) else .int .u8 0) := by unfold outF; rw [List.getElem?_map, List.getElem?_range hj]; rfl
theorem outF_set (f : Nat → UInt8) {i : Nat} (h : i < 4) : (outF f i).set i (B8 (f i)) = outF f (i + 1) := by
  apply List.ext_getElem?
  intro j
  rw [List.getElem?_set]
  by_cases hj : j < 4
  · rw [outF_at f hj, outF_at f hj]
    by_cases hi : i = j
    · subst hi
      rw [if_pos rfl, if_pos (by simpa [outF] using h), if_pos (by omega)]
    · rw [if_neg hi]
      by_cases h1 : j < i
      · rw [if_pos h1, if_pos (by omega)]
      · rw [if_neg h1, if_neg (by omega)]
  · rw [List.getElem?_eq_none (l := outF f (i + 1)) (by simp [outF]; omega)]
    by_cases hi : i = j
    · omega
    · rw [if_neg hi, List.getElem?_eq_none (by simp [outF]; omega)]
theorem results_ctR {P : Program} {fn : Func} {tmps : Array Value} {w : World} {k k2 : Tmp} {t t' : TypeId} {g : Nat} {cs : List Value} {d : TypeDesc} (hr : fn.results = #[.cell k t, .tmp k2]) (ha : tmps.getD k undef = .pointer (some ⟨g, 0, none⟩)) (hb : Blk w g t' cs)
    (hu : P.underlying t = some d) (hd : d.isRow = true) (hi : (P.info? t).map (·.size) = some cs.length) : (results fn tmps).run P w = .ok (.tuple #[.agg cs.toArray, tmps.getD k2 undef]) w := by
  have hl := run_loadVar_row (P := P) w g t' t cs.toArray (0, 0) d hb hu (by cases d <;> simp_all) (by simpa using hi)
  have ha' : tmps[k]?.getD undef = .pointer (some ⟨g, 0, none⟩) := by simpa using ha
  simp [results, hr, ha', hl, asAddr, Sem.run_bind, Sem.run_pure]
def ShRel (w : World) (f : Nat → UInt8) (v : Value) (wr : World) : Prop :=
  ∃ i : Nat, i ≤ 4 ∧ v = .int .i64 (i : Int) ∧ Blk wr (w.heap.size + 1) 42 (outF f i) ∧ Blk wr w.heap.size 42 (outF f 0) ∧ Fr [] w wr
set_option maxRecDepth 100000 in
set_option maxHeartbeats 2000000 in
theorem shown_any {w0 w : World} {d g : Nat} {s : PS} {X : Nat → Prop} (h : PgX w0 w d g s X) (hbr : s.br = false) (hc : Calm s) (hn : s.n = 4) (f : Nat → UInt8) (hp : ∀ k, k < 4 → s.page k = List.replicate 512 (f k)) :
    Calls Try.prog 18 #[.pointer (some ⟨g, 0, none⟩)] w fun e w' => e = .returned (.tuple #[.agg (outF f 4).toArray, .bool true]) ∧ Fr [] w w' := by
  have HX := Lib.hid h; have HC := Lib.hid hc; have HP := Lib.hid hp
  clear h hc hp
  go_enter Try.func18, Try.ntmps18
  go_wp2_with fail
  go_loopw [5] (fun v wr => ShRel w f v wr) (fun v _ => 4 - (intOf v).toNat)
  case atStart =>
    have b0 : Blk (w.alloc (.cells #[.int .u8 0, .int .u8 0, .int .u8 0, .int .u8 0] 42)) w.heap.size 42 (outF f 0) := Blk.new w _ (outF f 0)
    have b1 : Blk ((w.alloc (.cells #[.int .u8 0, .int .u8 0, .int .u8 0, .int .u8 0] 42)).alloc (.cells #[.int .u8 0, .int .u8 0, .int .u8 0, .int .u8 0] 42)) (w.heap.size + 1) 42 (outF f 0) := by
      have := Blk.new (w.alloc (.cells #[.int .u8 0, .int .u8 0, .int .u8 0, .int .u8 0] 42)) 42 (outF f 0)
      rwa [World.size_alloc] at this
    exact ⟨0, by omega, rfl, b1, b0.alloc _, ((Fr.refl [] w).alloc _).alloc _⟩
  case round =>
    obtain ⟨i, hi, rfl, hb1, hb0, hf⟩ := hrel
    have HB1 := Lib.hid hb1; have HB0 := Lib.hid hb0; have HF := Lib.hid hf
    have hl1 := hb1.lt
    clear hb1 hb0 hf
    by_cases hi4 : i < 4
    · have HR := Lib.hid (read_Y (HX.out.stay HF.out) hbr HC.out i (by omega))
      rw [HP.out i hi4] at HR
      go_wp2_with fail
      refine HR.out.mono ?_
      rintro e w1 ⟨vx, gx, rfl, hvx, hgx, hf1⟩
      obtain ⟨Ax, cx, ox, rfl, hcx, hbx⟩ := hvx
      obtain ⟨rfl, hbx'⟩ := hbx (by rw [List.length_replicate]; omega)
      have k0 := hbx' 0 (.int .u8 ((f i).toNat : Int)) (by rw [bcells_at, List.getElem?_replicate, if_pos (by omega)]; rfl)
      have k511 := hbx' 511 (.int .u8 ((f i).toNat : Int)) (by rw [bcells_at, List.getElem?_replicate, if_pos (by omega)]; rfl)
      rw [Nat.add_zero] at k0
      rw [List.length_replicate] at hcx ⊢
      have hB1 := HB1.out.fr hf1 (by simp)
      have hB0 := HB0.out.fr hf1 (by simp)
      have ci := hB1.at_ (outF_at f (i := i) hi4)
      have hfr := hB1.free
      rw [if_neg (Nat.lt_irrefl _)] at ci
      have HB1' := Lib.hid hB1; have HB0' := Lib.hid hB0; have HF1 := Lib.hid (HF.out.trans hf1 (by simp))
      clear hbx hbx' hf1 HR hB1 hB0 HB1 HB0
      go_wp2_with fail
      go_quiet (fail)
      obtain ⟨w2, hw2⟩ : ∃ w2, w2 = w1.drewN nq := ⟨_, rfl⟩
      rw [← hw2]
      have hf2 : Fr [] w1 w2 := by rw [hw2]; exact (Fr.refl [] w1).drewN _
      have hb2 := HB1'.out.fr hf2 (by simp)
      have k0' : w2.cell? ⟨gx, ox, none⟩ = some (.int .u8 ((f i).toNat : Int)) := by rw [hw2]; exact k0
      have ci' : w2.cell? ⟨w.heap.size + 1, i, none⟩ = some (.int .u8 0) := by rw [hw2]; exact ci
      have hfr2 := hb2.free
      have HR2 : Hid (ShRel w f (.int .i64 ((i : Int) + 1)) (w2.setCell ⟨w.heap.size + 1, i, none⟩ (.int .u8 ((f i).toNat : Int)))) := Lib.hid ⟨i + 1, by omega, by go_num, by
        have h := hb2.set_ i (B8 (f i))
        rw [outF_set f hi4] at h
        exact h, (HB0'.out.fr hf2 (by simp)).fr ((Fr.refl [w.heap.size + 1] w2).setCell (.inl (by simp)) _) (by simp), (HF1.out.trans hf2 (by simp)).setCell (.inr (by simp)) _⟩
      clear hw2 k0 k511 ci hfr hf2 hb2
      go_wp2_with fail
      go_roundw
      case rel => exact HR2.out
      case measure => simp [intOf]; omega
    · obtain rfl : i = 4 := by omega
      have hcr : wr.rangeAt (w.heap.size + 1) 0 (outF f 4) := fun j v hj => by rw [Nat.zero_add]; exact HB1.out.at_ hj
      go_upto_region 9 with fail
      refine wp_region_lit ?_
      refine wpList_plain rfl fun K hK => ?_
      refine wp_load_mid 42 (.tmp 4) rfl (w.heap.size + 1) 0 rfl (outF f 4) _ hcr Try.underlying42 rfl (by kernel_rfl) (hK _ _ ?_)
      simp only [Act.put, List.setIfInBounds_toArray, List.set_cons_zero, List.set_cons_succ]
      clear hK
      refine wpList_plain rfl fun K hK => ?_
      refine wp_store_blk 42 (.tmp 2) (.tmp 40) rfl (outF f 4) rfl rfl HB0.out (by kernel_rfl) rfl (by intro u hu; obtain ⟨j, _, rfl⟩ := List.mem_map.1 hu; split <;> rfl) fun w3 hb3 hf3 hz3 => hK _ _ ?_
      simp only [Act.put]
      clear hK
      refine wpList_plain rfl fun K hK => ?_
      refine wp_run_same (v := ?au2_2) ?yu2_2 (hK _ _ ?_)
      case yu2_2 => go_simp <;> with_reducible rfl
      clear hK K
      simp only [Act.put, List.setIfInBounds_toArray, List.set_cons_zero, List.set_cons_succ]
      refine wpList_nil ?_
      have HFE : Hid (Fr [] w w3) := Lib.hid (HF.out.trans hf3 (fun x hx => .inr (by simp only [List.mem_singleton] at hx; omega)))
      have HB3 := Lib.hid hb3
      clear hb3 hf3 hz3 hcr
      go_wp2_with fail
      exact bodyPost_ret (results_ctR rfl rfl HB3.out Try.underlying42 rfl (by kernel_rfl)) rfl ⟨rfl, HFE.out⟩

end Go.Proofs.Ytidpleejgalljaa
