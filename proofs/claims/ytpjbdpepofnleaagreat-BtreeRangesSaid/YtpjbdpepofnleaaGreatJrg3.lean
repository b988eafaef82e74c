/-
  Joined by join.py: Jf Sl Ji Jj Jk DiskX Str Jl Jp Jq
-/
import Derived.BigRegion
import Derived.Lib.SlBytesConst
import Derived.Laws.BytesArg
import Derived.Test.YtpjbdpepofnleaaGreatJrg2
section
namespace Go.Proofs.YtpjbdpepofnleaaGreat
open Go.RowKit
def newStep (a : Nat × Nat) (s : List UInt8) : Nat × Nat := match pieceOf s with | some p => (max a.1 p.st.session, max a.2 p.st.number) | none => a
def newFrom (a : Nat × Nat) (L : List (List UInt8)) : Nat × Nat := L.foldl newStep a
theorem newFrom_eq (L : List (List UInt8)) : newestOf L = newFrom (0, 0) L := rfl
theorem newFrom_take {a : Nat × Nat} {L : List (List UInt8)} {k : Nat} {s : List UInt8} (h : L[k]? = some s) : newFrom a (L.take (k + 1)) = newStep (newFrom a (L.take k)) s := by
  have hlt : k < L.length := (List.getElem?_eq_some_iff.1 h).1
  rw [List.take_succ_eq_append_getElem hlt]
  rw [List.getElem?_eq_getElem hlt] at h
  simp only [Option.some.injEq] at h
  rw [h]
  simp [newFrom, List.foldl_append]
def NewRel (w : World) (lg d f n at_ : Nat) (br : Bool) (a : Nat × Nat) (L : List (List UInt8)) (i : Value) (wr : World) : Prop :=
  ∃ k : Nat, k ≤ L.length ∧ i = .int .i64 k ∧ Blk wr lg 160 (logCells d f n at_ (newFrom a (L.take k)).2 (newFrom a (L.take k)).1 br) ∧ Fr [lg] w wr
theorem new_blk {w : World} {lg d f n at_ : Nat} {br : Bool} {m : Nat × Nat} {q : Pc} (h : Blk w lg 160 (logCells d f n at_ m.2 m.1 br)) :
    Blk ((w.setCell ⟨lg, 5, none⟩ (.int .u32 (if m.1 < q.st.session then (q.st.session : Int) else (m.1 : Int)))).setCell ⟨lg, 4, none⟩ (.int .u32 (if m.2 < q.st.number then (q.st.number : Int) else (m.2 : Int)))) lg 160 (logCells d f n at_ (max m.2 q.st.number) (max m.1 q.st.session) br) := by
  have e1 : (if m.1 < q.st.session then (q.st.session : Int) else (m.1 : Int)) = ((max m.1 q.st.session : Nat) : Int) := by split <;> omega
  have e2 : (if m.2 < q.st.number then (q.st.number : Int) else (m.2 : Int)) = ((max m.2 q.st.number : Nat) : Int) := by split <;> omega
  rw [e1, e2]
  exact (h.set_ 5 _).set_ 4 _
theorem end_blk {w : World} {lg d f n at_ : Nat} {br : Bool} {m : Nat × Nat} (h : Blk w lg 160 (logCells d f n at_ m.2 m.1 br)) :
    Blk ((w.setCell ⟨lg, 5, none⟩ (.int .u32 (((m.1 : Int) + 1) % 4294967296))).setCell ⟨lg, 4, none⟩ (.int .u32 (((m.2 : Int) + 1) % 4294967296))) lg 160 (logCells d f n at_ ((m.2 + 1) % 4294967296) ((m.1 + 1) % 4294967296) br) := by
  have e1 : ((m.1 : Int) + 1) % 4294967296 = (((m.1 + 1) % 4294967296 : Nat) : Int) := by omega
  have e2 : ((m.2 : Int) + 1) % 4294967296 = (((m.2 + 1) % 4294967296 : Nat) : Int) := by omega
  rw [e1, e2]
  exact (h.set_ 5 _).set_ 4 _
set_option maxRecDepth 100000 in
set_option maxHeartbeats 2000000 in
theorem newest_any {w : World} {lg d f n at_ gl c : Nat} {br : Bool} {a : Nat × Nat} {gs : List Nat} {L : List (List UInt8)} {A : Option Addr} (hb : Blk w lg 160 (logCells d f n at_ a.2 a.1 br)) (hs : SecsAt w gl 0 gs L) (hA : 0 < L.length → A = some ⟨gl, 0, none⟩) (_ : L.length ≤ c) (hm : L.length ≤ 65536) (hgl : gl ≠ lg) :
    Calls Tryz.prog 92 #[.pointer (some ⟨lg, 0, none⟩), .slice A L.length c] w fun e w' => e = .returned (.bool (decide ((newFrom a L).1 < 4294967295))) ∧ Blk w' lg 160 (logCells d f n at_ (((newFrom a L).2 + 1) % 4294967296) (((newFrom a L).1 + 1) % 4294967296) br) ∧ Fr [lg] w w' := by
  have HB := Lib.hid hb; have HS := Lib.hid hs
  clear hb hs
  go_enter Tryz.func92, Tryz.ntmps92
  go_wp2
  go_loopw [12] (NewRel w lg d f n at_ br a L) (fun i _ => L.length - (intOf i).toNat)
  case atStart => exact ⟨0, Nat.zero_le _, rfl, HB.out, Fr.refl _ _⟩
  case round =>
    obtain ⟨k, hk, rfl, hb, hf⟩ := hrel
    have HBK := Lib.hid hb; have HF := Lib.hid hf
    clear hb hf
    by_cases hkn : k < L.length
    · obtain rfl := hA (by omega)
      have hgn : ∀ g ∈ gs, g ∉ [lg] := by
        intro g hg hm2
        simp only [List.mem_singleton] at hm2
        subst hm2
        obtain ⟨j, hj, rfl⟩ := List.getElem_of_mem hg
        have hj2 : j < L.length := by rw [← HS.out.len]; exact hj
        have h1 := (HS.out.sec j _ _ (List.getElem?_eq_getElem hj) (List.getElem?_eq_getElem hj2)).1
        exact (h1.ne_ HB.out (by decide)) rfl
      obtain ⟨gk, sk, hsk, hck, hseck⟩ := (HS.out.fr HF.out (by simp [hgl]) hgn).at_ (j := k) hkn
      have HSK := Lib.hid hsk; have HSECK := Lib.hid hseck
      clear hsk hseck hgn
      unfold secV at hck
      rw [Nat.zero_add] at hck
      go_wp2_with fail
      refine (piece_any HSECK.out).mono ?_
      rintro e w2 ⟨rfl, hf2⟩
      have HF2 := Lib.hid hf2
      have hb2 := HBK.out.fr hf2 (by simp)
      have l4 := hb2.at_ (i := 4) rfl
      have l5 := hb2.at_ (i := 5) rfl
      have lf := hb2.free
      have ll := hb2.lt
      have HB2 := Lib.hid hb2
      clear hf2 hb2
      unfold pieceV
      cases hq : pieceOf sk with
      | none =>
        simp only [noAgg]
        go_wp2
        exact ⟨⟨k + 1, hkn, rfl, by rw [newFrom_take HSK.out]; unfold newStep; rw [hq]; exact HB2.out.alloc _, (HF.out.trans HF2.out (by simp)).alloc _⟩, by simp [intOf]; omega⟩
      | some q =>
        simp only [pcAgg]
        go_wp2
        go_region
        go_wp2
        refine ⟨⟨k + 1, hkn, rfl, ?_, ?_⟩, by simp [intOf]; omega⟩
        · rw [newFrom_take HSK.out]
          unfold newStep
          rw [hq]
          have h := (new_blk (q := q) HB2.out).alloc (.cells #[.int .u32 (q.st.session : Int), .int .u32 (q.st.number : Int), .int .i64 (q.st.count : Int), .int .i64 (q.place : Int), .slice (some ⟨gk, 16, none⟩) q.b.length 48] 190)
          first | exact h | exact h.drew
        · first
            | exact (((HF.out.trans HF2.out (by simp)).setCell (p := ⟨lg, 5, none⟩) (.inl (by simp)) _).setCell (p := ⟨lg, 4, none⟩) (.inl (by simp)) _).alloc _
            | exact ((((HF.out.trans HF2.out (by simp)).setCell (p := ⟨lg, 5, none⟩) (.inl (by simp)) _).setCell (p := ⟨lg, 4, none⟩) (.inl (by simp)) _).alloc _).drew
    · have hkk : k = L.length := by omega
      have l4 := HBK.out.at_ (i := 4) rfl
      have l5 := HBK.out.at_ (i := 5) rfl
      have lf := HBK.out.free
      rw [hkk, List.take_length] at l4 l5
      have HKK := Lib.hid hkk; clear hkk
      go_wp2
      go_ret
      have hbf : Blk wr lg 160 (logCells d f n at_ (newFrom a L).2 (newFrom a L).1 br) := by have h := HBK.out; rw [HKK.out, List.take_length] at h; exact h
      refine ⟨?_, ?_, ?_⟩
      · show Ending.returned (.bool (decide (((newFrom a L).1 : Int) < 4294967295))) = _
        rw [show decide (((newFrom a L).1 : Int) < 4294967295) = decide ((newFrom a L).1 < 4294967295) from decide_eq_decide.2 (by omega)]
      · exact end_blk hbf
      · exact ((HF.out.setCell (p := ⟨lg, 5, none⟩) (.inl (by simp)) _).setCell (p := ⟨lg, 4, none⟩) (.inl (by simp)) _)
end Go.Proofs.YtpjbdpepofnleaaGreat
end
section
namespace Go.Proofs.YtpjbdpepofnleaaGreat
open Go.RowKit
section
variable {P : Program} {o : Oper} {a : Act} {w : World} {K : Act → World → Prop} {Q : Exit → Act → World → Prop}
theorem wp_run_same {v : Value} (hrun : (execOp a.eval o).run P w = .ok (.value v) w) (h : K (a.put o.dst v) w) : Oper.wp P o a w K Q := by
  unfold Oper.wp; rw [hrun]; exact h
theorem wp_alloc_z (t : TypeId) (ho : o.op = .alloc t) (z : Value) (zs : Array Value) (hz : (P.info? t).map (·.zero) = some (some z)) (hzs : z.cells = zs)
    (h : K (a.put o.dst (.pointer (some ⟨w.heap.size, 0, none⟩))) (w.alloc (.cells zs t))) : Oper.wp P o a w K Q := by
  subst hzs
  cases hq : P.info? t with
  | none => simp [hq] at hz
  | some i =>
    have hz' : i.zero = some z := by simpa [hq] using hz
    unfold Oper.wp
    simp [execOp, ho, Instr.alloc, zeroValue, typeInfo, hq, hz', newVar, newRow, Result.andThen]
    exact h
theorem wp_alloc_blk (t : TypeId) (ho : o.op = .alloc t) (z : Value) (zs : List Value) (hz : (P.info? t).map (·.zero) = some (some z)) (hzs : z.cells = zs.toArray)
    (h : ∀ w1, Blk w1 w.heap.size t zs → Fr [] w w1 → w1.heap.size = w.heap.size + 1 → K (a.put o.dst (.pointer (some ⟨w.heap.size, 0, none⟩))) w1) : Oper.wp P o a w K Q :=
  wp_alloc_z t ho z _ hz hzs (h _ (Blk.new w t zs) ((Fr.refl [] w).alloc _) (by simp))
theorem wp_store_blk {g : Nat} {t' : TypeId} {old : List Value} (t : TypeId) (x y : Operand) (ho : o.op = .store t x y) (cs : List Value)
    (hx : a.eval x = .pointer (some ⟨g, 0, none⟩)) (hy : a.eval y = .agg cs.toArray) (hb : Blk w g t' old)
    (hi : (P.info? t).map (·.size) = some cs.length) (hl : old.length = cs.length) (h1 : ∀ v ∈ cs, v.oneCell' = true)
    (h : ∀ w1, Blk w1 g t' cs → Fr [g] w w1 → w1.heap.size = w.heap.size → K (a.put o.dst undef) w1) : Oper.wp P o a w K Q := by
  have hrun := run_storeVar_row (P := P) w g t' t old.toArray cs.toArray hb (by simpa using hi) (by simpa using hl) (all_oneCell_toArray h1)
  unfold Oper.wp
  simp [execOp, ho, hx, hy, Instr.storeAt, Instr.sureAddr, hrun, Result.andThen]
  exact h _ (hb.row_ cs) ((Fr.refl [g] w).setRow (.inl (by simp)) _) (by simp [World.setRow])
theorem run_build_cell {t e : TypeId} {i : TypeInfo} {z : Value} (ht : P.underlying t = some (.slice e)) (hi : P.info? e = some i) (hz : i.zero = some z) (hs : i.size = 1) (hzs : z.cells.size = 1) (v : Value) (hv : v.cells = #[v]) :
    (Instr.buildSlice t 1 #[(0, v)]).run P w = .ok (.slice (some ⟨w.heap.size, 0, none⟩) 1 1) (w.alloc (.cells #[v] e)) := by
  obtain ⟨z0, hz0⟩ : ∃ z0, z.cells = #[z0] := by
    match hc : z.cells, hzs with
    | ⟨[z0]⟩, _ => exact ⟨z0, rfl⟩
  simp [Instr.buildSlice, run_underlying ht, sizeOf, typeInfo, hi, hs, zeroValue, hz, newRow, hz0, Instr.fill, hv, Array.range, Array.zipIdx]
  have e1 : ∀ (n : Nat) (_ : n = 1) (f : Fin n → Value), (Array.ofFn f).setIfInBounds 0 v = #[v] := fun n hn f => by
    subst hn
    apply Array.ext
    · simp
    · intro j hj hj'
      have : j = 0 := by simp at hj'; omega
      subst this
      simp
  exact congrArg (fun c => w.alloc (Obj.cells c e)) (e1 _ (by simp [hs]) _)
theorem wp_build_cell {t e : TypeId} (x : Operand) (ho : o.op = .buildSlice t 1 #[(0, x)]) {i : TypeInfo} {z : Value} (ht : P.underlying t = some (.slice e)) (hi : P.info? e = some i) (hz : i.zero = some z) (hs : i.size = 1) (hzs : z.cells.size = 1) (v : Value) (hx : a.eval x = v) (hv : v.cells = #[v]) (H : Nat) (hH : w.heap.size = H)
    (h : ∀ w1, Blk w1 H e [v] → Fr [] w w1 → w1.heap.size = H + 1 → K (a.put o.dst (.slice (some ⟨H, 0, none⟩) 1 1)) w1) : Oper.wp P o a w K Q := by
  subst hH
  have hrun := run_build_cell (P := P) (w := w) ht hi hz hs hzs v hv
  refine wp_run_value (v := .slice (some ⟨w.heap.size, 0, none⟩) 1 1) (w' := w.alloc (.cells #[v] e)) ?_ (h _ (Blk.new w e [v]) ((Fr.refl [] w).alloc _) (by simp))
  simp [execOp, ho, hx, hrun, Result.andThen]
theorem wp_append_fr {t : TypeId} (s x : Operand) (ho : o.op = .call { callee := .builtin .append, args := #[s, x], argTypes := #[t, t] })
    (e : TypeId) {i : TypeInfo} {z : Value} (size bytes : Nat) (ht : P.underlying t = some (.slice e)) (hi : P.info? e = some i) (hz : i.zero = some z) (hsize : i.size = size) (hby : i.bytes = bytes) (hzs : z.cells.size = size) (h0 : 0 < size)
    (v : Value) (n : Nat) (xs : List Value) (hs : a.eval s = v) (hown : w.ownsRow 0 e size v n xs)
    (ad : Addr) (m c : Nat) (news : List Value) (hx : a.eval x = .slice (some ad) m c) (hl : news.length = m * size) (hnews : ∀ j u, news[j]? = some u → w.cell? (ad.add j) = some u) (h1 : ∀ u ∈ news, u.oneCell' = true)
    (hm : 0 < m) (h63 : n + m ≤ maxLen) (hbytes : (n + m) * bytes ≤ 140737488355328) (H : Nat) (hH : w.heap.size = H)
    (h : ∀ g cap w', w'.ownsRow 0 e size (.slice (some ⟨g, 0, none⟩) (n + m) cap) (n + m) (xs ++ news) → Fr v.ownBlock.toList w w' → (v.ownBlock = some g ∨ g = H) → g < w'.heap.size → K (a.put o.dst (.slice (some ⟨g, 0, none⟩) (n + m) cap)) w') : Oper.wp P o a w K Q := by
  refine wp_append_lies _ s x t ho 0 e i z size bytes ht hi hz hsize hby hzs h0 v n xs hs hown ad m c news hx hl hnews h1 hm h63 hbytes (Nat.zero_le _) H hH ?_
  intro g cap w' h2 h3 h4 h5
  exact h g cap w' h2 ((Fr.refl _ w).grown h3 (fun g hg => .inl (by simp [hg]))) h4 h5
theorem exec_slice {t : TypeId} {x : Operand} {lo hi : Option Operand} (ho : o.op = .slice t x lo hi none) {vx v : Value} {vlo vhi : Option Value} (hx : a.eval x = vx) (hlo : lo.map a.eval = vlo) (hhi : hi.map a.eval = vhi)
    (h : (Instr.sliceAt t vx vlo vhi none).run P w = .ok v w) : (execOp a.eval o).run P w = .ok (.value v) w := by
  subst hx hlo hhi
  simp [execOp, ho, h, Result.andThen]
theorem slice_run_from {t e : TypeId} (ht : P.underlying t = some (.slice e)) (he : (P.info? e).map (·.size) = some 1) (A : Option Addr) (n c lo : Nat) (k1 : IntKind) (h1 : lo ≤ n) :
    ∀ w, (Instr.sliceAt t (.slice A n c) (some (.int k1 lo)) none none).run P w = .ok (.slice (if c = lo then A else A.map (·.add lo)) (n - lo) (c - lo)) w := by
  intro w
  have hel : P.elem t = e := by simp [Program.elem, ht]
  obtain ⟨i, hi1, hi2⟩ := Option.map_eq_some_iff.1 he
  have h5 : ∀ w, (sizeOf e).run P w = .ok 1 w := fun w => by simp [sizeOf, typeInfo, go_sem, hi1, hi2]
  rw [run_sliceAt_slice (h := by rw [hel]; exact ht), run_slice_l (ht := by rw [hel]; exact ht) (h0 := by omega) (h1 := by omega), hel, h5]
  simp [Result.andThen, sliced]
end
theorem sub_at {α : Type} (l : List α) (lo m : Nat) (hm : lo + m ≤ l.length) : ((l.drop lo).take m).length = m := by rw [List.length_take, List.length_drop]; omega
theorem BytesAt.sub {w : World} {A : Option Addr} {n c g : Nat} {bs : List UInt8} (h : BytesAt w (.slice A n c) bs g) (lo m : Nat) (hm : lo + m ≤ bs.length) :
    BytesAt w (.slice (if c = lo then A else A.map (·.add lo)) m (c - lo)) ((bs.drop lo).take m) g := by
  obtain ⟨A', c', off, hv, hc, hb⟩ := h
  injection hv with h1 h2 h3
  subst h1 h3
  have hl := sub_at bs lo m hm
  refine ⟨_, _, off + lo, by rw [hl], by rw [hl]; omega, fun h0 => ?_⟩
  rw [hl] at h0
  obtain ⟨rfl, hcell⟩ := hb (by omega)
  rw [if_neg (by omega)]
  refine ⟨by simp [Addr.add_mid], fun j u hu => ?_⟩
  rw [Nat.add_assoc]
  refine hcell _ u ?_
  rw [bcells_take, bcells_drop, List.getElem?_take] at hu
  split at hu
  · rw [List.getElem?_drop] at hu; exact hu
  · cases hu
theorem BytesAt.from_ {w : World} {A : Option Addr} {n c g : Nat} {bs : List UInt8} (h : BytesAt w (.slice A n c) bs g) (lo : Nat) (hm : lo ≤ bs.length) :
    BytesAt w (.slice (if c = lo then A else A.map (·.add lo)) (bs.length - lo) (c - lo)) (bs.drop lo) g := by
  have := h.sub lo (bs.length - lo) (by omega)
  rwa [List.take_of_length_le (by simp)] at this
end Go.Proofs.YtpjbdpepofnleaaGreat
end
section
namespace Go.Proofs.YtpjbdpepofnleaaGreat
open Go.RowKit
structure LG where
  f : Nat
  n : Nat
  at_ : Nat
  num : Nat
  ses : Nat
  br : Bool
def LG.cells (l : LG) (d : Nat) : List Value := logCells d l.f l.n l.at_ l.num l.ses l.br
structure Jn (w : World) (lg d : Nat) (l : LG) (D : DM) (fp : List Nat) : Prop where
  log : Blk w lg 160 (l.cells d)
  disk : DiskAt w d D fp
  apart : lg ∉ fp
  at_ : l.at_ ≤ l.n
  fit : l.f + l.n ≤ D.S.length
  num : l.num < 4294967296
  ses : l.ses < 4294967296
theorem Jn.fr {S : List Nat} {w w' : World} {lg d : Nat} {l : LG} {D : DM} {fp : List Nat} (h : Jn w lg d l D fp) (hf : Fr S w w') (h1 : lg ∉ S) (h2 : ∀ k ∈ fp, k ∉ S) : Jn w' lg d l D fp :=
  ⟨h.log.fr hf h1, h.disk.fr hf h2, h.apart, h.at_, h.fit, h.num, h.ses⟩
end Go.Proofs.YtpjbdpepofnleaaGreat
end
section
namespace Go.Proofs.YtpjbdpepofnleaaGreat
open Go.RowKit
theorem pieceOf_bd {s : List UInt8} {p : Pc} (h : pieceOf s = some p) : p.st.session < 4294967296 ∧ p.st.number < 4294967296 ∧ p.st.count < 65536 ∧ p.place < 65536 ∧ p.b.length ≤ 48 := by
  have hb := piece_len h
  unfold pieceOf at h
  split at h
  · simp only [Option.some.injEq] at h
    subst h
    have e2 : ∀ l : List UInt8, l.length ≤ 2 → wordOf l < 65536 := fun l hl => by
      have h1 := wordOf_lt l
      have h2 : 256 ^ l.length ≤ 256 ^ 2 := Nat.pow_le_pow_right (by omega) hl
      have h3 : 256 ^ 2 = 65536 := by decide
      omega
    exact ⟨wordOf4_lt _ (by simp; omega), wordOf4_lt _ (by simp; omega), e2 _ (by simp; omega), e2 _ (by simp; omega), hb⟩
  · cases h
theorem collect_len {st : Stamp} : ∀ (L : List (List UInt8)) (k : Nat) (b : List UInt8), collect st k L = some b → b.length ≤ 48 * L.length
  | [], k, b, h => by simp [collect] at h; subst h; simp
  | s :: L, k, b, h => by
    simp only [collect] at h
    cases hp : pieceOf s with
    | none => rw [hp] at h; cases h
    | some q =>
      rw [hp] at h
      simp only at h
      split at h
      · obtain ⟨c, hc, rfl⟩ := Option.map_eq_some_iff.1 h
        have h1 := collect_len L (k + 1) c hc
        have h2 := piece_len hp
        simp only [List.length_append, List.length_cons]
        omega
      · cases h
theorem recordOf_bd {L : List (List UInt8)} {st : Stamp} {b : List UInt8} (h : recordOf L = some (st, b)) : 1 ≤ st.count ∧ st.count ≤ L.length ∧ st.session < 4294967296 ∧ st.number < 4294967296 ∧ b.length ≤ 48 * st.count := by
  cases L with
  | nil => simp [recordOf] at h
  | cons s L =>
    simp only [recordOf] at h
    cases hp : pieceOf s with
    | none => rw [hp] at h; cases h
    | some p =>
      rw [hp] at h
      simp only at h
      split at h
      · cases h
      · rename_i hc
        obtain ⟨c, hc2, he⟩ := Option.map_eq_some_iff.1 h
        simp only [Prod.mk.injEq] at he
        obtain ⟨rfl, rfl⟩ := he
        have h1 := pieceOf_bd hp
        have h2 := collect_len _ _ _ hc2
        rw [List.length_take] at h2
        refine ⟨by omega, by omega, h1.1, h1.2.1, ?_⟩
        have : min p.st.count (s :: L).length ≤ p.st.count := Nat.min_le_left _ _
        omega
def stops (last : Option Stamp) (st : Stamp) : Bool := match last with | none => false | some l => decide (st.number ≠ (l.number + 1) % 4294967296 ∨ st.session < l.session)
theorem recs_none {k : Nat} {last : Option Stamp} {L : List (List UInt8)} (h : recordOf L = none) : recordsOf k last L = [] := by
  cases k with
  | zero => rfl
  | succ k => simp only [recordsOf, h]
theorem recs_stop {k : Nat} {last : Option Stamp} {L : List (List UInt8)} {st : Stamp} {b : List UInt8} (h : recordOf L = some (st, b)) (hs : stops last st = true) : recordsOf k last L = [] := by
  cases k with
  | zero => rfl
  | succ k =>
    simp only [recordsOf, h]
    exact if_pos hs
theorem recs_on {k : Nat} {last : Option Stamp} {L : List (List UInt8)} {st : Stamp} {b : List UInt8} (h : recordOf L = some (st, b)) (hs : stops last st = false) : recordsOf (k + 1) last L = (st, b) :: recordsOf k (some st) (L.drop st.count) := by
  simp only [recordsOf, h]
  exact if_neg (fun h => absurd (hs.symm.trans h) (by decide))
def lastOf (R : List (Stamp × List UInt8)) : Option Stamp := R.getLast?.map (·.1)
theorem lastOf_snoc (R : List (Stamp × List UInt8)) (x : Stamp × List UInt8) : lastOf (R ++ [x]) = some x.1 := by simp [lastOf]
def lastCells (o : Option Stamp) : List Value := match o with | none => [.int .u32 0, .int .u32 0, .int .i64 0] | some st => [.int .u32 (st.session : Int), .int .u32 (st.number : Int), .int .i64 (st.count : Int)]
def numAfter (num0 : Nat) (o : Option Stamp) : Nat := match o with | none => num0 | some st => (st.number + 1) % 4294967296
structure RowsIn (w : World) (v : Value) (bss : List (List UInt8)) (vs : List Value) (b0 : Nat) : Prop where
  own : w.ownsRow 0 23 1 v bss.length vs
  len : vs.length = bss.length
  ge : ∀ x, v.ownBlock = some x → b0 ≤ x
  row : ∀ (j : Nat) (u : Value) (bs : List UInt8), vs[j]? = some u → bss[j]? = some bs → ∃ g, BytesAt w u bs g ∧ b0 ≤ g ∧ g < w.heap.size ∧ v.ownBlock ≠ some g
  one : ∀ u ∈ vs, u.oneCell' = true
def RowsAt (w : World) (v : Value) (bss : List (List UInt8)) (b0 : Nat) : Prop := ∃ vs, RowsIn w v bss vs b0
theorem RowsIn.fr {S : List Nat} {w w' : World} {v : Value} {bss : List (List UInt8)} {vs : List Value} {b0 : Nat} (h : RowsIn w v bss vs b0) (hf : Fr S w w') (hS : ∀ x ∈ S, x < b0 ∨ w.heap.size ≤ x) : RowsIn w' v bss vs b0 :=
  ⟨own_fr h.own hf (fun g hg hm => by have := h.ge g hg; have := own_lt h.own g hg; have := hS g hm; omega), h.len, h.ge, fun j u bs h1 h2 => by
    obtain ⟨g, h3, h4, h5, h6⟩ := h.row j u bs h1 h2
    exact ⟨g, h3.fr hf (fun hm => by have := hS g hm; omega), h4, Nat.lt_of_lt_of_le h5 hf.size, h6⟩, h.one⟩
theorem RowsIn.nil (w : World) (b0 : Nat) : RowsIn w (.slice none 0 0) [] [] b0 := ⟨own_nil _ _ _ _, rfl, by simp [Value.ownBlock], by simp, by simp⟩
theorem RowsIn.mono {w : World} {v : Value} {bss : List (List UInt8)} {vs : List Value} {b0 b1 : Nat} (h : RowsIn w v bss vs b0) (hb : b1 ≤ b0) : RowsIn w v bss vs b1 :=
  ⟨h.own, h.len, fun x hx => Nat.le_trans hb (h.ge x hx), fun j u bs h1 h2 => by obtain ⟨g, h3, h4, h5⟩ := h.row j u bs h1 h2; exact ⟨g, h3, by omega, h5⟩, h.one⟩
theorem BytesAt.lt {w : World} {v : Value} {bs : List UInt8} {g b0 : Nat} (h : BytesAt w v bs g) (h0 : b0 ≤ g) (h1 : b0 < w.heap.size) : ∃ g', BytesAt w v bs g' ∧ b0 ≤ g' ∧ g' < w.heap.size := by
  obtain ⟨A, c, off, hv, hc, hb⟩ := h
  rcases Nat.eq_zero_or_pos bs.length with hz | hz
  · exact ⟨b0, ⟨A, c, off, hv, hc, fun h => by omega⟩, Nat.le_refl _, h1⟩
  · obtain ⟨hA, hcell⟩ := hb hz
    obtain ⟨x, xs, rfl⟩ : ∃ x xs, bs = x :: xs := by cases bs with | nil => simp at hz | cons x xs => exact ⟨x, xs, rfl⟩
    have h2 := hcell 0 (B8 x) rfl
    exact ⟨g, ⟨A, c, off, hv, hc, hb⟩, h0, World.block_lt_of_cell? w _ h2⟩
theorem RowsIn.push {w w7 : World} {v : Value} {bss : List (List UInt8)} {vs : List Value} {b0 : Nat} {u : Value} {bs : List UInt8} {g g7 cap : Nat} (h : RowsIn w v bss vs b0) (hu : BytesAt w u bs g) (hb : b0 ≤ g) (hglt : g < w.heap.size) (hgn : v.ownBlock ≠ some g) (h1 : u.oneCell' = true)
    (ho : w7.ownsRow 0 23 1 (.slice (some ⟨g7, 0, none⟩) (bss.length + 1) cap) (bss.length + 1) (vs ++ [u])) (hf : Fr v.ownBlock.toList w w7) (hat : v.ownBlock = some g7 ∨ g7 = w.heap.size) (hH : b0 ≤ w.heap.size) :
    RowsIn w7 (.slice (some ⟨g7, 0, none⟩) (bss.length + 1) cap) (bss ++ [bs]) (vs ++ [u]) b0 := by
  have hn7 : ∀ g', g' < w.heap.size → v.ownBlock ≠ some g' → (Value.slice (some ⟨g7, 0, none⟩) (bss.length + 1) cap).ownBlock ≠ some g' := by
    intro g' h1 h2 h3
    have h4 : g7 = g' := by simpa [Value.ownBlock] using h3
    rcases hat with h5 | h5
    · exact h2 (h4 ▸ h5)
    · omega
  refine ⟨by rw [List.length_append]; exact ho, by simp [h.len], ?_, ?_, ?_⟩
  · intro x hx
    have : g7 = x := by simpa [Value.ownBlock] using hx
    rcases hat with h5 | h5
    · exact h.ge x (this ▸ h5)
    · omega
  · intro j u' bs' hj hj'
    rcases Nat.lt_or_ge j bss.length with hlt | hge
    · rw [List.getElem?_append_left (by rw [h.len]; exact hlt)] at hj
      rw [List.getElem?_append_left hlt] at hj'
      obtain ⟨g', h3, h4, h5, h6⟩ := h.row j u' bs' hj hj'
      exact ⟨g', h3.fr hf (by simpa using h6), h4, Nat.lt_of_lt_of_le h5 hf.size, hn7 g' h5 h6⟩
    · rw [List.getElem?_append_right (by rw [h.len]; exact hge)] at hj
      rw [List.getElem?_append_right hge] at hj'
      have e1 : j - bss.length = 0 := by
        rcases Nat.eq_zero_or_pos (j - bss.length) with h | h
        · exact h
        · rw [List.getElem?_eq_none (by show 1 ≤ _; omega)] at hj'; cases hj'
      rw [h.len, e1] at hj
      rw [e1] at hj'
      simp only [List.getElem?_cons_zero, Option.some.injEq] at hj hj'
      subst hj hj'
      exact ⟨g, hu.fr hf (by simpa using hgn), hb, Nat.lt_of_lt_of_le hglt hf.size, hn7 g hglt hgn⟩
  · intro x hx
    rcases List.mem_append.1 hx with hx | hx
    · exact h.one x hx
    · simp at hx; subst hx; exact h1
theorem SecsAt.lt {w : World} {gl off : Nat} {gs : List Nat} {L : List (List UInt8)} (h : SecsAt w gl off gs L) : ∀ g ∈ gs, g < w.heap.size := by
  intro g hg
  obtain ⟨j, hj, rfl⟩ := List.getElem_of_mem hg
  have hj2 : j < L.length := by rw [← h.len]; exact hj
  exact (h.sec j _ _ (List.getElem?_eq_getElem hj) (List.getElem?_eq_getElem hj2)).1.lt
end Go.Proofs.YtpjbdpepofnleaaGreat
end
section
namespace Go.Proofs.YtpjbdpepofnleaaGreat
open Go.RowKit
theorem info_bytes : (Tryz.prog.info? 23).map (fun i => (i.zero, i.size, i.bytes)) = some (some (.slice none 0 0), 1, 24) := by kernel_rfl
def sliceLen (v : Value) : Nat := match v with | .slice _ n _ => n | _ => 0
def JOpenRel (w : World) (d f n num0 ses gp gl : Nat) (gs : List Nat) (L : List (List UInt8)) (out : Value) (wr : World) : Prop :=
  ∃ (R : List (Stamp × List UInt8)) (vs : List Value) (k at_ : Nat), R.length ≤ at_ ∧ at_ ≤ n ∧ n ≤ at_ + k ∧ recordsOf n none L = R ++ recordsOf k (lastOf R) (L.drop at_) ∧ at_ = (R.map (·.1.count)).sum ∧
    (∀ x ∈ R, x.1.session < 4294967296 ∧ x.1.number < 4294967296) ∧
    RowsIn wr out (R.map (·.2)) vs (gp + 1) ∧ Blk wr w.heap.size 160 (logCells d f n at_ (numAfter num0 (lastOf R)) ses false) ∧ Blk wr gp 166 (lastCells (lastOf R)) ∧ SecsAt wr gl 0 gs L ∧ Fr [] w wr
set_option maxRecDepth 100000 in
set_option maxHeartbeats 2000000 in
theorem open_ok {w : World} {d f n : Nat} {D : DM} {fp : List Nat} (hd : DiskAt w d D fp) (hdead : D.dead = false) (h1 : 1 ≤ n) (hfit : f + n ≤ D.S.length) (hnew : (newestOf (D.part f n)).1 < 4294967295) :
    Calls Tryz.prog 58 #[.pointer (some ⟨d, 0, none⟩), .int .i64 (f : Int), .int .i64 (n : Int)] w fun e w' => ∃ out,
      e = .returned (.tuple #[.pointer (some ⟨w.heap.size, 0, none⟩), out, .int .i64 0]) ∧
      RowsAt w' out ((recordsOf n none (D.part f n)).map (·.2)) (w.heap.size + 1) ∧
      Blk w' w.heap.size 160 (logCells d f n ((recordsOf n none (D.part f n)).map (·.1.count)).sum (numAfter (((newestOf (D.part f n)).2 + 1) % 4294967296) (lastOf (recordsOf n none (D.part f n)))) ((newestOf (D.part f n)).1 + 1) false) ∧ Fr [] w w' := by
  have hmost := (DiskAt.ok hd).most
  have HD := Lib.hid hd; have HDEAD := Lib.hid hdead; have HNEW := Lib.hid hnew
  clear hd hdead hnew
  have e1 : decide ((n : Int) < 1) = false := by simp; omega
  have e2 : decide ((f : Int) < 0) = false := by simp
  have e3 : decide (((D.S.length : Nat) : Int) < (n : Int)) = false := by simp; omega
  have e4 : decide (((D.S.length : Nat) : Int) - (n : Int) < (f : Int)) = false := by simp; omega
  go_enter Tryz.func58, Tryz.ntmps58
  go_wp2_with fail
  refine (dead_at HD.out).mono ?_
  rintro e w1 ⟨rfl, rfl⟩
  rw [HDEAD.out]
  go_wp2_with fail
  refine (size_at HD.out).mono ?_
  rintro e w1 ⟨rfl, rfl⟩
  go_wp2_with fail
  refine (size_at HD.out).mono ?_
  rintro e w1 ⟨rfl, rfl⟩
  go_wp2_with fail
  have hf1 : Fr [] w (w.alloc (.cells (logCells d f n 0 0 0 false).toArray 160)) := (Fr.refl [] w).alloc _
  refine (load_ok (lg := w.heap.size) (at_ := 0) (num := 0) (ses := 0) (br := false) (Blk.new w _ (logCells d f n 0 0 0 false)) (HD.out.fr hf1 (by simp)) HDEAD.out hfit hmost).mono ?_
  rintro e w2 ⟨A, c, gl, gs, rfl, hnc, hA, hs2, hgl, hgs, hf2⟩
  have hz1 : (w.alloc (.cells (logCells d f n 0 0 0 false).toArray 160)).heap.size = w.heap.size + 1 := by simp
  rw [hz1] at hgl hgs
  have hb2 := (Blk.new w 160 (logCells d f n 0 0 0 false)).fr hf2 (by simp)
  have HS2 := Lib.hid hs2; have HF2 := Lib.hid (hf1.trans hf2 (by simp)); have HB2 := Lib.hid hb2; have HGL := Lib.hid hgl; have HGS := Lib.hid hgs
  clear hs2 hf2 hf1 hb2 hgl hgs hz1
  go_wp2_with fail
  have hLn := D.part_len f n
  have hnw := newest_any (A := A) (c := c) (a := (0, 0)) HB2.out HS2.out (by rw [hLn]; exact hA) (by rw [hLn]; exact hnc) (by rw [hLn]; omega) (by have := HGL.out; omega)
  rw [hLn] at hnw
  refine hnw.mono ?_
  clear hnw
  rintro e w3 ⟨rfl, hb3, hf3⟩
  rw [← newFrom_eq] at hb3 ⊢
  rw [show decide ((newestOf (D.part f n)).1 < 4294967295) = true from decide_eq_true HNEW.out]
  have hF3 : Fr [] w w3 := HF2.out.trans hf3 (fun x hx => .inr (by simp at hx; omega))
  have hS3 := HS2.out.fr hf3 (by simp; have := HGL.out; omega) (fun g hg hm => by simp at hm; have := HGS.out g hg; omega)
  have hmod : ((newestOf (D.part f n)).1 + 1) % 4294967296 = (newestOf (D.part f n)).1 + 1 := Nat.mod_eq_of_lt (by have := HNEW.out; omega)
  rw [hmod] at hb3
  have hnb : (newestOf (D.part f n)).2 < 4294967296 ∨ True := .inr trivial
  have hgl3 : gl < w3.heap.size ∨ n = 0 := by
    rcases Nat.eq_zero_or_pos n with h0 | h0
    · exact .inr h0
    · obtain ⟨g, s, _, hc, _⟩ := hS3.at_ (j := 0) (by rw [hLn]; exact h0)
      exact .inl (World.block_lt_of_cell? w3 _ hc)
  have HB3 := Lib.hid hb3; have HF3 := Lib.hid hF3; have HS3 := Lib.hid hS3; have HLN := Lib.hid hLn; have HGL3 := Lib.hid hgl3
  clear hb3 hF3 hf3 hS3 hmod hnb HB2 HS2 HF2 hLn hgl3
  generalize hnum0 : ((newestOf (D.part f n)).2 + 1) % 4294967296 = num0 at *
  generalize hses0 : (newestOf (D.part f n)).1 + 1 = ses0 at *
  have hz3 := HF3.out.size
  have hl3 := HB3.out.lt
  have HNUM0 := Lib.hid hnum0; have HSES0 := Lib.hid hses0
  clear hnum0 hses0 e1 e2 e3 e4
  go_wp2
  go_loopw [12] (JOpenRel w d f n num0 ses0 w3.heap.size gl gs (D.part f n)) (fun out _ => n + 1 - sliceLen out)
  case atStart =>
    have hfa : Fr [] w3 (w3.alloc (.cells #[.int .u32 0, .int .u32 0, .int .i64 0] 166)) := (Fr.refl [] w3).alloc _
    exact ⟨[], [], n, 0, Nat.zero_le _, Nat.zero_le _, by omega, rfl, rfl, by simp, RowsIn.nil _ _, HB3.out.fr hfa (by simp), Blk.new w3 _ _, HS3.out.fr hfa (by simp) (by simp), HF3.out.trans hfa (by simp)⟩
  case round =>
    obtain ⟨R, vs, k, at_, hRa, han, hnk, hrecs, hsum, hbd, hrows, hblk, hlast, hsecs, hfr⟩ := hrel
    obtain ⟨oA, oc, rfl, hoc, _⟩ := own_shape hrows.own
    have m3 := hblk.at_ (i := 3) rfl
    have HRECS := Lib.hid hrecs; have HSUM := Lib.hid hsum; have HBD := Lib.hid hbd; have HROWS := Lib.hid hrows; have HBLK := Lib.hid hblk; have HLAST := Lib.hid hlast; have HSECS := Lib.hid hsecs; have HFR := Lib.hid hfr
    clear hrecs hsum hbd hrows hblk hlast hsecs hfr
    rw [List.length_map] at *
    have hdl : (List.drop at_ (D.part f n)).length = n - at_ := by rw [List.length_drop, HLN.out]
    have hnone : recordOf ((D.part f n).drop at_) = none → recordsOf n none (D.part f n) = R := fun h => by rw [HRECS.out, recs_none h, List.append_nil]
    have HDL := Lib.hid hdl; have HNONE := Lib.hid hnone; clear hdl hnone
    have hend : ∀ w5, recordsOf n none (D.part f n) = R → Fr [] wr w5 → ∃ out, Ending.returned (.tuple #[.pointer (some ⟨w.heap.size, 0, none⟩), .slice oA R.length oc, .int .i64 0]) = .returned (.tuple #[.pointer (some ⟨w.heap.size, 0, none⟩), out, .int .i64 0]) ∧
        RowsAt w5 out ((recordsOf n none (D.part f n)).map (·.2)) (w.heap.size + 1) ∧ Blk w5 w.heap.size 160 (logCells d f n ((recordsOf n none (D.part f n)).map (·.1.count)).sum (numAfter (((newestOf (D.part f n)).2 + 1) % 4294967296) (lastOf (recordsOf n none (D.part f n)))) ((newestOf (D.part f n)).1 + 1) false) ∧ Fr [] w w5 := by
      intro w5 hR hf5
      rw [hR, ← HSUM.out, HNUM0.out, HSES0.out]
      refine ⟨_, rfl, ⟨vs, ((HROWS.out.fr hf5 (by simp)).mono (by omega))⟩, HBLK.out.fr hf5 (by simp), HFR.out.trans hf5 (by simp)⟩
    have HEND := Lib.hid hend; clear hend
    have oAl : ∀ x, recordOf ((D.part f n).drop at_) = some x → recordOf ((D.part f n).drop at_) ≠ none := fun x h => by rw [h]; simp
    clear oAl
    by_cases hca : c = at_
    · have hn0 : n = at_ := by omega
      have hdr : (D.part f n).drop at_ = [] := List.eq_nil_of_length_eq_zero (by rw [HDL.out]; omega)
      have hR0 := HNONE.out (by rw [hdr]; rfl)
      have HR0 := Lib.hid hR0; clear hR0 hdr
      subst hca
      subst hn0
      go_wp2_with fail
      have hrec := record_any (A := A) (c := 0) (w := wr) (gl := gl) (off := 0) (gs := []) (L := []) ⟨rfl, by simp, by simp⟩ (by simp) (by simp) (by simp)
      refine hrec.mono ?_
      rintro e w4 ⟨rfl, hf4⟩
      have HF4 := Lib.hid hf4; clear hf4 hrec
      unfold noStamp
      go_wp2
      go_ret3
      exact HEND.out _ HR0.out (HF4.out.alloc _)
    · have hrec := record_any (A := A.map (·.add at_)) (c := c - at_) (HSECS.out.drop at_) (by intro h0; rw [HDL.out] at h0; rw [hA (by omega)]; simp [Addr.add_mid]) (by rw [HDL.out]; omega) (by rw [HDL.out]; omega)
      rw [HDL.out] at hrec
      have HREC := Lib.hid hrec; clear hrec
      go_wp2_with fail
      refine HREC.out.mono ?_
      intro e w4 hans
      unfold RecAns at hans
      cases hro : recordOf ((D.part f n).drop at_) with
      | none =>
        rw [hro] at hans
        obtain ⟨rfl, hf4⟩ := hans
        have hR0 := HNONE.out hro
        have HR0 := Lib.hid hR0; have HF4 := Lib.hid hf4
        clear hR0 hf4 hro
        unfold noStamp
        go_wp2
        go_ret3
        exact HEND.out _ HR0.out (HF4.out.alloc _)
      | some x =>
        obtain ⟨st, b⟩ := x
        rw [hro] at hans
        obtain ⟨v4, g4, rfl, hb4, hg4, hf4⟩ := hans
        obtain ⟨q1, q2, q3, q4, q5⟩ := recordOf_bd hro
        rw [HDL.out] at q2
        have HRO := Lib.hid hro; have HB4 := Lib.hid hb4; have HG4 := Lib.hid hg4; have HF4 := Lib.hid hf4
        clear hro hb4 hg4 hf4
        have hl4 := HLAST.out.fr HF4.out (by simp)
        have hlt4 := hl4.lt
        have hv4c : v4.cells = #[v4] := by obtain ⟨_, _, _, rfl, _⟩ := HB4.out; rfl
        have hv41 : v4.oneCell' = true := by obtain ⟨_, _, _, rfl, _⟩ := HB4.out; rfl
        have HV4C := Lib.hid hv4c; have HV41 := Lib.hid hv41; clear hv4c hv41
        unfold stampV
        by_cases hR : R = []
        · have hRn : ¬ (0 < R.length) := by rw [hR]; simp
          have hst : stops (lastOf R) st = false := by rw [hR]; rfl
          have HST := Lib.hid hst; have HL4 := Lib.hid hl4
          clear hl4 hR hst
          go_wp2_with fail
          have hfa : Fr [] wr (w4.alloc (.cells (lastCells (some st)).toArray 166)) := HF4.out.alloc _
          have hq5 : Blk (w4.alloc (.cells (lastCells (some st)).toArray 166)) w4.heap.size 166 (lastCells (some st)) := Blk.new w4 _ _
          have HFA := Lib.hid hfa; have HQ5 := Lib.hid hq5; clear hfa hq5
          refine wp_region_K (fun W => Blk W w4.heap.size 166 (lastCells (some st))) [0, 1, 4] (by kernel_rfl) ?_
          refine wpAnyK_take (i := 0) (some 93) ?vq1_0 rfl rfl (by kernel_rfl) (fun _ _ _ h => h) HQ5.out (.inl ⟨rfl, fun W hW => ?yq1_0⟩) ?_
          case yq1_0 => go_simp <;> with_reducible rfl
          simp only [nrm]
          refine wpAnyK_take (i := 1) (some 94) ?vq1_1 rfl rfl (by kernel_rfl) (fun _ _ _ h => h) HQ5.out (.inl ⟨rfl, fun W hW => ?yq1_1⟩) ?_
          case yq1_1 => go_simp <;> with_reducible rfl
          simp only [nrm]
          refine wpAnyK_take (i := 4) (some 97) (.agg (lastCells (some st)).toArray) rfl rfl (by kernel_rfl) (fun _ _ _ h => h) HQ5.out (yieldsIf_load_mid rfl 166 (.tmp 14) rfl w4.heap.size 0 rfl (lastCells (some st)) _ (fun W hW j v hj => by rw [Nat.zero_add]; exact hW.at_ hj) Tryz.underlying166 rfl (by kernel_rfl)) ?_
          simp only [nrm]
          obtain ⟨i0, hi0, hz0, hz1, hz2⟩ := info_parts info_bytes
          refine wpAnyK_step (j := 2) (some 95) rfl rfl (by kernel_rfl) rfl fun K hK => ?_
          refine wp_build_cell (.tmp 94) rfl Tryz.underlying22 hi0 hz0 hz1 rfl v4 rfl HV4C.out (w4.heap.size + 1) (by show (w4.alloc _).heap.size = _; simp) fun w6 hB6 hF6 hz6 => ?_
          have hF6' : Fr [] wr w6 := HFA.out.drew.trans hF6 (by simp)
          have hq6 : Blk w6 w4.heap.size 166 (lastCells (some st)) := HQ5.out.drew.fr hF6 (by simp)
          refine hK _ _ (fun _ => hq6) ?_
          simp only [nrm]
          refine wpAnyK_step (j := 3) (some 96) rfl rfl (by kernel_rfl) rfl fun K hK => ?_
          refine wp_append_fr (.tmp 93) (.tmp 95) rfl 23 1 24 Tryz.underlying22 hi0 hz0 hz1 hz2 rfl (by omega) (.slice oA R.length oc) R.length vs rfl ?own ⟨w4.heap.size + 1, 0, none⟩ 1 1 [v4] rfl rfl ?news ?one (by omega) (by unfold maxLen; omega) (by omega) (w4.heap.size + 2) hz6 fun g7 cap w7 ho7 hf7 hat7 hlt7 => ?_
          case own => have := (HROWS.out.fr hF6' (by simp)).own; rw [List.length_map] at this; exact this
          case one => intro u hu; simp at hu; subst hu; exact HV41.out
          case news => intro j u hu; rw [Addr.add_mid, Nat.zero_add]; exact hB6.at_ hu
          have hox : ∀ x ∈ (Value.slice oA R.length oc).ownBlock.toList, w3.heap.size + 1 ≤ x ∧ x < wr.heap.size := fun x hx => by
            have h : (Value.slice oA R.length oc).ownBlock = some x := by simpa using hx
            exact ⟨HROWS.out.ge x h, own_lt HROWS.out.own x h⟩
          have hz4 := HF4.out.size
          have hlw := HLAST.out.lt
          obtain ⟨g4', hb4', hg4', hl4'⟩ := (HB4.out.fr (((Fr.refl [] w4).alloc (.cells (lastCells (some st)).toArray 166)).drew.trans hF6 (by simp)) (by simp)).lt HG4.out (by omega)
          have hr7 : RowsIn w7 (.slice (some ⟨g7, 0, none⟩) (R.length + 1) cap) ((R ++ [(st, b)]).map (·.2)) (vs ++ [v4]) (w3.heap.size + 1) := by
            have hr6 := HROWS.out.fr hF6' (by simp)
            have hb6 : BytesAt w6 v4 b g4' := hb4'
            have := hr6.push (g7 := g7) (cap := cap) (w7 := w7) hb6 (by omega) (by omega) (fun hx => by have := hox g4' (by simp [hx]); omega) HV41.out (by rw [List.length_map]; exact ho7) hf7 (by rw [hz6]; exact hat7) (by omega)
            rw [List.length_map] at this
            rw [List.map_append]
            exact this
          have hq7 := hq6.fr hf7 (fun hm => by have := hox _ hm; omega)
          have hb7 := (HBLK.out.fr hF6' (by simp)).fr hf7 (fun hm => by have := hox _ hm; omega)
          have hl7 := (HLAST.out.fr hF6' (by simp)).fr hf7 (fun hm => by have := hox _ hm; omega)
          have hs7 := (HSECS.out.fr hF6' (by simp) (by simp)).fr hf7 (fun hm => by have := hox _ hm; have := HGL3.out; omega) (fun g hg hm => by have := hox _ hm; have := HS3.out.lt g hg; omega)
          have hfw7 := (HFR.out.trans hF6' (by simp)).trans hf7 (fun x hx => .inr (by have := hox _ hx; omega))
          refine hK _ _ (fun _ => hq7) ?_
          simp only [nrm]
          refine wpAnyK_step (j := 5) (some 12) rfl rfl (by kernel_rfl) rfl fun K hK => ?_
          refine wp_run_same (v := ?aq1_5) ?yq1_5 (hK _ _ (fun _ => hq7) ?_)
          case yq1_5 => go_simp <;> with_reducible rfl
          simp only [nrm]
          refine wpAnyK_step (j := 6) none rfl rfl (by kernel_rfl) rfl fun K hK => ?_
          refine wp_store_blk 166 (.tmp 13) (.tmp 97) rfl (lastCells (some st)) rfl rfl hl7 (by kernel_rfl) (by cases lastOf R <;> rfl) (by intro u hu; simp only [lastCells, List.mem_cons, List.not_mem_nil, or_false] at hu; rcases hu with rfl | rfl | rfl <;> rfl) fun w8 hB8 hF8 _ => hK _ _ (fun h => absurd h (by decide +kernel)) ?_
          simp only [Act.put]
          refine wpAnyK_done (by kernel_rfl) ?_ _
          have hq8 := hq7.fr hF8 (by simp; omega)
          have hb8 := hb7.fr hF8 (by simp; omega)
          have hs8 := hs7.fr hF8 (by simp; have := HGL3.out; omega) (fun g hg hm => by simp at hm; have := HS3.out.lt g hg; omega)
          have hr8 := hr7.fr hF8 (fun x hx => .inl (by simp at hx; omega))
          have hfw8 := hfw7.trans hF8 (fun x hx => .inr (by simp at hx; omega))
          have HQ8 := Lib.hid hq8; have HB8 := Lib.hid hb8; have HS8 := Lib.hid hs8; have HR8 := Lib.hid hr8; have HFW8 := Lib.hid hfw8; have HL8 := Lib.hid hB8
          clear hq8 hb8 hs8 hr8 hfw8 hB8 hF8 hfw7 hs7 hl7 hb7 hq7 hr7 hb4' hg4' hl4' hox hat7 ho7 hf7 hlt7 hq6 hF6 hF6' hB6 hz6 hK hi0 hz0 hz1 hz2 m3
          have l3 := HB8.out.at_ (i := 3) rfl
          have lf := HB8.out.free
          have p0 := HQ8.out.at_ (i := 0) rfl
          have p1 := HQ8.out.at_ (i := 1) rfl
          have p2 := HQ8.out.at_ (i := 2) rfl
          have wadd : IntKind.i64.wrap ((at_ : Int) + (st.count : Int)) = (at_ : Int) + (st.count : Int) := by rw [IntKind.wrap_i64]; omega
          go_wp2_with fail
          refine wp_region_K (fun W => W.cell? ⟨w.heap.size, 3, none⟩ = some (.int .i64 (at_ : Int)) ∧ W.cell? ⟨w4.heap.size, 2, none⟩ = some (.int .i64 (st.count : Int))) [0, 1, 2, 3, 4, 5, 6] (by kernel_rfl) ?_
          refine wpAnyK_take (i := 0) (some 98) ?vq2_0 rfl rfl (by kernel_rfl) (fun _ _ _ h => h) ⟨l3, p2⟩ (.inl ⟨rfl, fun W hW => ?yq2_0⟩) ?_
          case yq2_0 => (obtain ⟨c3, c2⟩ := hW; go_simp) <;> with_reducible rfl
          simp only [nrm]
          refine wpAnyK_take (i := 1) (some 99) ?vq2_1 rfl rfl (by kernel_rfl) (fun _ _ _ h => h) ⟨l3, p2⟩ (.inl ⟨rfl, fun W hW => ?yq2_1⟩) ?_
          case yq2_1 => (obtain ⟨c3, c2⟩ := hW; go_simp) <;> with_reducible rfl
          simp only [nrm]
          refine wpAnyK_take (i := 2) (some 100) ?vq2_2 rfl rfl (by kernel_rfl) (fun _ _ _ h => h) ⟨l3, p2⟩ (.inl ⟨rfl, fun W hW => ?yq2_2⟩) ?_
          case yq2_2 => (obtain ⟨c3, c2⟩ := hW; go_simp) <;> with_reducible rfl
          simp only [nrm]
          refine wpAnyK_take (i := 3) (some 101) ?vq2_3 rfl rfl (by kernel_rfl) (fun _ _ _ h => h) ⟨l3, p2⟩ (.inl ⟨rfl, fun W hW => ?yq2_3⟩) ?_
          case yq2_3 => (obtain ⟨c3, c2⟩ := hW; go_simp) <;> with_reducible rfl
          simp only [nrm]
          refine wpAnyK_take (i := 4) (some 102) ?vq2_4 rfl rfl (by kernel_rfl) (fun _ _ _ h => h) ⟨l3, p2⟩ (.inl ⟨rfl, fun W hW => ?yq2_4⟩) ?_
          case yq2_4 => (obtain ⟨c3, c2⟩ := hW; go_simp) <;> with_reducible rfl
          simp only [nrm]
          refine wpAnyK_take (i := 5) (some 103) ?vq2_5 rfl rfl (by kernel_rfl) (fun _ _ _ h => h) ⟨l3, p2⟩ (.inl ⟨rfl, fun W hW => ?yq2_5⟩) ?_
          case yq2_5 => (obtain ⟨c3, c2⟩ := hW; go_simp) <;> with_reducible rfl
          simp only [nrm]
          refine wpAnyK_take (i := 6) (some 104) ?vq2_6 rfl rfl (by kernel_rfl) (fun _ _ _ h => h) ⟨l3, p2⟩ (.inl ⟨rfl, fun W hW => ?yq2_6⟩) ?_
          case yq2_6 => (obtain ⟨c3, c2⟩ := hW; go_simp) <;> with_reducible rfl
          simp only [nrm]
          refine wpAnyK_step (j := 7) (some 105) rfl rfl (by kernel_rfl) rfl fun K hK => ?_
          refine wp_run_same (v := ?aq2_7) ?yq2_7 (hK _ _ (fun h => absurd h (by decide +kernel)) ?_)
          case yq2_7 => go_simp <;> with_reducible rfl
          simp only [nrm]
          refine wpAnyK_step (j := 8) (some 106) rfl rfl (by kernel_rfl) rfl fun K hK => ?_
          refine wp_run_same (v := ?aq2_8) ?yq2_8 (hK _ _ (fun h => absurd h (by decide +kernel)) ?_)
          case yq2_8 => go_simp <;> with_reducible rfl
          simp only [nrm]
          refine wpAnyK_step (j := 9) none rfl rfl (by kernel_rfl) rfl fun K hK => ?_
          refine wp_run_skip (w' := w8.drew.setCell ⟨w.heap.size, 3, none⟩ (.int .i64 ((at_ : Int) + (st.count : Int)))) (by go_simp) (hK _ _ (fun h => absurd h (by decide +kernel)) ?_)
          simp only [Act.put]
          refine wpAnyK_done (by kernel_rfl) ?_ _
          have hb9 : Blk (w8.drew.setCell ⟨w.heap.size, 3, none⟩ (.int .i64 ((at_ : Int) + (st.count : Int)))) w.heap.size 160 (logCells d f n (at_ + st.count) (numAfter num0 (lastOf R)) ses0 false) := by
            have h := HB8.out.drew.set_ 3 (.int .i64 ((at_ : Int) + (st.count : Int)))
            rw [show (at_ : Int) + (st.count : Int) = ((at_ + st.count : Nat) : Int) by omega] at h ⊢
            exact h
          have hf9 : Fr [w.heap.size] w8 (w8.drew.setCell ⟨w.heap.size, 3, none⟩ (.int .i64 ((at_ : Int) + (st.count : Int)))) := (Fr.refl [w.heap.size] w8).drew.setCell (.inl (by simp)) _
          generalize (w8.drew.setCell ⟨w.heap.size, 3, none⟩ (.int .i64 ((at_ : Int) + (st.count : Int)))) = w9 at *
          clear l3 lf p0 p1 p2 wadd hK
          have l4 := hb9.at_ (i := 4) rfl
          have lf := hb9.free
          have p1 := (HQ8.out.fr hf9 (by simp; omega)).at_ (i := 1) rfl
          have HB9 := Lib.hid hb9; have HF9 := Lib.hid hf9; clear hb9 hf9
          have wadd : IntKind.u32.wrap ((st.number : Int) + 1) = (((st.number + 1) % 4294967296 : Nat) : Int) := by rw [IntKind.wrap_u32]; omega
          go_wp2
          have hfs : ∀ w10, Fr [w.heap.size] w8 w10 → Blk w10 w.heap.size 160 (logCells d f n (at_ + st.count) ((st.number + 1) % 4294967296) ses0 false) →
              JOpenRel w d f n num0 ses0 w3.heap.size gl gs (D.part f n) (.slice (some ⟨g7, 0, none⟩) (R.length + 1) cap) w10 := by
            intro w10 hf10 hb10
            refine ⟨R ++ [(st, b)], vs ++ [v4], k - 1, at_ + st.count, by simp; omega, by omega, by omega, ?_, by simp [HSUM.out], ?_, HR8.out.fr hf10 (fun x hx => .inl (by simp at hx; omega)), ?_, ?_, ?_, HFW8.out.trans hf10 (fun x hx => .inr (by simp at hx; omega))⟩
            · have hk1 : k = (k - 1) + 1 := by omega
              rw [HRECS.out, hk1, recs_on HRO.out HST.out, lastOf_snoc, List.drop_drop, ← hk1]
              simp
            · intro x hx
              rcases List.mem_append.1 hx with hx | hx
              · exact HBD.out x hx
              · simp at hx; subst hx; exact ⟨q3, q4⟩
            · rw [lastOf_snoc]; exact hb10
            · rw [lastOf_snoc]; exact HL8.out.fr hf10 (by simp; omega)
            · exact HS8.out.fr hf10 (by simp; have := HGL.out; omega) (fun g hg hm => by simp at hm; have := HS3.out.lt g hg; have := HGS.out g hg; omega)
          refine ⟨hfs _ ?_ ?_, ?_⟩
          · first | exact HF9.out.setCell (.inl (by simp)) _ | exact (HF9.out.drew).setCell (.inl (by simp)) _ | exact (HF9.out.setCell (.inl (by simp)) _).drew
          · first | exact HB9.out.set_ 4 _ | exact HB9.out.drew.set_ 4 _ | exact (HB9.out.set_ 4 _).drew
          · simp only [sliceLen]; omega
        · obtain ⟨l, hl⟩ : ∃ l, lastOf R = some l := by
            unfold lastOf
            cases hg : R.getLast? with
            | none => rw [List.getLast?_eq_none_iff] at hg; exact absurd hg hR
            | some x => exact ⟨x.1, rfl⟩
          have hRp : 0 < R.length := by rcases Nat.eq_zero_or_pos R.length with h | h; exact absurd (List.eq_nil_of_length_eq_zero h) hR; exact h
          have hlb : l.number < 4294967296 ∧ l.session < 4294967296 := by
            unfold lastOf at hl
            obtain ⟨x, hx, rfl⟩ := Option.map_eq_some_iff.1 hl
            have := HBD.out x (List.mem_of_getLast? hx)
            exact ⟨this.2, this.1⟩
          rw [hl] at hl4
          have HL4 := Lib.hid hl4
          have o0 := hl4.at_ (i := 0) rfl
          have o1 := hl4.at_ (i := 1) rfl
          have HL := Lib.hid hl
          clear hl4 hl hR
          have wadd0 : IntKind.u32.wrap ((l.number : Int) + 1) = (((l.number + 1) % 4294967296 : Nat) : Int) := by rw [IntKind.wrap_u32]; omega
          cases hst : stops (lastOf R) st with
          | true =>
            have hR0 : recordsOf n none (D.part f n) = R := by rw [HRECS.out, recs_stop HRO.out hst, List.append_nil]
            have HR0 := Lib.hid hR0; clear hR0
            rw [HL.out] at hst
            simp only [stops, decide_eq_true_eq] at hst
            by_cases hnn : (st.number : Int) = (((l.number + 1) % 4294967296 : Nat) : Int)
            · have hss : (st.session : Int) < (l.session : Int) := by omega
              clear hst
              go_wp2
              go_ret3
              exact HEND.out _ HR0.out (HF4.out.alloc _)
            · clear hst
              go_wp2
              go_ret3
              exact HEND.out _ HR0.out (HF4.out.alloc _)
          | false =>
            have HST := Lib.hid hst
            rw [HL.out] at hst
            simp only [stops, decide_eq_false_iff_not] at hst
            have hnn : (st.number : Int) = (((l.number + 1) % 4294967296 : Nat) : Int) := by omega
            have hss : ¬ ((st.session : Int) < (l.session : Int)) := by omega
            have wadd1 : IntKind.u32.wrap ((l.number : Int) + 1) = (st.number : Int) := by rw [wadd0, hnn]
            clear hst wadd0 hnn
            go_wp2_with fail
            have hfa : Fr [] wr (w4.alloc (.cells (lastCells (some st)).toArray 166)) := HF4.out.alloc _
            have hq5 : Blk (w4.alloc (.cells (lastCells (some st)).toArray 166)) w4.heap.size 166 (lastCells (some st)) := Blk.new w4 _ _
            have HFA := Lib.hid hfa; have HQ5 := Lib.hid hq5; clear hfa hq5
            refine wp_region_K (fun W => Blk W w4.heap.size 166 (lastCells (some st))) [0, 1, 4] (by kernel_rfl) ?_
            refine wpAnyK_take (i := 0) (some 93) ?vq3_0 rfl rfl (by kernel_rfl) (fun _ _ _ h => h) HQ5.out (.inl ⟨rfl, fun W hW => ?yq3_0⟩) ?_
            case yq3_0 => go_simp <;> with_reducible rfl
            simp only [nrm]
            refine wpAnyK_take (i := 1) (some 94) ?vq3_1 rfl rfl (by kernel_rfl) (fun _ _ _ h => h) HQ5.out (.inl ⟨rfl, fun W hW => ?yq3_1⟩) ?_
            case yq3_1 => go_simp <;> with_reducible rfl
            simp only [nrm]
            refine wpAnyK_take (i := 4) (some 97) (.agg (lastCells (some st)).toArray) rfl rfl (by kernel_rfl) (fun _ _ _ h => h) HQ5.out (yieldsIf_load_mid rfl 166 (.tmp 14) rfl w4.heap.size 0 rfl (lastCells (some st)) _ (fun W hW j v hj => by rw [Nat.zero_add]; exact hW.at_ hj) Tryz.underlying166 rfl (by kernel_rfl)) ?_
            simp only [nrm]
            obtain ⟨i0, hi0, hz0, hz1, hz2⟩ := info_parts info_bytes
            refine wpAnyK_step (j := 2) (some 95) rfl rfl (by kernel_rfl) rfl fun K hK => ?_
            refine wp_build_cell (.tmp 94) rfl Tryz.underlying22 hi0 hz0 hz1 rfl v4 rfl HV4C.out (w4.heap.size + 1) (by show (w4.alloc _).heap.size = _; simp) fun w6 hB6 hF6 hz6 => ?_
            have hF6' : Fr [] wr w6 := HFA.out.drew.trans hF6 (by simp)
            have hq6 : Blk w6 w4.heap.size 166 (lastCells (some st)) := HQ5.out.drew.fr hF6 (by simp)
            refine hK _ _ (fun _ => hq6) ?_
            simp only [nrm]
            refine wpAnyK_step (j := 3) (some 96) rfl rfl (by kernel_rfl) rfl fun K hK => ?_
            refine wp_append_fr (.tmp 93) (.tmp 95) rfl 23 1 24 Tryz.underlying22 hi0 hz0 hz1 hz2 rfl (by omega) (.slice oA R.length oc) R.length vs rfl ?own ⟨w4.heap.size + 1, 0, none⟩ 1 1 [v4] rfl rfl ?news ?one (by omega) (by unfold maxLen; omega) (by omega) (w4.heap.size + 2) hz6 fun g7 cap w7 ho7 hf7 hat7 hlt7 => ?_
            case own => have := (HROWS.out.fr hF6' (by simp)).own; rw [List.length_map] at this; exact this
            case one => intro u hu; simp at hu; subst hu; exact HV41.out
            case news => intro j u hu; rw [Addr.add_mid, Nat.zero_add]; exact hB6.at_ hu
            have hox : ∀ x ∈ (Value.slice oA R.length oc).ownBlock.toList, w3.heap.size + 1 ≤ x ∧ x < wr.heap.size := fun x hx => by
              have h : (Value.slice oA R.length oc).ownBlock = some x := by simpa using hx
              exact ⟨HROWS.out.ge x h, own_lt HROWS.out.own x h⟩
            have hz4 := HF4.out.size
            have hlw := HLAST.out.lt
            obtain ⟨g4', hb4', hg4', hl4'⟩ := (HB4.out.fr (((Fr.refl [] w4).alloc (.cells (lastCells (some st)).toArray 166)).drew.trans hF6 (by simp)) (by simp)).lt HG4.out (by omega)
            have hr7 : RowsIn w7 (.slice (some ⟨g7, 0, none⟩) (R.length + 1) cap) ((R ++ [(st, b)]).map (·.2)) (vs ++ [v4]) (w3.heap.size + 1) := by
              have hr6 := HROWS.out.fr hF6' (by simp)
              have hb6 : BytesAt w6 v4 b g4' := hb4'
              have := hr6.push (g7 := g7) (cap := cap) (w7 := w7) hb6 (by omega) (by omega) (fun hx => by have := hox g4' (by simp [hx]); omega) HV41.out (by rw [List.length_map]; exact ho7) hf7 (by rw [hz6]; exact hat7) (by omega)
              rw [List.length_map] at this
              rw [List.map_append]
              exact this
            have hq7 := hq6.fr hf7 (fun hm => by have := hox _ hm; omega)
            have hb7 := (HBLK.out.fr hF6' (by simp)).fr hf7 (fun hm => by have := hox _ hm; omega)
            have hl7 := (HLAST.out.fr hF6' (by simp)).fr hf7 (fun hm => by have := hox _ hm; omega)
            have hs7 := (HSECS.out.fr hF6' (by simp) (by simp)).fr hf7 (fun hm => by have := hox _ hm; have := HGL3.out; omega) (fun g hg hm => by have := hox _ hm; have := HS3.out.lt g hg; omega)
            have hfw7 := (HFR.out.trans hF6' (by simp)).trans hf7 (fun x hx => .inr (by have := hox _ hx; omega))
            refine hK _ _ (fun _ => hq7) ?_
            simp only [nrm]
            refine wpAnyK_step (j := 5) (some 12) rfl rfl (by kernel_rfl) rfl fun K hK => ?_
            refine wp_run_same (v := ?aq3_5) ?yq3_5 (hK _ _ (fun _ => hq7) ?_)
            case yq3_5 => go_simp <;> with_reducible rfl
            simp only [nrm]
            refine wpAnyK_step (j := 6) none rfl rfl (by kernel_rfl) rfl fun K hK => ?_
            refine wp_store_blk 166 (.tmp 13) (.tmp 97) rfl (lastCells (some st)) rfl rfl hl7 (by kernel_rfl) (by cases lastOf R <;> rfl) (by intro u hu; simp only [lastCells, List.mem_cons, List.not_mem_nil, or_false] at hu; rcases hu with rfl | rfl | rfl <;> rfl) fun w8 hB8 hF8 _ => hK _ _ (fun h => absurd h (by decide +kernel)) ?_
            simp only [Act.put]
            refine wpAnyK_done (by kernel_rfl) ?_ _
            have hq8 := hq7.fr hF8 (by simp; omega)
            have hb8 := hb7.fr hF8 (by simp; omega)
            have hs8 := hs7.fr hF8 (by simp; have := HGL3.out; omega) (fun g hg hm => by simp at hm; have := HS3.out.lt g hg; omega)
            have hr8 := hr7.fr hF8 (fun x hx => .inl (by simp at hx; omega))
            have hfw8 := hfw7.trans hF8 (fun x hx => .inr (by simp at hx; omega))
            have HQ8 := Lib.hid hq8; have HB8 := Lib.hid hb8; have HS8 := Lib.hid hs8; have HR8 := Lib.hid hr8; have HFW8 := Lib.hid hfw8; have HL8 := Lib.hid hB8
            clear hq8 hb8 hs8 hr8 hfw8 hB8 hF8 hfw7 hs7 hl7 hb7 hq7 hr7 hb4' hg4' hl4' hox hat7 ho7 hf7 hlt7 hq6 hF6 hF6' hB6 hz6 hK hi0 hz0 hz1 hz2 m3
            have l3 := HB8.out.at_ (i := 3) rfl
            have lf := HB8.out.free
            have p0 := HQ8.out.at_ (i := 0) rfl
            have p1 := HQ8.out.at_ (i := 1) rfl
            have p2 := HQ8.out.at_ (i := 2) rfl
            have wadd : IntKind.i64.wrap ((at_ : Int) + (st.count : Int)) = (at_ : Int) + (st.count : Int) := by rw [IntKind.wrap_i64]; omega
            go_wp2_with fail
            refine wp_region_K (fun W => W.cell? ⟨w.heap.size, 3, none⟩ = some (.int .i64 (at_ : Int)) ∧ W.cell? ⟨w4.heap.size, 2, none⟩ = some (.int .i64 (st.count : Int))) [0, 1, 2, 3, 4, 5, 6] (by kernel_rfl) ?_
            refine wpAnyK_take (i := 0) (some 98) ?vq4_0 rfl rfl (by kernel_rfl) (fun _ _ _ h => h) ⟨l3, p2⟩ (.inl ⟨rfl, fun W hW => ?yq4_0⟩) ?_
            case yq4_0 => (obtain ⟨c3, c2⟩ := hW; go_simp) <;> with_reducible rfl
            simp only [nrm]
            refine wpAnyK_take (i := 1) (some 99) ?vq4_1 rfl rfl (by kernel_rfl) (fun _ _ _ h => h) ⟨l3, p2⟩ (.inl ⟨rfl, fun W hW => ?yq4_1⟩) ?_
            case yq4_1 => (obtain ⟨c3, c2⟩ := hW; go_simp) <;> with_reducible rfl
            simp only [nrm]
            refine wpAnyK_take (i := 2) (some 100) ?vq4_2 rfl rfl (by kernel_rfl) (fun _ _ _ h => h) ⟨l3, p2⟩ (.inl ⟨rfl, fun W hW => ?yq4_2⟩) ?_
            case yq4_2 => (obtain ⟨c3, c2⟩ := hW; go_simp) <;> with_reducible rfl
            simp only [nrm]
            refine wpAnyK_take (i := 3) (some 101) ?vq4_3 rfl rfl (by kernel_rfl) (fun _ _ _ h => h) ⟨l3, p2⟩ (.inl ⟨rfl, fun W hW => ?yq4_3⟩) ?_
            case yq4_3 => (obtain ⟨c3, c2⟩ := hW; go_simp) <;> with_reducible rfl
            simp only [nrm]
            refine wpAnyK_take (i := 4) (some 102) ?vq4_4 rfl rfl (by kernel_rfl) (fun _ _ _ h => h) ⟨l3, p2⟩ (.inl ⟨rfl, fun W hW => ?yq4_4⟩) ?_
            case yq4_4 => (obtain ⟨c3, c2⟩ := hW; go_simp) <;> with_reducible rfl
            simp only [nrm]
            refine wpAnyK_take (i := 5) (some 103) ?vq4_5 rfl rfl (by kernel_rfl) (fun _ _ _ h => h) ⟨l3, p2⟩ (.inl ⟨rfl, fun W hW => ?yq4_5⟩) ?_
            case yq4_5 => (obtain ⟨c3, c2⟩ := hW; go_simp) <;> with_reducible rfl
            simp only [nrm]
            refine wpAnyK_take (i := 6) (some 104) ?vq4_6 rfl rfl (by kernel_rfl) (fun _ _ _ h => h) ⟨l3, p2⟩ (.inl ⟨rfl, fun W hW => ?yq4_6⟩) ?_
            case yq4_6 => (obtain ⟨c3, c2⟩ := hW; go_simp) <;> with_reducible rfl
            simp only [nrm]
            refine wpAnyK_step (j := 7) (some 105) rfl rfl (by kernel_rfl) rfl fun K hK => ?_
            refine wp_run_same (v := ?aq4_7) ?yq4_7 (hK _ _ (fun h => absurd h (by decide +kernel)) ?_)
            case yq4_7 => go_simp <;> with_reducible rfl
            simp only [nrm]
            refine wpAnyK_step (j := 8) (some 106) rfl rfl (by kernel_rfl) rfl fun K hK => ?_
            refine wp_run_same (v := ?aq4_8) ?yq4_8 (hK _ _ (fun h => absurd h (by decide +kernel)) ?_)
            case yq4_8 => go_simp <;> with_reducible rfl
            simp only [nrm]
            refine wpAnyK_step (j := 9) none rfl rfl (by kernel_rfl) rfl fun K hK => ?_
            refine wp_run_skip (w' := w8.drew.setCell ⟨w.heap.size, 3, none⟩ (.int .i64 ((at_ : Int) + (st.count : Int)))) (by go_simp) (hK _ _ (fun h => absurd h (by decide +kernel)) ?_)
            simp only [Act.put]
            refine wpAnyK_done (by kernel_rfl) ?_ _
            have hb9 : Blk (w8.drew.setCell ⟨w.heap.size, 3, none⟩ (.int .i64 ((at_ : Int) + (st.count : Int)))) w.heap.size 160 (logCells d f n (at_ + st.count) (numAfter num0 (lastOf R)) ses0 false) := by
              have h := HB8.out.drew.set_ 3 (.int .i64 ((at_ : Int) + (st.count : Int)))
              rw [show (at_ : Int) + (st.count : Int) = ((at_ + st.count : Nat) : Int) by omega] at h ⊢
              exact h
            have hf9 : Fr [w.heap.size] w8 (w8.drew.setCell ⟨w.heap.size, 3, none⟩ (.int .i64 ((at_ : Int) + (st.count : Int)))) := (Fr.refl [w.heap.size] w8).drew.setCell (.inl (by simp)) _
            generalize (w8.drew.setCell ⟨w.heap.size, 3, none⟩ (.int .i64 ((at_ : Int) + (st.count : Int)))) = w9 at *
            clear l3 lf p0 p1 p2 wadd hK
            have l4 := hb9.at_ (i := 4) rfl
            have lf := hb9.free
            have p1 := (HQ8.out.fr hf9 (by simp; omega)).at_ (i := 1) rfl
            have HB9 := Lib.hid hb9; have HF9 := Lib.hid hf9; clear hb9 hf9
            have wadd : IntKind.u32.wrap ((st.number : Int) + 1) = (((st.number + 1) % 4294967296 : Nat) : Int) := by rw [IntKind.wrap_u32]; omega
            go_wp2
            have hfs : ∀ w10, Fr [w.heap.size] w8 w10 → Blk w10 w.heap.size 160 (logCells d f n (at_ + st.count) ((st.number + 1) % 4294967296) ses0 false) →
                JOpenRel w d f n num0 ses0 w3.heap.size gl gs (D.part f n) (.slice (some ⟨g7, 0, none⟩) (R.length + 1) cap) w10 := by
              intro w10 hf10 hb10
              refine ⟨R ++ [(st, b)], vs ++ [v4], k - 1, at_ + st.count, by simp; omega, by omega, by omega, ?_, by simp [HSUM.out], ?_, HR8.out.fr hf10 (fun x hx => .inl (by simp at hx; omega)), ?_, ?_, ?_, HFW8.out.trans hf10 (fun x hx => .inr (by simp at hx; omega))⟩
              · have hk1 : k = (k - 1) + 1 := by omega
                rw [HRECS.out, hk1, recs_on HRO.out HST.out, lastOf_snoc, List.drop_drop, ← hk1]
                simp
              · intro x hx
                rcases List.mem_append.1 hx with hx | hx
                · exact HBD.out x hx
                · simp at hx; subst hx; exact ⟨q3, q4⟩
              · rw [lastOf_snoc]; exact hb10
              · rw [lastOf_snoc]; exact HL8.out.fr hf10 (by simp; omega)
              · exact HS8.out.fr hf10 (by simp; have := HGL.out; omega) (fun g hg hm => by simp at hm; have := HS3.out.lt g hg; have := HGS.out g hg; omega)
            refine ⟨hfs _ ?_ ?_, ?_⟩
            · first | exact HF9.out.setCell (.inl (by simp)) _ | exact (HF9.out.drew).setCell (.inl (by simp)) _ | exact (HF9.out.setCell (.inl (by simp)) _).drew
            · first | exact HB9.out.set_ 4 _ | exact HB9.out.drew.set_ 4 _ | exact (HB9.out.set_ 4 _).drew
            · simp only [sliceLen]; omega
end Go.Proofs.YtpjbdpepofnleaaGreat
end
section
namespace Go.Proofs.YtpjbdpepofnleaaGreat
open Go.RowKit
theorem bytes_mark {w : World} {C : List UInt8} {fz : Nat × Nat} (w1 : World) (hw : w1 = w.alloc (.cells (bcells C).toArray 5 fz)) : BytesAt w1 (.slice (some ⟨w.heap.size, 0, none⟩) C.length C.length) C w.heap.size :=
  ⟨_, _, 0, rfl, Nat.le_refl _, fun _ => ⟨rfl, fun j u hu => by
    subst hw
    have : (w.alloc (.cells (bcells C).toArray 5 fz)).heap[w.heap.size]? = some (.cells (bcells C).toArray 5 fz) := heap_alloc_new w _
    simp only [World.cell?, this, Nat.zero_add]
    simpa using hu⟩⟩
section
variable {w0 w w' : World} {d : Nat} {D D' : DM}
end
end Go.Proofs.YtpjbdpepofnleaaGreat
end
section
namespace Go.Proofs.YtpjbdpepofnleaaGreat
open Go.RowKit
theorem run_string_of {P : Program} {w : World} {src e dst : TypeId} (hs : P.underlying src = some (.slice e)) (he : P.underlying e = some (.int .u8)) (hd : P.underlying dst = some .string) {v : Value} {bs : List UInt8} {g : Nat} (h : BytesAt w v bs g) :
    (convert src dst v).run P w = .ok (.string ⟨bs.toArray⟩) w := by
  obtain ⟨A, c, off, rfl, hc, hb⟩ := h
  rw [run_convert_bytes_string w src dst e _ _ c hs he hd]
  cases A with
  | none =>
    have h0 : bs = [] := by
      cases bs with
      | nil => rfl
      | cons x xs => have := (hb (by simp)).1; cases this
    subst h0
    simp [Conv.bytesToString]
    rfl
  | some a =>
    have hl : (loadCells a bs.length).run P w = .ok ((bs.map fun (c : UInt8) => (c.toNat : Int)).map (Value.int .u8)).toArray w := by
      have := run_loadCells_list (P := P) w a (bcells bs) (fun j v hj => by
        have h0 : 0 < bs.length := by have := (List.getElem?_eq_some_iff.1 hj).1; rw [bcells_len] at this; omega
        obtain ⟨ha, hcell⟩ := hb h0
        injection ha with ha
        subst ha
        rw [Addr.add_mid]
        exact hcell j v hj)
      rw [bcells_len] at this
      rw [this]
      congr 2
      simp [bcells, B8, Function.comp_def]
    rw [run_bytesToString w a bs.length c _ hl, foldl_push_bytes]
    have e : (bs.map fun (c : UInt8) => (c.toNat : Int)).map (fun n => UInt8.ofNat n.toNat) = bs := by
      rw [List.map_map]
      conv => rhs; rw [← List.map_id bs]
      apply List.map_congr_left
      intro x _
      simp
    rw [e]
    simp [ByteArray.empty, ByteArray.emptyWithCapacity]
    rfl
end Go.Proofs.YtpjbdpepofnleaaGreat
end
section
namespace Go.Proofs.YtpjbdpepofnleaaGreat
open Go.RowKit
def DkX (w0 w : World) (d : Nat) (D : DM) (X : Nat → Prop) : Prop := ∃ fp, DiskAt w d D fp ∧ (∀ k ∈ fp, w0.heap.size ≤ k ∧ ¬ X k) ∧ Fr [] w0 w ∧ ∀ k, X k → k < w.heap.size
def Kp (X : Nat → Prop) (w w' : World) : Prop := ∃ S, Fr S w w' ∧ ∀ x ∈ S, ¬ X x
section
variable {w0 w w' : World} {d : Nat} {D D' : DM} {X Y : Nat → Prop}
theorem Kp.blk (h : Kp X w w') {g : Nat} {t : TypeId} {cs : List Value} (hb : Blk w g t cs) (hx : X g) : Blk w' g t cs := by
  obtain ⟨S, hf, hS⟩ := h; exact hb.fr hf (fun hm => hS _ hm hx)
theorem Kp.of (hf : Fr [] w w') : Kp X w w' := ⟨[], hf, by simp⟩
theorem new_X (w0 w : World) (n : Nat) (h1 : 1 ≤ n) (hn : n ≤ 65536) (hf : Fr [] w0 w) (hX : ∀ k, X k → k < w.heap.size) :
    Calls Tryz.prog 28 #[.int .i64 n] w fun e w' => ∃ d, e = .returned (.tuple #[.pointer (some ⟨d, 0, none⟩), .int .i64 0]) ∧ DkX w0 w' d (DM.new n) X ∧ Fr [] w w' := by
  refine (new_ok n w h1 hn).mono ?_
  rintro e w' ⟨d, fp, he, hd, hf', hk⟩
  have hz := hf'.size
  exact ⟨d, he, ⟨fp, hd, fun k hm => ⟨Nat.le_trans hf.size (hk k hm), fun hx => by have := hX k hx; have := hk k hm; omega⟩, hf.trans hf' (by simp), fun k hx => Nat.lt_of_lt_of_le (hX k hx) hz⟩, hf'⟩
end
def openR (D : DM) (f n : Nat) : List (Stamp × List UInt8) := recordsOf n none (D.part f n)
def openL (D : DM) (f n : Nat) : LG :=
  { f := f, n := n, at_ := ((openR D f n).map (·.1.count)).sum, num := numAfter (((newestOf (D.part f n)).2 + 1) % 4294967296) (lastOf (openR D f n)), ses := (newestOf (D.part f n)).1 + 1, br := false }
structure LG.ok (l : LG) (D : DM) : Prop where
  at_ : l.at_ ≤ l.n
  fit : l.f + l.n ≤ D.S.length
  num : l.num < 4294967296
  ses : l.ses < 4294967296
theorem recs_sum : ∀ (k : Nat) (last : Option Stamp) (L : List (List UInt8)), ((recordsOf k last L).map (·.1.count)).sum ≤ L.length
  | 0, _, L => by simp [recordsOf]
  | k + 1, last, L => by
    cases hr : recordOf L with
    | none => rw [recs_none hr]; simp
    | some x =>
      obtain ⟨st, b⟩ := x
      have hb := recordOf_bd hr
      cases hs : stops last st with
      | true => rw [recs_stop hr hs]; simp
      | false =>
        rw [recs_on hr hs]
        have := recs_sum k (some st) (L.drop st.count)
        simp only [List.map_cons, List.sum_cons, List.length_drop] at this ⊢
        omega
theorem openL_ok {D : DM} {f n : Nat} (hfit : f + n ≤ D.S.length) (hnew : (newestOf (D.part f n)).1 < 4294967295) : (openL D f n).ok D := by
  refine ⟨?_, hfit, ?_, ?_⟩
  · have := recs_sum n none (D.part f n); rw [D.part_len] at this; exact this
  · show numAfter _ _ < _
    unfold numAfter
    split <;> omega
  · show _ + 1 < _; omega
section
variable {w0 w w' : World} {d : Nat} {D D' : DM} {X Y : Nat → Prop}
end
end Go.Proofs.YtpjbdpepofnleaaGreat
end
section
namespace Go.Proofs.YtpjbdpepofnleaaGreat
theorem collect_at {st : Stamp} : ∀ (L : List (List UInt8)) (k : Nat) (b : List UInt8), collect st k L = some b → ∀ j s, L[j]? = some s → ∃ q, pieceOf s = some q ∧ q.st = st ∧ q.place = k + j
  | [], k, b, h, j, s, hj => by simp at hj
  | x :: L, k, b, h, j, s, hj => by
    simp only [collect] at h
    cases hp : pieceOf x with
    | none => rw [hp] at h; cases h
    | some q =>
      rw [hp] at h
      simp only at h
      split at h
      · rename_i hq
        obtain ⟨c, hc, _⟩ := Option.map_eq_some_iff.1 h
        cases j with
        | zero => simp at hj; subst hj; exact ⟨q, hp, hq.1, by omega⟩
        | succ j =>
          obtain ⟨q', h1, h2, h3⟩ := collect_at L (k + 1) c hc j s (by simpa using hj)
          exact ⟨q', h1, h2, by omega⟩
      · cases h
theorem record_at {L : List (List UInt8)} {st : Stamp} {b : List UInt8} (h : recordOf L = some (st, b)) {k : Nat} (hk : k < st.count) : ∃ s q, L[k]? = some s ∧ pieceOf s = some q ∧ q.st = st ∧ q.place = k := by
  have hb := recordOf_bd h
  cases L with
  | nil => simp [recordOf] at h
  | cons s L =>
    simp only [recordOf] at h
    cases hp : pieceOf s with
    | none => rw [hp] at h; cases h
    | some p =>
      rw [hp] at h
      simp only at h
      split at h
      · cases h
      · obtain ⟨c, hc2, he⟩ := Option.map_eq_some_iff.1 h
        simp only [Prod.mk.injEq] at he
        obtain ⟨rfl, rfl⟩ := he
        have hk2 : k < (s :: L).length := by omega
        obtain ⟨q, h1, h2, h3⟩ := collect_at _ 0 c hc2 k _ (by rw [List.getElem?_take, if_pos hk]; exact List.getElem?_eq_getElem hk2)
        exact ⟨_, q, List.getElem?_eq_getElem hk2, h1, h2, by omega⟩
def zsec : List UInt8 := List.replicate 64 0
theorem piece_zero : pieceOf zsec = none := by decide +kernel
theorem zero_none {L : List (List UInt8)} (h : ∀ s ∈ L, s = zsec) : recordOf L = none := by
  cases L with
  | nil => rfl
  | cons s L =>
    have := h s (List.mem_cons_self ..)
    subst this
    simp only [recordOf, piece_zero]
theorem newFold_ge (L : List (List UInt8)) : ∀ a : Nat × Nat, a.1 ≤ (newFrom a L).1 ∧ a.2 ≤ (newFrom a L).2 ∧ ∀ s ∈ L, ∀ q, pieceOf s = some q → q.st.session ≤ (newFrom a L).1 ∧ q.st.number ≤ (newFrom a L).2 := by
  induction L with
  | nil => intro a; exact ⟨Nat.le_refl _, Nat.le_refl _, by simp⟩
  | cons s L ih =>
    intro a
    have h := ih (newStep a s)
    have e : newFrom a (s :: L) = newFrom (newStep a s) L := rfl
    rw [e]
    have hs : a.1 ≤ (newStep a s).1 ∧ a.2 ≤ (newStep a s).2 ∧ ∀ q, pieceOf s = some q → q.st.session ≤ (newStep a s).1 ∧ q.st.number ≤ (newStep a s).2 := by
      unfold newStep
      cases hp : pieceOf s with
      | none => exact ⟨Nat.le_refl _, Nat.le_refl _, by simp⟩
      | some p => exact ⟨Nat.le_max_left .., Nat.le_max_left .., fun q hq => by simp at hq; subst hq; exact ⟨Nat.le_max_right .., Nat.le_max_right ..⟩⟩
    refine ⟨by omega, by omega, fun x hx q hq => ?_⟩
    rcases List.mem_cons.1 hx with rfl | hx
    · have := hs.2.2 q hq; omega
    · exact h.2.2 x hx q hq
theorem newFold_le (L : List (List UInt8)) (c e : Nat) (h : ∀ s ∈ L, ∀ q, pieceOf s = some q → q.st.session ≤ c ∧ q.st.number ≤ e) : ∀ a : Nat × Nat, a.1 ≤ c → a.2 ≤ e → (newFrom a L).1 ≤ c ∧ (newFrom a L).2 ≤ e := by
  induction L with
  | nil => intro a h1 h2; exact ⟨h1, h2⟩
  | cons s L ih =>
    intro a h1 h2
    have hs : (newStep a s).1 ≤ c ∧ (newStep a s).2 ≤ e := by
      unfold newStep
      cases hp : pieceOf s with
      | none => exact ⟨h1, h2⟩
      | some p => have := h s (List.mem_cons_self ..) p hp; exact ⟨by show max _ _ ≤ _; omega, by show max _ _ ≤ _; omega⟩
    exact ih (fun x hx => h x (List.mem_cons_of_mem _ hx)) _ hs.1 hs.2
end Go.Proofs.YtpjbdpepofnleaaGreat
end
section
namespace Go.Proofs.YtpjbdpepofnleaaGreat
structure St (D : DM) (f : Nat) (V : List (List UInt8)) : Prop where
  dead : D.dead = false
  pend : D.P = []
  part : ∃ S0 S1, D.S = S0 ++ (V ++ S1) ∧ S0.length = f
theorem St.view {D : DM} {f : Nat} {V : List (List UInt8)} (h : St D f V) {n : Nat} (hn : V.length = n) : D.part f n = V := by
  obtain ⟨S0, S1, h1, h2⟩ := h.part
  apply List.ext_getElem?
  intro i
  unfold DM.part
  rw [List.getElem?_map]
  rcases Nat.lt_or_ge i n with hi | hi
  · rw [List.getElem?_range hi]
    simp only [Option.map_some, DM.look, h.pend, lookAll, List.foldl_nil, h1]
    rw [List.getD_eq_getElem?_getD, List.getElem?_append_right (by omega), h2, show f + i - f = i by omega, List.getElem?_append_left (by omega), List.getElem?_eq_getElem (by omega)]
    rfl
  · rw [List.getElem?_eq_none (by simpa using hi), List.getElem?_eq_none (by omega)]
    rfl
section
variable {D : DM} {l : LG} {f : Nat} {A B : List (List UInt8)} {b : List UInt8}
end
end Go.Proofs.YtpjbdpepofnleaaGreat
end
