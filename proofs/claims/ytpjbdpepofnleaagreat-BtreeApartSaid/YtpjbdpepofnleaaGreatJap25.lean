/-
  Joined by join.py: Yh
-/
import Derived.Laws.BitsLemmas
import Derived.Test.YtpjbdpepofnleaaGreatJap24
section
namespace Go.Proofs.YtpjbdpepofnleaaGreat
open Go.RowKit Go.ChangeMaps Go.MapKept Go.Maps Go.Sort Go.Shelf
def okX (v : List UInt8) : Prop := ∃ b, v = [3, b]
def okY (v : List UInt8) : Prop := v = [2]
theorem put_x {w0 w w' : World} {dk g st x y : Nat} {s : PS} {X : Nat → Prop} {Ex Ey : En} {key v : Ky} {e : Ending} (hxy : y ≠ x) (h : PutEnd w0 dk g st s X (two x y Ex Ey) x key v w e w') (hn : s.n = 300) (h1 : Ex.length ≤ 61) (h2 : Ey.length ≤ 61) :
    ∃ s', e = .returned (.int .i64 0) ∧ s'.n = 300 ∧ StX w0 w' dk g st s' X (two x y (putE Ex key v) Ey) := by
  obtain ⟨s', hw, _, ⟨he, hs⟩ | ⟨_, _, _, hful⟩⟩ := h
  · rw [two_x, two_setx] at hs
    exact ⟨s', he, by rw [hw.same.n, hn], hs⟩
  · rw [two_x] at hful
    have := putE_len Ex key v
    have := rest_x hxy Ex Ey
    omega
theorem put_y {w0 w w' : World} {dk g st x y : Nat} {s : PS} {X : Nat → Prop} {Ex Ey : En} {key v : Ky} {e : Ending} (hxy : y ≠ x) (h : PutEnd w0 dk g st s X (two x y Ex Ey) y key v w e w') (hn : s.n = 300) (h1 : Ex.length ≤ 61) (h2 : Ey.length ≤ 61) :
    ∃ s', e = .returned (.int .i64 0) ∧ s'.n = 300 ∧ StX w0 w' dk g st s' X (two x y Ex (putE Ey key v)) := by
  obtain ⟨s', hw, _, ⟨he, hs⟩ | ⟨_, _, _, hful⟩⟩ := h
  · rw [two_y hxy, two_sety hxy] at hs
    exact ⟨s', he, by rw [hw.same.n, hn], hs⟩
  · rw [two_y hxy] at hful
    have := putE_len Ey key v
    have := rest_y (x := x) (y := y) Ex Ey
    omega
theorem del_x {w0 w w' : World} {dk g st x y : Nat} {s : PS} {X : Nat → Prop} {Ex Ey : En} {key : Ky} {e : Ending} (hxy : y ≠ x) (h : DelEnd w0 dk g st s X (two x y Ex Ey) x key w e w') (hn : s.n = 300) (h1 : Ex.length ≤ 61) (h2 : Ey.length ≤ 61) :
    ∃ s' b, e = .returned (.tuple #[.bool b, .int .i64 0]) ∧ s'.n = 300 ∧ StX w0 w' dk g st s' X (two x y (delE Ex key) Ey) := by
  obtain ⟨s', hw, _, ⟨he, hs⟩ | ⟨_, _, _, hful⟩⟩ := h
  · rw [two_x, two_setx] at hs
    exact ⟨s', _, he, by rw [hw.same.n, hn], hs⟩
  · rw [two_x] at hful
    have := delE_len Ex key
    have := rest_x hxy Ex Ey
    omega
theorem mod8 (n : Nat) (h : n < 1000) : bits .and .i64 (n : Int) 7 = ((n % 8 : Nat) : Int) := by
  have := bits_mask .i64 62 (by decide) (fun n h0 h1 => by rw [IntKind.wrap_i64]; omega) 3 (by decide) (n : Int) (by omega) (by omega)
  rw [show (2 : Int) ^ 3 - 1 = 7 from rfl, show (2 : Int) ^ 3 = 8 from rfl] at this
  rw [this]
  omega
theorem ys_all : ∀ n (l : List Ky), l.length = n → PutAll (ysF l) l okY
  | 0, l, h => by
    obtain rfl := List.length_eq_zero_iff.1 h
    exact PutAll.nil _
  | n + 1, l, h => by
    obtain ⟨l', k, rfl⟩ : ∃ l' k, l = l' ++ [k] := ⟨l.dropLast, l.getLast (by intro e; rw [e] at h; cases h), (List.dropLast_concat_getLast _).symm⟩
    rw [ysF_snoc]
    exact (ys_all n l' (by rw [List.length_append, List.length_singleton] at h; omega)).put rfl
theorem ys_count (l : List Ky) (k : Ky) : (ysF (l ++ [k])).length = if k ∈ l then (ysF l).length else (ysF l).length + 1 := by
  rw [ysF_snoc, putE_count (ys_all _ l rfl).rise, (ys_all _ l rfl).has]
  by_cases h : k ∈ l <;> simp [h]
structure ApSt (W w1 wr : World) (dk g st x y : Nat) (s : PS) (Ex Ey : En) : Prop where
  st : ∃ X, StX w1 wr dk g st s X (two x y Ex Ey) ∧ ∀ k, k < w1.heap.size → X k
  n : s.n = 300
set_option maxRecDepth 100000 in
set_option maxHeartbeats 16000000 in
theorem apart_walk (W : World) (v : Value) (l : List (Value × Ky)) (a b : Int) (hv : ArgBB W v l) : Calls Tryz.prog 5 #[v, .int .i64 a, .int .i64 b] W fun e w' => e = .returned (.bool true) ∧ Fr [] W w' := by
  obtain ⟨A, c, gl, off, rfl, hmax, hel⟩ := hv
  obtain ⟨x, hx7, hax⟩ := and_mask a 7 (by omega)
  obtain ⟨q, hq3, hbq⟩ := and_mask b 3 (by omega)
  have hax' : bits .and .i64 a 7 = (x : Int) := hax
  have hbq' : bits .and .i64 b 3 = (q : Int) := hbq
  obtain ⟨y, hy⟩ : ∃ y, y = (x + 1 + q) % 8 := ⟨_, rfl⟩
  have hy8 : y < 8 := by omega
  have hyx : y ≠ x := by omega
  have hm8 := mod8 (x + 1 + q) (by omega)
  rw [← hy] at hm8
  have hw1 : IntKind.i64.wrap ((x : Int) + 1) = (x : Int) + 1 := by rw [IntKind.wrap_i64]; omega
  have hw2 : IntKind.i64.wrap ((x : Int) + 1 + (q : Int)) = ((x + 1 + q : Nat) : Int) := by rw [IntKind.wrap_i64]; omega
  have hm9 : bits .and .i64 ((x : Int) + 1 + (q : Int)) 7 = (y : Int) := by rw [show (x : Int) + 1 + (q : Int) = ((x + 1 + q : Nat) : Int) by omega]; exact hm8
  have hw3 : IntKind.i64.wrap ((x : Int) + 1 + (q : Int)) = (x : Int) + 1 + (q : Int) := by rw [IntKind.wrap_i64]; omega
  clear hm8 hw2
  have HYX := Lib.hid hyx; have HX8 : Hid (x < 8) := Lib.hid (by omega); have HY8 := Lib.hid hy8
  clear hax hbq hy hyx hx7 hq3
  refine calls_post fun R HQ => ?_
  go_enter Tryz.func5, Tryz.ntmps5
  go_wp2_with fail
  refine (awake10 W).mono ?_
  rintro e w1 ⟨rfl, hf1⟩
  have HF1 := Lib.hid hf1; have HEL := Lib.hid hel
  clear hf1 hel
  have HX1 := Lib.hid (HQ.out _ _ ⟨rfl, HF1.out⟩)
  by_cases h60 : 60 < l.length
  · have h60I : (60 : Int) < (l.length : Int) := by omega
    go_wp2_with fail
    exact HX1.out
  · have h60I : ¬ (60 : Int) < (l.length : Int) := by omega
    have HL60 : Hid (l.length ≤ 60) := Lib.hid (by omega)
    go_wp2_with fail
    refine (made_X w1 (n := 300) (by omega) (by omega)).mono ?_
    rintro e w2 ⟨dk, g, st, s, X, rfl, hm⟩
    have HM := Lib.hid hm
    clear hm
    obtain ⟨ks, hks⟩ : ∃ ks, ks = l.map (·.2) := ⟨_, rfl⟩
    have hkl : ks.length = l.length := by rw [hks, List.length_map]
    have HKS := Lib.hid hks; have HKL := Lib.hid hkl
    clear hks hkl
    have hbt := build_two
    go_wp2_with fail
    clear hax' hbq' hm9 hw1 hw3
    go_loopw [12] (fun v12 wr => ∃ (i : Nat) (s' : PS) (Ex : En), i ≤ l.length ∧ v12 = .int .i64 (i : Int) ∧ ApSt W w1 wr dk g st x y s' Ex (ysF (ks.take i)) ∧ PutAll Ex (ks.take i) okX ∧ PutAll (ysF (ks.take i)) (ks.take i) okY ∧ ∀ k ∈ ks.take i, 1 ≤ k.length ∧ k.length ≤ 96) (fun v12 _ => l.length - (intOf v12).toNat)
    case atStart => exact ⟨0, s, [], Nat.zero_le _, rfl, ⟨⟨X, by rw [List.take_zero, show ysF [] = [] from rfl, two_nil]; exact HM.out.st, HM.out.old⟩, HM.out.n⟩, by rw [List.take_zero]; exact PutAll.nil _, by rw [List.take_zero]; exact PutAll.nil _, fun k hk => by simp at hk⟩
    case round =>
      obtain ⟨i, s', Ex, hil, rfl, ⟨⟨X', hst, hold⟩, hn⟩, hpx, hpy, hval⟩ := hrel
      have ST := Lib.hid hst; have HN := Lib.hid hn; have HVAL := Lib.hid hval; have HPX := Lib.hid hpx; have HPY := Lib.hid hpy; have HOLD := Lib.hid hold
      clear hst hn hval hpx hpy hold
      have HFR : Hid (Fr [] W wr) := Lib.hid (HF1.out.trans ST.out.px.frame (by simp))
      by_cases hi : i < l.length
      · obtain ⟨o, ho⟩ : ∃ o, l[i]? = some o := ⟨_, List.getElem?_eq_getElem hi⟩
        obtain ⟨hA, hcell, hby⟩ := HEL.out i o ho
        subst hA
        have hki : ks[i]? = some o.2 := by rw [HKS.out, List.getElem?_map, ho]; rfl
        have cr := HFR.out.keep hcell
        obtain ⟨ov, key⟩ := o
        obtain ⟨hbl, gk, hbk, hgk⟩ := hby
        simp only at cr hki hbl hbk hgk
        obtain ⟨Ak, ck, okk, rfl, hck, hak⟩ := id hbk
        have HX3 := Lib.hid (HQ.out (.returned (.bool true)) wr ⟨rfl, HFR.out⟩)
        have HKI := Lib.hid hki; have HBK := Lib.hid hbk; have HGK := Lib.hid hgk; have HO := Lib.hid ho; have HCE := Lib.hid hcell
        clear ho hcell hki hbk hgk hck hak
        have hwi : IntKind.i64.wrap ((i : Int) + 1) = (i : Int) + 1 := by rw [IntKind.wrap_i64]; omega
        by_cases h96 : 96 < key.length
        · have h96I : (96 : Int) < (key.length : Int) := by omega
          go_wp2_with fail
          exact HX3.out
        · have h96I : ¬ (96 : Int) < (key.length : Int) := by omega
          by_cases hk0 : key.length = 0
          · have hk0I : ((key.length : Nat) : Int) = 0 := by omega
            have hk0b : (((key.length : Nat) : Int) == 0) = true := by simpa using hk0I
            go_wp2_with fail
            exact HX3.out
          · have hk0I : ¬ ((key.length : Nat) : Int) = 0 := by omega
            have hk0b : (((key.length : Nat) : Int) == 0) = false := by simpa using hk0I
            have HGW : Hid (gk < w1.heap.size) := Lib.hid (by
              have := HF1.out.size
              rcases HGK.out with h | h
              · rw [h] at hk0; exact absurd rfl hk0
              · omega)
            have HV96 : Hid (1 ≤ key.length ∧ key.length ≤ 96) := Lib.hid ⟨by omega, by omega⟩
            have htl : (ks.take i).length ≤ 60 := by rw [List.length_take]; have := HL60.out; omega
            have HLX : Hid (Ex.length ≤ 60) := Lib.hid (by have := HPX.out.few; omega)
            have HLY : Hid ((ysF (ks.take i)).length ≤ 60) := Lib.hid (by have := HPY.out.few; omega)
            have hu8 : IntKind.u8.wrap (i : Int) = ((UInt8.ofNat i).toNat : Int) := u8_wrap i (by have := HL60.out; omega)
            obtain ⟨bi, hbi⟩ : ∃ bi, bi = UInt8.ofNat i := ⟨_, rfl⟩
            rw [← hbi] at hu8
            clear htl hbi
            have HOE : Hid (okX [3, bi]) := Lib.hid ⟨bi, rfl⟩
            go_wp2_with fail
            have hfa : Fr [] wr (wr.alloc (.cells #[.int .u8 1] 5)) := (Fr.refl [] wr).alloc _
            have hba : BytesAt (wr.alloc (.cells #[.int .u8 1] 5)) (.slice (some ⟨wr.heap.size, 0, none⟩) 1 1) [1] wr.heap.size := bytes_mark (w := wr) (C := [1]) _ rfl
            have hza : (wr.alloc (.cells #[.int .u8 1] 5)).heap.size = wr.heap.size + 1 := by rw [World.size_alloc]
            generalize wr.alloc (.cells #[.int .u8 1] 5) = wv at *
            have HPT := Lib.hid (Put_X (ST.out.fr hfa) (t := x) HX8.out (HBK.out.fr (HF1.out.trans (ST.out.px.frame.trans hfa (by simp)) (by simp)) (by simp)) (.inl (HOLD.out gk HGW.out)) hba (.inr ⟨Nat.le_refl _, by omega⟩) HV96.out.1 HV96.out.2 (by simp) (by rw [two_x]; have := HLX.out; have := HLY.out; omega))
            clear hba hza
            refine HPT.out.mono ?_
            rintro e w3 hend
            obtain ⟨_, rfl, hn, h3⟩ := put_x HYX.out hend HN.out (by have := HLX.out; omega) (by have := HLY.out; omega)
            have S3 := Lib.hid h3; have HN3 := Lib.hid hn
            have HOLD3 := Lib.hid (fun k hk => Or.inl (b := wr.heap.size ≤ k ∧ k < wv.heap.size) (HOLD.out k hk))
            have cr := (HF1.out.trans S3.out.px.frame (by simp)).keep HCE.out
            clear hend h3 hn HPT hfa
            have HLX1 : Hid ((putE Ex key [1]).length ≤ 61) := Lib.hid (by have := putE_len Ex key [1]; have := HLX.out; omega)
            go_wp2_with fail
            have hfa : Fr [] w3 (w3.alloc (.cells #[.int .u8 2] 5)) := (Fr.refl [] w3).alloc _
            have hba : BytesAt (w3.alloc (.cells #[.int .u8 2] 5)) (.slice (some ⟨w3.heap.size, 0, none⟩) 1 1) [2] w3.heap.size := bytes_mark (w := w3) (C := [2]) _ rfl
            have hza : (w3.alloc (.cells #[.int .u8 2] 5)).heap.size = w3.heap.size + 1 := by rw [World.size_alloc]
            generalize w3.alloc (.cells #[.int .u8 2] 5) = wv at *
            have HPT := Lib.hid (Put_X (S3.out.fr hfa) (t := y) HY8.out (HBK.out.fr (HF1.out.trans (S3.out.px.frame.trans hfa (by simp)) (by simp)) (by simp)) (.inl (HOLD3.out gk HGW.out)) hba (.inr ⟨Nat.le_refl _, by omega⟩) HV96.out.1 HV96.out.2 (by simp) (by rw [two_y HYX.out]; have := HLX1.out; have := HLY.out; omega))
            clear hba hza
            refine HPT.out.mono ?_
            rintro e w4 hend
            obtain ⟨_, rfl, hn, h4⟩ := put_y HYX.out hend HN3.out (by have := HLX1.out; omega) (by have := HLY.out; omega)
            have S4 := Lib.hid h4; have HN4 := Lib.hid hn
            have HOLD4 := Lib.hid (fun k hk => Or.inl (b := w3.heap.size ≤ k ∧ k < wv.heap.size) (HOLD3.out k hk))
            have cr := (HF1.out.trans S4.out.px.frame (by simp)).keep HCE.out
            clear hend h4 hn HPT hfa
            have HLY1 : Hid ((putE (ysF (ks.take i)) key [2]).length ≤ 61) := Lib.hid (by have := putE_len (ysF (ks.take i)) key [2]; have := HLY.out; omega)
            go_wp2_with fail
            have hfa : Fr [] w4 (w4.alloc (.cells #[.int .u8 3, .int .u8 (bi.toNat : Int)] 5)) := (Fr.refl [] w4).alloc _
            have hba : BytesAt (w4.alloc (.cells #[.int .u8 3, .int .u8 (bi.toNat : Int)] 5)) (.slice (some ⟨w4.heap.size, 0, none⟩) 2 2) [3, bi] w4.heap.size := bytes_mark (w := w4) (C := [3, bi]) _ rfl
            have hza : (w4.alloc (.cells #[.int .u8 3, .int .u8 (bi.toNat : Int)] 5)).heap.size = w4.heap.size + 1 := by rw [World.size_alloc]
            generalize w4.alloc (.cells #[.int .u8 3, .int .u8 (bi.toNat : Int)] 5) = wv at *
            have HPT := Lib.hid (Put_X (S4.out.fr hfa) (t := x) HX8.out (HBK.out.fr (HF1.out.trans (S4.out.px.frame.trans hfa (by simp)) (by simp)) (by simp)) (.inl (HOLD4.out gk HGW.out)) hba (.inr ⟨Nat.le_refl _, by omega⟩) HV96.out.1 HV96.out.2 (by simp) (by rw [two_x]; have := HLX1.out; have := HLY1.out; omega))
            clear hba hza
            refine HPT.out.mono ?_
            rintro e w5 hend
            obtain ⟨_, rfl, hn, h5⟩ := put_x HYX.out hend HN4.out (by have := HLX1.out; omega) (by have := HLY1.out; omega)
            have S5 := Lib.hid h5; have HN5 := Lib.hid hn
            have HOLD5 := Lib.hid (fun k hk => Or.inl (b := w4.heap.size ≤ k ∧ k < wv.heap.size) (HOLD4.out k hk))
            have cr := (HF1.out.trans S5.out.px.frame (by simp)).keep HCE.out
            clear hend h5 hn HPT hfa
            have HX : Hid (∃ (j : Nat) (s' : PS) (Ex : En), j ≤ l.length ∧ Value.int .i64 ((i : Int) + 1) = .int .i64 (j : Int) ∧ ApSt W w1 w5 dk g st x y s' Ex (ysF (ks.take j)) ∧ PutAll Ex (ks.take j) okX ∧ PutAll (ysF (ks.take j)) (ks.take j) okY ∧ ∀ k ∈ ks.take j, 1 ≤ k.length ∧ k.length ≤ 96) := Lib.hid ⟨i + 1, _, _, hi, rfl, ⟨⟨_, by rw [take_one HKI.out, ysF_snoc]; exact S5.out, HOLD5.out⟩, HN5.out⟩, by rw [putE_twice, take_one HKI.out]; exact HPX.out.put HOE.out, by rw [take_one HKI.out, ysF_snoc]; exact HPY.out.put rfl, fun k hk => by
              rw [take_one HKI.out, List.mem_append, List.mem_singleton] at hk
              rcases hk with hk | rfl
              · exact HVAL.out k hk
              · exact HV96.out⟩
            go_wp2_with fail
            go_roundw
            case rel => exact HX.out
            case measure => simp [intOf]; omega
      · obtain rfl : i = l.length := by omega
        have htk : ks.take l.length = ks := by rw [← HKL.out]; exact List.take_length
        rw [htk] at ST HVAL HPX HPY
        clear htk
        rename World => wl
        obtain ⟨Ey, hEy⟩ : ∃ Ey, Ey = ysF ks := ⟨_, rfl⟩
        rw [← hEy] at ST HPY
        have HEY := Lib.hid hEy
        have HLX : Hid (Ex.length ≤ 60) := Lib.hid (by have := HPX.out.few; have := HKL.out; have := HL60.out; omega)
        have HLY : Hid (Ey.length ≤ 60) := Lib.hid (by have := HPY.out.few; have := HKL.out; have := HL60.out; omega)
        clear hEy
        go_wp2_with fail
        go_loopw [16] (fun v16 wq => ∃ i : Nat, i ≤ l.length ∧ v16 = .int .i64 (i : Int) ∧ Fr [] wl wq) (fun v16 _ => l.length - (intOf v16).toNat)
        case atStart => exact ⟨0, Nat.zero_le _, rfl, Fr.refl _ _⟩
        case round =>
          rename World => wq
          obtain ⟨i, hile, rfl, hfq⟩ := hrel
          have FQ := Lib.hid hfq
          clear hfq
          have HFW : Hid (Fr [] W wq) := Lib.hid (HFR.out.trans FQ.out (by simp))
          by_cases hi : i < l.length
          ·
            -- the key i: key, its cell, its bytes
            obtain ⟨o, ho⟩ : ∃ o, l[i]? = some o := ⟨_, List.getElem?_eq_getElem hi⟩
            obtain ⟨hA, hcell, hby⟩ := HEL.out i o ho
            have hki : ks[i]? = some o.2 := by rw [HKS.out, List.getElem?_map, ho]; rfl
            obtain ⟨ov, key⟩ := o
            obtain ⟨hbl, gk, hbk, hgk⟩ := hby
            simp only at hcell hki hbl hbk hgk
            obtain ⟨Ak, ck, okk, rfl, hck, hak⟩ := id hbk
            have hvk := HVAL.out key (List.mem_of_getElem? hki)
            obtain ⟨rfl, _⟩ := hak (by omega)
            have hgw : gk < W.heap.size := by
              rcases hgk with h | h
              · rw [h] at hvk; exact absurd hvk.1 (by simp)
              · exact h
            clear ho hbl hgk hck hak
            subst hA
            have HCE := Lib.hid hcell; have HBK := Lib.hid hbk; have HVK := Lib.hid hvk; have HXK : Hid (X' gk) := Lib.hid (HOLD.out gk (by have := HF1.out.size; omega))
            obtain ⟨vx, hgx, bx, rfl⟩ := HPX.out.get (List.mem_of_getElem? hki)
            obtain ⟨vy, hgy, hvy⟩ := HPY.out.get (List.mem_of_getElem? hki)
            have hvy' : vy = [2] := hvy
            subst hvy'
            have HGX := Lib.hid hgx; have HGY := Lib.hid hgy
            have HG1 := Lib.hid (Get_X (ST.out.stay FQ.out) HX8.out (HBK.out.fr HFW.out (by simp)) HXK.out HVK.out.1 HVK.out.2 (by rw [two_x]; have := HLX.out; omega))
            have cr := HFW.out.keep HCE.out
            have hwi : IntKind.i64.wrap ((i : Int) + 1) = (i : Int) + 1 := by have := HL60.out; rw [IntKind.wrap_i64]; omega
            clear hcell hki hbk hvk hgw hgx hgy hvy
            go_wp2_with fail
            refine HG1.out.mono ?_
            rintro e wa ⟨va, rfl, ⟨qa, hba, _⟩, hfa⟩
            rw [two_x, HGX.out] at hba ⊢
            simp only [Option.isSome_some, Option.getD_some] at hba ⊢
            obtain ⟨Aa, ca, oa, rfl, hca, haa⟩ := hba
            obtain ⟨rfl, hcl⟩ := haa (by simp)
            have ca0 := hcl 0 (.int .u8 3) rfl
            rw [Nat.add_zero] at ca0
            have HFA := Lib.hid (FQ.out.trans hfa (by simp)); have HCA := Lib.hid ca0
            have HG2 := Lib.hid (Get_X (ST.out.stay HFA.out) HY8.out (HBK.out.fr (HFR.out.trans HFA.out (by simp)) (by simp)) HXK.out HVK.out.1 HVK.out.2 (by rw [two_y HYX.out]; have := HLY.out; omega))
            have cr := (HFR.out.trans HFA.out (by simp)).keep HCE.out
            clear haa hcl ca0 hfa HG1 hca
            go_wp2_with fail
            refine HG2.out.mono ?_
            rintro e wb ⟨vb, rfl, ⟨qb, hbb, _⟩, hfb⟩
            rw [two_y HYX.out, HGY.out] at hbb ⊢
            simp only [Option.isSome_some, Option.getD_some] at hbb ⊢
            obtain ⟨Ab, cb, ob, rfl, hcb, hab⟩ := hbb
            obtain ⟨rfl, hcl⟩ := hab (by simp)
            have cb0 := hcl 0 (.int .u8 2) rfl
            rw [Nat.add_zero] at cb0
            have ca0 := fr_keep hfb HCA.out
            have HX : Hid (∃ j : Nat, j ≤ l.length ∧ Value.int .i64 ((i : Int) + 1) = .int .i64 (j : Int) ∧ Fr [] wl wb) := Lib.hid ⟨i + 1, hi, rfl, HFA.out.trans hfb (by simp)⟩
            clear hab hcl hfb HG2 hcb cr
            go_wp2_with fail
            go_roundw
            case rel => exact HX.out
            case measure => simp [intOf]; omega
          · obtain rfl : i = l.length := by omega
            go_wp2_with fail
            go_loopw [23] (fun v23 wt => ∃ (i : Nat) (s2 : PS), i ≤ l.length ∧ v23 = .int .i64 (i : Int) ∧ ApSt W w1 wt dk g st x y s2 (gone10 Ex (ks.take i)) Ey) (fun v23 _ => l.length - (intOf v23).toNat)
            case atStart => exact ⟨0, s', Nat.zero_le _, rfl, ⟨X', by rw [List.take_zero, gone10_nil]; exact ST.out.stay FQ.out, HOLD.out⟩, HN.out⟩
            case round =>
              rename World => wt
              obtain ⟨i, s2, hile, rfl, ⟨⟨X2, hst2, hold2⟩, hn2⟩⟩ := hrel
              have ST2 := Lib.hid hst2; have HN2 := Lib.hid hn2; have HOLD2 := Lib.hid hold2
              clear hst2 hn2 hold2
              have HFW : Hid (Fr [] W wt) := Lib.hid (HF1.out.trans ST2.out.px.frame (by simp))
              by_cases hi : i < l.length
              ·
                -- the key i: key, its cell, its bytes
                obtain ⟨o, ho⟩ : ∃ o, l[i]? = some o := ⟨_, List.getElem?_eq_getElem hi⟩
                obtain ⟨hA, hcell, hby⟩ := HEL.out i o ho
                have hki : ks[i]? = some o.2 := by rw [HKS.out, List.getElem?_map, ho]; rfl
                obtain ⟨ov, key⟩ := o
                obtain ⟨hbl, gk, hbk, hgk⟩ := hby
                simp only at hcell hki hbl hbk hgk
                obtain ⟨Ak, ck, okk, rfl, hck, hak⟩ := id hbk
                have hvk := HVAL.out key (List.mem_of_getElem? hki)
                obtain ⟨rfl, _⟩ := hak (by omega)
                have hgw : gk < W.heap.size := by
                  rcases hgk with h | h
                  · rw [h] at hvk; exact absurd hvk.1 (by simp)
                  · exact h
                clear ho hbl hgk hck hak
                subst hA
                have HKI := Lib.hid hki
                have hgl := gone10_len Ex (ks.take i)
                have HDL := Lib.hid (Delete_X ST2.out HX8.out (hbk.fr HFW.out (by simp)) (HOLD2.out gk (by have := HF1.out.size; omega)) hvk.1 hvk.2 (by rw [two_x]; have := HLX.out; omega))
                have HGL := Lib.hid hgl
                have cr := HFW.out.keep hcell
                have hwi : IntKind.i64.wrap ((i : Int) + 1) = (i : Int) + 1 := by have := HL60.out; rw [IntKind.wrap_i64]; omega
                clear hcell hki hbk hvk hgw hgl
                go_wp2_with fail
                refine HDL.out.mono ?_
                rintro e wb hend
                obtain ⟨s3, bb, rfl, hn3, hst3⟩ := del_x HYX.out hend HN2.out (by have := HGL.out; have := HLX.out; omega) (by have := HLY.out; omega)
                have HX : Hid (∃ (j : Nat) (s2 : PS), j ≤ l.length ∧ Value.int .i64 ((i : Int) + 1) = .int .i64 (j : Int) ∧ ApSt W w1 wb dk g st x y s2 (gone10 Ex (ks.take j)) Ey) := Lib.hid ⟨i + 1, s3, hi, rfl, ⟨X2, by rw [take_one HKI.out, gone10_snoc]; exact hst3, HOLD2.out⟩, hn3⟩
                clear hend hst3 hn3 HDL cr
                go_wp2_with fail
                go_roundw
                case rel => exact HX.out
                case measure => simp [intOf]; omega
              · obtain rfl : i = l.length := by omega
                have htk : ks.take l.length = ks := by rw [← HKL.out]; exact List.take_length
                rw [htk, gone10_all (fun e he => (HPX.out.mem e he).1)] at ST2
                clear htk
                have HRG := Lib.hid (Range_X ST2.out (t := x) (up := none) (most := 1000) (low := []) HX8.out (BytesAt.nil _ st) ST2.out.xs rfl (by omega) (by rw [two_x]; simp))
                go_wp2_with fail
                refine HRG.out.mono ?_
                rintro e wm hend
                obtain ⟨Am, cm, rfl, hfm, -⟩ := hend.open_ (R := []) (by rw [two_x]; rfl)
                have HFM := Lib.hid hfm
                clear hend hfm HRG
                have HRG := Lib.hid (Range_X (ST2.out.stay HFM.out) (t := y) (up := none) (most := 1000) (low := []) HY8.out (BytesAt.nil _ st) ST2.out.xs rfl (by omega) (by rw [two_y HYX.out]; have := HLY.out; omega))
                go_wp2_with fail
                refine HRG.out.mono ?_
                rintro e wz hend
                obtain ⟨An, cn, rfl, hfn, -⟩ := hend.open_ (R := Ey) (by rw [two_y HYX.out, go_take HPY.out.rise, inB_all, List.take_of_length_le (by have := HLY.out; omega)])
                have HFZ := Lib.hid (HFM.out.trans hfn (by simp))
                have HWZ : Hid (Fr [] W wz) := Lib.hid (HF1.out.trans (ST2.out.px.frame.trans HFZ.out (by simp)) (by simp))
                clear hend hfn HRG
                go_wp2_with fail
                go_loopw [28, 29] (fun v28 v29 wu => ∃ i : Nat, i ≤ l.length ∧ v29 = .int .i64 (i : Int) ∧ v28 = .int .i64 (((ysF (ks.take i)).length : Nat) : Int) ∧ Fr [] wz wu) (fun _ v29 _ => l.length - (intOf v29).toNat)
                case atStart => exact ⟨0, Nat.zero_le _, rfl, rfl, Fr.refl _ _⟩
                case round =>
                  rename World => wu
                  obtain ⟨i, hile, rfl, rfl, hfu⟩ := hrel
                  have FU := Lib.hid hfu
                  clear hfu
                  by_cases hi : i < l.length
                  ·
                    -- the key i: ki, its cell, its bytes
                    obtain ⟨o, ho⟩ : ∃ o, l[i]? = some o := ⟨_, List.getElem?_eq_getElem hi⟩
                    obtain ⟨hA, hcell, hby⟩ := HEL.out i o ho
                    have hki : ks[i]? = some o.2 := by rw [HKS.out, List.getElem?_map, ho]; rfl
                    obtain ⟨ov, ki⟩ := o
                    obtain ⟨hbl, gi, hbi, hgk⟩ := hby
                    simp only at hcell hki hbl hbi hgk
                    obtain ⟨Ai, ci, okk, rfl, hck, hak⟩ := id hbi
                    have hvi := HVAL.out ki (List.mem_of_getElem? hki)
                    obtain ⟨rfl, _⟩ := hak (by omega)
                    have hgw : gi < W.heap.size := by
                      rcases hgk with h | h
                      · rw [h] at hvi; exact absurd hvi.1 (by simp)
                      · exact h
                    clear ho hbl hgk hck hak
                    subst hA
                    have HCI := Lib.hid hcell; have HKI := Lib.hid hki; have HBI := Lib.hid hbi
                    have hiI : (i : Int) < (l.length : Int) := by omega
                    have hwi : IntKind.i64.wrap ((i : Int) + 1) = (i : Int) + 1 := by have := HL60.out; rw [IntKind.wrap_i64]; omega
                    clear hcell hki hbi hvi hgw
                    go_wp2_with fail
                    go_loopw [30, 31] (fun v30 v31 wv => ∃ j : Nat, j ≤ i ∧ v31 = .int .i64 (j : Int) ∧ v30 = .bool (!decide (ki ∈ ks.take j)) ∧ Fr [] wz wv) (fun _ v31 _ => i - (intOf v31).toNat)
                    case atStart => exact ⟨0, Nat.zero_le _, rfl, by simp, FU.out⟩
                    case round =>
                      rename World => wv
                      obtain ⟨j, hji, rfl, rfl, hfv⟩ := hrel
                      have FV := Lib.hid hfv
                      clear hfv
                      by_cases hj : j < i
                      ·
                        have hjl : j < l.length := by omega
                        -- the key j: kj, its cell, its bytes
                        obtain ⟨oj, hoj⟩ : ∃ oj, l[j]? = some oj := ⟨_, List.getElem?_eq_getElem hjl⟩
                        obtain ⟨-, hcellj, hby⟩ := HEL.out j oj hoj
                        have hkj : ks[j]? = some oj.2 := by rw [HKS.out, List.getElem?_map, hoj]; rfl
                        obtain ⟨ovj, kj⟩ := oj
                        obtain ⟨hbl, gj, hbj, hgk⟩ := hby
                        simp only at hcellj hkj hbl hbj hgk
                        obtain ⟨Aj, cj, okj, rfl, hck, hak⟩ := id hbj
                        have hvj := HVAL.out kj (List.mem_of_getElem? hkj)
                        obtain ⟨rfl, _⟩ := hak (by omega)
                        have hgwj : gj < W.heap.size := by
                          rcases hgk with h | h
                          · rw [h] at hvj; exact absurd hvj.1 (by simp)
                          · exact h
                        clear hoj hbl hgk hck hak
                        have hjI : (j : Int) < (i : Int) := by omega
                        have hjlI : (j : Int) < (l.length : Int) := by omega
                        have hwj : IntKind.i64.wrap ((j : Int) + 1) = (j : Int) + 1 := by have := HL60.out; rw [IntKind.wrap_i64]; omega
                        have HTK : Hid ((!decide (ki ∈ ks.take (j + 1))) = ((!decide (ki ∈ ks.take j)) && !(kj == ki))) := Lib.hid (by
                          rw [take_one hkj]
                          by_cases h2 : kj = ki
                          · simp [h2]
                          · have h3 : ¬ ki = kj := fun e => h2 e.symm
                            by_cases h1 : ki ∈ ks.take j <;> simp [h1, h2, h3])
                        have HWV : Hid (Fr [] W wv.drew) := Lib.hid ((HWZ.out.trans FV.out (by simp)).drew)
                        have s0 := HWV.out.keep hcellj
                        have s1 := HWV.out.keep HCI.out
                        have s2 := hbj.fr HWV.out (by simp)
                        have s3 := HBI.out.fr HWV.out (by simp)
                        have FD := Lib.hid (FV.out.drew)
                        clear hcellj hkj hbj hvj hgwj
                        go_upto_region 38 with fail
                        by_cases hm : ki ∈ ks.take j
                        · have hb : (!decide (ki ∈ ks.take j)) = false := by simp [hm]
                          rw [hb] at HTK ⊢
                          have HM := Lib.hid hm
                          clear hm hb
                          refine wp_region_K (fun _ => True) [0, 1, 2, 3, 4, 5, 6, 7, 8, 9, 10, 11, 12, 13] (by kernel_rfl) ?_
                          refine wpAnyK_take (i := 0) (some 206) ?vq1_0 rfl rfl (by kernel_rfl) (fun _ _ _ h => h) trivial (.inl ⟨rfl, fun W hW => ?yq1_0⟩) ?_
                          case yq1_0 => go_simp <;> with_reducible rfl
                          simp only [nrm]
                          refine wpAnyK_take (i := 1) (some 207) ?vq1_1 rfl rfl (by kernel_rfl) (fun _ _ _ h => h) trivial (.inl ⟨rfl, fun W hW => ?yq1_1⟩) ?_
                          case yq1_1 => go_simp <;> with_reducible rfl
                          simp only [nrm]
                          refine wpAnyK_take (i := 2) (some 208) (undef) rfl rfl (by kernel_rfl) (fun _ _ _ h => h) trivial (.inr ⟨rfl, rfl⟩) ?_
                          simp only [nrm]
                          refine wpAnyK_take (i := 3) (some 209) (undef) rfl rfl (by kernel_rfl) (fun _ _ _ h => h) trivial (.inr ⟨rfl, rfl⟩) ?_
                          simp only [nrm]
                          refine wpAnyK_take (i := 4) (some 210) (undef) rfl rfl (by kernel_rfl) (fun _ _ _ h => h) trivial (.inr ⟨rfl, rfl⟩) ?_
                          simp only [nrm]
                          refine wpAnyK_take (i := 5) (some 211) (undef) rfl rfl (by kernel_rfl) (fun _ _ _ h => h) trivial (.inr ⟨rfl, rfl⟩) ?_
                          simp only [nrm]
                          refine wpAnyK_take (i := 6) (some 212) (undef) rfl rfl (by kernel_rfl) (fun _ _ _ h => h) trivial (.inr ⟨rfl, rfl⟩) ?_
                          simp only [nrm]
                          refine wpAnyK_take (i := 7) (some 213) (undef) rfl rfl (by kernel_rfl) (fun _ _ _ h => h) trivial (.inr ⟨rfl, rfl⟩) ?_
                          simp only [nrm]
                          refine wpAnyK_take (i := 8) (some 214) (undef) rfl rfl (by kernel_rfl) (fun _ _ _ h => h) trivial (.inr ⟨rfl, rfl⟩) ?_
                          simp only [nrm]
                          refine wpAnyK_take (i := 9) (some 215) (undef) rfl rfl (by kernel_rfl) (fun _ _ _ h => h) trivial (.inr ⟨rfl, rfl⟩) ?_
                          simp only [nrm]
                          refine wpAnyK_take (i := 10) (some 216) (undef) rfl rfl (by kernel_rfl) (fun _ _ _ h => h) trivial (.inr ⟨rfl, rfl⟩) ?_
                          simp only [nrm]
                          refine wpAnyK_take (i := 11) (some 217) (undef) rfl rfl (by kernel_rfl) (fun _ _ _ h => h) trivial (.inr ⟨rfl, rfl⟩) ?_
                          simp only [nrm]
                          refine wpAnyK_take (i := 12) (some 218) (undef) rfl rfl (by kernel_rfl) (fun _ _ _ h => h) trivial (.inr ⟨rfl, rfl⟩) ?_
                          simp only [nrm]
                          refine wpAnyK_take (i := 13) (some 219) ?vq1_13 rfl rfl (by kernel_rfl) (fun _ _ _ h => h) trivial (.inl ⟨rfl, fun W hW => ?yq1_13⟩) ?_
                          case yq1_13 => go_simp <;> with_reducible rfl
                          simp only [nrm]
                          refine wpAnyK_step (j := 14) (some 30) rfl rfl (by kernel_rfl) rfl fun K hK => ?_
                          refine wp_run_same (v := ?aq1_14) ?yq1_14 (hK _ _ (fun _ => trivial) ?_)
                          case yq1_14 => go_simp <;> with_reducible rfl
                          simp only [nrm]
                          refine wpAnyK_done (by kernel_rfl) ?_ _
                          have HX : Hid (∃ j' : Nat, j' ≤ i ∧ Value.int .i64 ((j : Int) + 1) = .int .i64 (j' : Int) ∧ Value.bool false = .bool (!decide (ki ∈ ks.take j')) ∧ Fr [] wz wv.drew) := Lib.hid ⟨j + 1, hj, rfl, by rw [HTK.out]; rfl, FD.out⟩
                          clear s0 s1 s2 s3
                          go_wp2_with fail
                          go_roundw
                          case rel => exact HX.out
                          case measure => simp [intOf]; omega
                        · have hb : (!decide (ki ∈ ks.take j)) = true := by simp [hm]
                          rw [hb] at HTK ⊢
                          have HM := Lib.hid hm
                          clear hm hb
                          refine wp_region_K (fun W' => W'.cell? ⟨gl, off + j, none⟩ = some (.slice (some ⟨gj, okj, none⟩) kj.length cj) ∧ W'.cell? ⟨gl, off + i, none⟩ = some (.slice (some ⟨gi, okk, none⟩) ki.length ci) ∧ BytesAt W' (.slice (some ⟨gj, okj, none⟩) kj.length cj) kj gj ∧ BytesAt W' (.slice (some ⟨gi, okk, none⟩) ki.length ci) ki gi) [0, 1, 2, 3, 4, 5, 6, 7, 8, 9, 10, 11, 12, 13] (by kernel_rfl) ?_
                          refine wpAnyK_take (i := 0) (some 206) ?vq2_0 rfl rfl (by kernel_rfl) (fun _ _ _ h => h) ⟨s0, s1, s2, s3⟩ (.inl ⟨rfl, fun W hW => ?yq2_0⟩) ?_
                          case yq2_0 => (obtain ⟨q0, q1, _, _⟩ := hW; go_simp) <;> with_reducible rfl
                          simp only [nrm]
                          refine wpAnyK_take (i := 1) (some 207) ?vq2_1 rfl rfl (by kernel_rfl) (fun _ _ _ h => h) ⟨s0, s1, s2, s3⟩ (.inl ⟨rfl, fun W hW => ?yq2_1⟩) ?_
                          case yq2_1 => (obtain ⟨q0, q1, _, _⟩ := hW; go_simp) <;> with_reducible rfl
                          simp only [nrm]
                          refine wpAnyK_take (i := 2) (some 208) ?vq2_2 rfl rfl (by kernel_rfl) (fun _ _ _ h => h) ⟨s0, s1, s2, s3⟩ (.inl ⟨rfl, fun W hW => ?yq2_2⟩) ?_
                          case yq2_2 => (obtain ⟨q0, q1, _, _⟩ := hW; go_simp) <;> with_reducible rfl
                          simp only [nrm]
                          refine wpAnyK_take (i := 3) (some 209) ?vq2_3 rfl rfl (by kernel_rfl) (fun _ _ _ h => h) ⟨s0, s1, s2, s3⟩ (.inl ⟨rfl, fun W hW => ?yq2_3⟩) ?_
                          case yq2_3 => (obtain ⟨q0, q1, _, _⟩ := hW; go_simp) <;> with_reducible rfl
                          simp only [nrm]
                          refine wpAnyK_take (i := 4) (some 210) ?vq2_4 rfl rfl (by kernel_rfl) (fun _ _ _ h => h) ⟨s0, s1, s2, s3⟩ (.inl ⟨rfl, fun W hW => ?yq2_4⟩) ?_
                          case yq2_4 => (obtain ⟨q0, q1, _, _⟩ := hW; go_simp) <;> with_reducible rfl
                          simp only [nrm]
                          refine wpAnyK_take (i := 5) (some 211) ?vq2_5 rfl rfl (by kernel_rfl) (fun _ _ _ h => h) ⟨s0, s1, s2, s3⟩ (.inl ⟨rfl, fun W hW => ?yq2_5⟩) ?_
                          case yq2_5 => (obtain ⟨q0, q1, _, _⟩ := hW; go_simp) <;> with_reducible rfl
                          simp only [nrm]
                          refine wpAnyK_take (i := 6) (some 212) (.string ⟨kj.toArray⟩) rfl rfl (by kernel_rfl) (fun _ _ _ h => h) ⟨s0, s1, s2, s3⟩ (.inl ⟨rfl, fun W' hW => by have := run_string_of (P := Tryz.prog) (src := 23) (dst := 9) Tryz.underlying23 Tryz.underlying5 Tryz.underlying9 hW.2.2.1; simp [execOp, Act.eval, Result.andThen, this]⟩) ?_
                          simp only [nrm]
                          refine wpAnyK_take (i := 7) (some 213) ?vq2_7 rfl rfl (by kernel_rfl) (fun _ _ _ h => h) ⟨s0, s1, s2, s3⟩ (.inl ⟨rfl, fun W hW => ?yq2_7⟩) ?_
                          case yq2_7 => (obtain ⟨q0, q1, _, _⟩ := hW; go_simp) <;> with_reducible rfl
                          simp only [nrm]
                          refine wpAnyK_take (i := 8) (some 214) ?vq2_8 rfl rfl (by kernel_rfl) (fun _ _ _ h => h) ⟨s0, s1, s2, s3⟩ (.inl ⟨rfl, fun W hW => ?yq2_8⟩) ?_
                          case yq2_8 => (obtain ⟨q0, q1, _, _⟩ := hW; go_simp) <;> with_reducible rfl
                          simp only [nrm]
                          refine wpAnyK_take (i := 9) (some 215) ?vq2_9 rfl rfl (by kernel_rfl) (fun _ _ _ h => h) ⟨s0, s1, s2, s3⟩ (.inl ⟨rfl, fun W hW => ?yq2_9⟩) ?_
                          case yq2_9 => (obtain ⟨q0, q1, _, _⟩ := hW; go_simp) <;> with_reducible rfl
                          simp only [nrm]
                          refine wpAnyK_take (i := 10) (some 216) ?vq2_10 rfl rfl (by kernel_rfl) (fun _ _ _ h => h) ⟨s0, s1, s2, s3⟩ (.inl ⟨rfl, fun W hW => ?yq2_10⟩) ?_
                          case yq2_10 => (obtain ⟨q0, q1, _, _⟩ := hW; go_simp) <;> with_reducible rfl
                          simp only [nrm]
                          refine wpAnyK_take (i := 11) (some 217) (.string ⟨ki.toArray⟩) rfl rfl (by kernel_rfl) (fun _ _ _ h => h) ⟨s0, s1, s2, s3⟩ (.inl ⟨rfl, fun W' hW => by have := run_string_of (P := Tryz.prog) (src := 23) (dst := 9) Tryz.underlying23 Tryz.underlying5 Tryz.underlying9 hW.2.2.2; simp [execOp, Act.eval, Result.andThen, this]⟩) ?_
                          simp only [nrm]
                          refine wpAnyK_take (i := 12) (some 218) (.bool (!(kj == ki))) rfl rfl (by kernel_rfl) (fun _ _ _ h => h) ⟨s0, s1, s2, s3⟩ (.inl ⟨rfl, fun W' _ => by simp [execOp, Act.eval, go_sem]⟩) ?_
                          simp only [nrm]
                          refine wpAnyK_take (i := 13) (some 219) ?vq2_13 rfl rfl (by kernel_rfl) (fun _ _ _ h => h) ⟨s0, s1, s2, s3⟩ (.inl ⟨rfl, fun W hW => ?yq2_13⟩) ?_
                          case yq2_13 => (obtain ⟨q0, q1, _, _⟩ := hW; go_simp) <;> with_reducible rfl
                          simp only [nrm]
                          refine wpAnyK_step (j := 14) (some 30) rfl rfl (by kernel_rfl) rfl fun K hK => ?_
                          refine wp_run_same (v := ?aq2_14) ?yq2_14 (hK _ _ (fun _ => ⟨s0, s1, s2, s3⟩) ?_)
                          case yq2_14 => go_simp <;> with_reducible rfl
                          simp only [nrm]
                          refine wpAnyK_done (by kernel_rfl) ?_ _
                          have HX : Hid (∃ j' : Nat, j' ≤ i ∧ Value.int .i64 ((j : Int) + 1) = .int .i64 (j' : Int) ∧ Value.bool (!(kj == ki)) = .bool (!decide (ki ∈ ks.take j')) ∧ Fr [] wz wv.drew) := Lib.hid ⟨j + 1, hj, rfl, by rw [HTK.out]; rfl, FD.out⟩
                          clear s0 s1 s2 s3
                          obtain ⟨bb, hbb⟩ : ∃ bb, bb = !(kj == ki) := ⟨_, rfl⟩
                          rw [← hbb] at HX ⊢
                          clear hbb
                          go_wp2_with fail
                          go_roundw
                          case rel => exact HX.out
                          case measure => simp [intOf]; omega
                      · obtain rfl : j = i := by omega
                        have hjI : ¬ (j : Int) < (j : Int) := by omega
                        have hcnt := ys_count (ks.take j) ki
                        rw [← take_one HKI.out] at hcnt
                        have hlen := (ys_all _ (ks.take j) rfl).few
                        have htl : (ks.take j).length ≤ 60 := by rw [List.length_take]; have := HL60.out; omega
                        have hwk : IntKind.i64.wrap ((((ysF (ks.take j)).length : Nat) : Int) + 1) = ((((ysF (ks.take j)).length + 1 : Nat)) : Int) := by rw [IntKind.wrap_i64]; omega
                        by_cases hm : ki ∈ ks.take j
                        · have hb : (!decide (ki ∈ ks.take j)) = false := by simp [hm]
                          rw [hb]
                          rw [if_pos hm] at hcnt
                          have HX : Hid (∃ i' : Nat, i' ≤ l.length ∧ Value.int .i64 ((j : Int) + 1) = .int .i64 (i' : Int) ∧ Value.int .i64 (((ysF (ks.take j)).length : Nat) : Int) = .int .i64 (((ysF (ks.take i')).length : Nat) : Int) ∧ Fr [] wz wv) := Lib.hid ⟨j + 1, hi, rfl, by rw [hcnt], FV.out⟩
                          clear hb hm hcnt hlen htl
                          go_wp2_with fail
                          go_roundw
                          case rel => exact HX.out
                          case measure => simp [intOf]; omega
                        · have hb : (!decide (ki ∈ ks.take j)) = true := by simp [hm]
                          rw [hb]
                          rw [if_neg hm] at hcnt
                          have HX : Hid (∃ i' : Nat, i' ≤ l.length ∧ Value.int .i64 ((j : Int) + 1) = .int .i64 (i' : Int) ∧ Value.int .i64 (((ysF (ks.take j)).length + 1 : Nat) : Int) = .int .i64 (((ysF (ks.take i')).length : Nat) : Int) ∧ Fr [] wz wv) := Lib.hid ⟨j + 1, hi, rfl, by rw [hcnt], FV.out⟩
                          clear hb hm hcnt hlen htl
                          go_wp2_with fail
                          go_roundw
                          case rel => exact HX.out
                          case measure => simp [intOf]; omega
                  · obtain rfl : i = l.length := by omega
                    have htk : ks.take l.length = ks := by rw [← HKL.out]; exact List.take_length
                    rw [htk, ← HEY.out]
                    clear htk
                    have HCK := Lib.hid (Check_X (ST2.out.stay (HFZ.out.trans FU.out (by simp))) HY8.out (by rw [two_y HYX.out]; have := HLY.out; omega))
                    go_wp2_with fail
                    refine HCK.out.mono ?_
                    rintro e wc ⟨rfl, hfc⟩
                    have HFC := Lib.hid ((HFZ.out.trans FU.out (by simp)).trans hfc (by simp))
                    have HHT := Lib.hid (Height_X (ST2.out.stay HFC.out) HX8.out (by rw [two_x]; simp))
                    clear hfc HCK
                    go_wp2_with fail
                    refine HHT.out.mono ?_
                    rintro e we ⟨m, rfl, hfe, hm, _⟩
                    obtain rfl : m = 0 := hm.2 (two_x _ _ _ _)
                    have HX := Lib.hid (HQ.out (.returned (.bool true)) we ⟨rfl, HF1.out.trans (ST2.out.px.frame.trans (HFC.out.trans hfe (by simp)) (by simp)) (by simp)⟩)
                    clear hfe hm HHT
                    go_wp2_with fail
                    exact HX.out
end Go.Proofs.YtpjbdpepofnleaaGreat
end
