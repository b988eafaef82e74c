/-
  The walk of DiskOrder: for every list of bytes, whatever is kept, and every place it answers true and leaves old memory alone.
-/
import Derived.Test.YtbgcbikgjedkkaaLawA
import Derived.Test.YtbgcbikgjedkkaaBits
import Derived.Test.YtbgcbikgjedkkaaTwoDisk
import Derived.Test.YtbgcbikgjedkkaaRow
namespace Go.Proofs.Ytbgcbikgjedkkaa
open Go.RowKit

/-! ### The plain law -/
def OM (k : Nat) (l : List UInt8) : DM := { S := (DM.new 4).S, P := l.map fun c => (k, pad [c]), limit := -1, dead := false, done := l.length }
theorem OM_write (k : Nat) (hk : k < 4) (l : List UInt8) (c : UInt8) : (OM k l).write k [c] = OM k (l ++ [c]) ∧ (OM k l).writeE k [c] = 0 := by
  have h : ¬ ((k : Int) < 0 ∨ ((OM k l).S.length : Int) ≤ k ∨ 64 < ([c] : List UInt8).length) := by
    have : (OM k l).S.length = 4 := rfl
    rw [this]; simp; omega
  constructor
  · unfold DM.write
    rw [if_neg (by simp [OM]), if_neg h, if_neg (by simp [OM])]
    simp [OM, DM.spent]
  · unfold DM.writeE
    rw [if_neg (by simp [OM]), if_neg h, if_neg (by simp [OM])]
theorem OM_readE (k : Nat) (hk : k < 4) (l : List UInt8) : (OM k l).readE k = 0 := by
  have h : ¬ ((k : Int) < 0 ∨ ((OM k l).S.length : Int) ≤ k) := by
    have : (OM k l).S.length = 4 := rfl
    rw [this]; omega
  unfold DM.readE
  rw [if_neg (by simp [OM]), if_neg h]
theorem OM_read (k : Nat) (hk : k < 4) (l : List UInt8) (c : UInt8) : (OM k (l ++ [c])).read k = pad [c] := by
  rw [DM.read, if_pos (OM_readE k hk _)]
  simp [DM.look, lookAll, OM, List.foldl_append]

/-- The last one that is kept, of the first i. -/
def keptB (l : List UInt8) (K : List Bool) : Nat → UInt8
  | 0 => 0
  | i + 1 => if K[i]? = some true then l.getD i 0 else keptB l K i
def lastB (l : List UInt8) : Nat → UInt8
  | 0 => 0
  | i + 1 => l.getD i 0
theorem lay_head (k : Nat) (hk : k < 4) (S : List (List UInt8)) (hS : S.length = 4) (p : List UInt8) : ((S.set k p).getD k []) = p := by
  rw [List.getD_eq_getElem?_getD, List.getElem?_set_self (by omega)]; rfl
theorem kept_head (k : Nat) (hk : k < 4) (l : List UInt8) (K : List Bool) : ∀ i, i ≤ l.length → ((layAll (DM.new 4).S (keptOf ((OM k l).P.take i) K)).getD k [])[0]? = some (keptB l K i)
  | 0, _ => by
    have : ∀ k, k < 4 → (((DM.new 4).S).getD k [])[0]? = some 0 := by decide
    have e : keptOf ((OM k l).P.take 0) K = [] := by simp [keptOf]
    rw [e]
    exact this k hk
  | i + 1, hi => by
    have hp : (OM k l).P[i]? = some (k, pad [l.getD i 0]) := by
      simp [OM, List.getElem?_eq_getElem (show i < l.length by omega)]
    rw [kept_step _ _ _ _ hp]
    have ih := kept_head k hk l K i (by omega)
    simp only [keptB]
    split
    · rename_i h
      have e : layAll (DM.new 4).S (keptOf ((OM k l).P.take i) K ++ [(k, pad [l.getD i 0])]) = (layAll (DM.new 4).S (keptOf ((OM k l).P.take i) K)).set k (pad [l.getD i 0]) := by simp [layAll, List.foldl_append]
      rw [e, lay_head k hk _ (layAll_len (keptOf ((OM k l).P.take i) K) (DM.new 4).S)]
      rfl
    · simpa using ih
theorem last_head (k : Nat) (hk : k < 4) (l : List UInt8) : ((layAll (DM.new 4).S (OM k l).P).getD k [])[0]? = some (lastB l l.length) := by
  have h : ∀ i, i ≤ l.length → ((layAll (DM.new 4).S ((OM k l).P.take i)).getD k [])[0]? = some (lastB l i) := by
    intro i
    cases i with
    | zero =>
      intro _
      have : ∀ k, k < 4 → (((DM.new 4).S).getD k [])[0]? = some 0 := by decide
      exact this k hk
    | succ i =>
      intro hi
      have hp : (OM k l).P[i]? = some (k, pad [l.getD i 0]) := by
        simp [OM, List.getElem?_eq_getElem (show i < l.length by omega)]
      rw [lay_step _ _ _ _ hp, lay_head k hk _ (by rw [layAll_len]; rfl)]
      rfl
  have := h l.length (Nat.le_refl _)
  rwa [List.take_of_length_le (by simp [OM])] at this
theorem OM_sync (k : Nat) (l : List UInt8) : (OM k l).syncE = 0 ∧ (OM k l).sync = { OM k [] with S := layAll (DM.new 4).S (OM k l).P, done := l.length + 1 } := by
  constructor
  · unfold DM.syncE; rw [if_neg (by simp [OM]), if_neg (by simp [OM])]
  · unfold DM.sync; rw [if_neg (by simp [OM]), if_neg (by simp [OM])]
    simp [OM, DM.spent]

theorem fin_d (k : Nat) (hk : k < 4) (l : List UInt8) : (({ OM k [] with S := layAll (DM.new 4).S (OM k l).P, done := l.length + 1 } : DM).reopen []).readE k = 0 ∧
    ((({ OM k [] with S := layAll (DM.new 4).S (OM k l).P, done := l.length + 1 } : DM).reopen []).read k)[0]? = some (lastB l l.length) := by
  have hl : ((({ OM k [] with S := layAll (DM.new 4).S (OM k l).P, done := l.length + 1 } : DM).reopen []).S.length : Int) = 4 := by
    simp only [DM.reopen, layAll_len]; rfl
  have hE : (({ OM k [] with S := layAll (DM.new 4).S (OM k l).P, done := l.length + 1 } : DM).reopen []).readE k = 0 := by
    unfold DM.readE
    rw [if_neg (by simp [DM.reopen]), if_neg (by rw [hl]; omega)]
  refine ⟨hE, ?_⟩
  rw [DM.read, if_pos hE]
  have := last_head k hk l
  simpa [DM.look, lookAll, DM.reopen, keptOf, layAll, OM] using this
theorem fin_x (k : Nat) (hk : k < 4) (l : List UInt8) (K : List Bool) : ((OM k l).reopen K).readE k = 0 ∧ (((OM k l).reopen K).read k)[0]? = some (keptB l K l.length) := by
  have hl : (((OM k l).reopen K).S.length : Int) = 4 := by
    simp only [DM.reopen, layAll_len]; rfl
  have hE : ((OM k l).reopen K).readE k = 0 := by
    unfold DM.readE
    rw [if_neg (by simp [DM.reopen]), if_neg (by rw [hl]; omega)]
  refine ⟨hE, ?_⟩
  rw [DM.read, if_pos hE]
  have := kept_head k hk l K l.length (Nat.le_refl _)
  rw [List.take_of_length_le (by simp [OM])] at this
  exact this
theorem cell_head {w : World} {g : Nat} {b : List UInt8} {c : UInt8} {t : TypeId} (h : Blk w g t (bcells b)) (hc : b[0]? = some c) : w.cell? ⟨g, 0, none⟩ = some (.int .u8 (c.toNat : Int)) :=
  h.at_ (by rw [bcells_at, hc]; rfl)

def OrdRel (W : World) (d x k : Nat) (l : List UInt8) (K : List Bool) (wt kp i : Value) (wr : World) : Prop :=
  ∃ (j : Nat) (fd fx : List Nat), j ≤ l.length ∧ i = .int .i64 j ∧ wt = .int .u8 ((lastB l j).toNat : Int) ∧ kp = .int .u8 ((keptB l K j).toNat : Int) ∧
    Two (tD d (OM k (l.take j))) (tD x (OM k (l.take j))) W wr fd fx

set_option maxRecDepth 100000 in
set_option maxHeartbeats 1000000 in
theorem order_walk (W : World) (lv kv : Value) (l : List UInt8) (K : List Bool) (n : Int) (hl : ArgBytes W lv l) (hK : ArgBools W kv K) :
    Calls Try.prog 4 #[lv, kv, .int .i64 n] W fun e w' => e = .returned (.bool true) ∧ Fr [] W w' := by
  obtain ⟨k, hk, hkn⟩ := and_mask n 3 (by omega)
  have hkn' : bits .and .i64 n 3 = (k : Int) := hkn
  clear hkn
  have hlm := hl.1; have hKm := hK.1
  unfold maxLen at hlm hKm
  obtain ⟨_, lg, ⟨lA, lc, lo, rfl, hlc, hlcell⟩, hlg⟩ := id hl
  obtain ⟨_, kg, ⟨kA, kc, ko, rfl, hkc, hkcell⟩, hkg⟩ := id hK
  have hlc2 : ∀ (j : Nat) (c : UInt8), l[j]? = some c → lA = some ⟨lg, lo, none⟩ ∧ ∀ w, Fr [] W w → w.cell? ⟨lg, lo + j, none⟩ = some (.int .u8 (c.toNat : Int)) := by
    intro j c hj
    have h0 : 0 < l.length := by have := (List.getElem?_eq_some_iff.1 hj).1; omega
    obtain ⟨h1, h2⟩ := hlcell h0
    refine ⟨h1, fun w hf => ?_⟩
    have h3 := h2 j (B8 c) (by rw [bcells_at, hj]; rfl)
    rw [hf.cell (World.block_lt_of_cell? W _ h3) (by simp)]
    exact h3
  have hkc2 : ∀ (j : Nat) (b : Bool), K[j]? = some b → kA = some ⟨kg, ko, none⟩ ∧ ∀ w, Fr [] W w → w.cell? ⟨kg, ko + j, none⟩ = some (.bool b) := by
    intro j b hj
    have h0 : 0 < K.length := by have := (List.getElem?_eq_some_iff.1 hj).1; omega
    obtain ⟨h1, h2⟩ := hkcell h0
    refine ⟨h1, fun w hf => ?_⟩
    have h3 := h2 j b hj
    rw [hf.cell (World.block_lt_of_cell? W _ h3) (by simp)]
    exact h3
  have HL := Lib.hid hl; have HK := Lib.hid hK; have HLC := Lib.hid hlc2; have HKC := Lib.hid hkc2
  clear hl hK hlcell hkcell hlg hkg hlc2 hkc2
  go_enter Try.func4, Try.ntmps4
  go_wp2_with fail
  refine (awake06 W).mono ?_
  rintro e w1 ⟨rfl, hf1⟩
  have HF1 := Lib.hid hf1; clear hf1
  by_cases hbig : 50 < l.length ∨ 100 < K.length
  · have hdec : (decide (50 < (l.length : Int)) || decide (100 < (K.length : Int))) = true := by
      rw [Bool.or_eq_true, decide_eq_true_eq, decide_eq_true_eq]; omega
    by_cases hb1 : 50 < l.length
    · clear hbig
      go_wp2_with fail
      go_ret
      exact ⟨rfl, HF1.out⟩
    · have hb2 : 100 < K.length := by omega
      clear hbig
      go_wp2_with fail
      go_ret
      exact ⟨rfl, HF1.out⟩
  · have hl50 : l.length ≤ 50 := by omega
    have hK100 : K.length ≤ 100 := by omega
    clear hbig
    go_wp2_with fail
    refine (new_ok 4 w1 (by omega) (by omega)).mono ?_
    rintro e w2 ⟨d, fd, rfl, hd2, hf2, hn2⟩
    have HD2 := Lib.hid hd2; have HF2 := Lib.hid hf2; have HN2 := Lib.hid hn2; clear hd2 hf2 hn2
    go_wp2_with fail
    refine (new_ok 4 w2 (by omega) (by omega)).mono ?_
    rintro e w3 ⟨x, fx, rfl, hd3, hf3, hn3⟩
    have hT : Two (tD d (OM k (l.take 0))) (tD x (OM k (l.take 0))) W w3 fd fx :=
      ⟨HD2.out.fr hf3 (by simp), hd3, fun q hq hm => by have h1 := HD2.out.lt q hq; have h2 := hn3 q hm; omega, fun q hq => Nat.le_trans HF1.out.size (HN2.out q hq), fun q hq => Nat.le_trans (HF1.out.trans HF2.out (by simp)).size (hn3 q hq), (HF1.out.trans HF2.out (by simp)).trans hf3 (by simp)⟩
    have HT := Lib.hid hT; clear hT hd3 hf3 hn3 HD2 HF2 HN2 HF1
    go_wp2_with fail
    go_loopw [13, 14, 15] (OrdRel W d x k l K) (fun _ _ i _ => l.length - (intOf i).toNat)
    case atStart => exact ⟨0, fd, fx, Nat.zero_le _, rfl, rfl, rfl, HT.out⟩
    case round =>
      obtain ⟨j, fd', fx', hj, rfl, rfl, rfl, hT⟩ := hrel
      have HTR := Lib.hid hT; clear hT HT
      by_cases hjl : j < l.length
      · obtain ⟨c, hc⟩ : ∃ c, l[j]? = some c := ⟨_, List.getElem?_eq_getElem hjl⟩
        obtain ⟨hla, hcell⟩ := HLC.out j c hc
        subst hla
        have htk : l.take (j + 1) = l.take j ++ [c] := by
          rw [List.take_succ_eq_append_getElem hjl]
          rw [List.getElem?_eq_getElem hjl] at hc
          simp only [Option.some.injEq] at hc
          rw [hc]
        have hgd : l.getD j 0 = c := by rw [List.getD_eq_getElem?_getD, hc]; rfl
        have hom := OM_write k (by omega) (l.take j) c
        have hdn : (OM k (l.take j)).done < 1099511627776 := by show (l.take j).length < _; rw [List.length_take]; omega
        rw [← htk] at hom
        have HC := Lib.hid hc; have HCELL := Lib.hid hcell; have HTK := Lib.hid htk; have HGD := Lib.hid hgd; have HOM := Lib.hid hom; have HDN := Lib.hid hdn
        clear hc hcell htk hgd hom hdn
        have c1 := HCELL.out wr HTR.out.f
        go_wp2_with fail
        have hTa : ∀ o, Two (tD d (OM k (l.take j))) (tD x (OM k (l.take j))) W (wr.alloc o) fd' fx' := fun o => HTR.out.fr (locDisk _ _) (locDisk _ _) ((Fr.refl [] wr).alloc o)
        have HTA := Lib.hid hTa; clear hTa
        refine (two_write (HTA.out _) (locDisk _ _) k _ [c] wr.heap.size (bytes_mark (w := wr) (C := [c]) (fz := (0, 0)) _ rfl) (by have := HTR.out.d_lt; omega) HDN.out).mono ?_
        rintro e w4 ⟨rfl, fd4, hT4⟩
        rw [HOM.out.1] at hT4
        rw [HOM.out.2]
        have c4 := HCELL.out w4 hT4.f
        have HT4 := Lib.hid hT4; clear hT4 c1
        go_wp2_with fail
        have hTa : ∀ o, Two (tD x (OM k (l.take j))) (tD d (OM k (l.take (j + 1)))) W (w4.alloc o) fx' fd4 := fun o => (HT4.out.fr (locDisk _ _) (locDisk _ _) ((Fr.refl [] w4).alloc o)).swap
        have HTB := Lib.hid hTa; clear hTa
        refine (two_write (HTB.out _) (locDisk _ _) k _ [c] w4.heap.size (bytes_mark (w := w4) (C := [c]) (fz := (0, 0)) _ rfl) (by have := HT4.out.swap.d_lt; omega) HDN.out).mono ?_
        rintro e w5 ⟨rfl, fx5, hT5⟩
        rw [HOM.out.1] at hT5
        rw [HOM.out.2]
        have HT5 := Lib.hid hT5.swap; clear hT5 c4 HTA HTB
        go_wp2_with fail
        refine (read_at HT5.out.a k).mono ?_
        rintro e w6 ⟨v6, g6, rfl, hb6, hg6, hf6, hv6, _⟩
        have hre := OM_readE k (by omega) (l.take (j + 1))
        rw [hre]
        obtain ⟨rfl, hb6'⟩ := hv6 hre
        rw [HTK.out, OM_read k (by omega)] at hb6'
        have c6 : w6.cell? ⟨g6, 0, none⟩ = some (.int .u8 (c.toNat : Int)) := hb6'.at_ rfl
        have hT6 := HT5.out.fr (locDisk _ _) (locDisk _ _) hf6
        have cl := HCELL.out w6 hT6.f
        have HT6 := Lib.hid hT6; clear hT6 hb6 hb6' hg6 hf6 hv6 hre
        go_wp2_with fail
        go_quiet (fail)
        have hTq := HT6.out.fr (locDisk _ _) (locDisk _ _) ((Fr.refl [] w6).drewN nq)
        have HTQ := Lib.hid hTq; clear hTq
        have hlast : lastB l (j + 1) = c := HGD.out
        have HLAST := Lib.hid hlast; clear hlast
        by_cases hkj : j < K.length
        · obtain ⟨b, hb⟩ : ∃ b, K[j]? = some b := ⟨_, List.getElem?_eq_getElem hkj⟩
          obtain ⟨hka, hkcell⟩ := HKC.out j b hb
          subst hka
          have ck := hkcell w6 HT6.out.f
          have hkept : keptB l K (j + 1) = if b = true then c else keptB l K j := by
            rw [keptB, hb, HGD.out]; simp
          have HKEPT := Lib.hid hkept
          clear hkept hb hkcell
          cases b with
          | true =>
            go_wp2_with fail
            go_roundw
            case rel => exact ⟨j + 1, _, _, by omega, by go_num, by rw [HLAST.out], by rw [HKEPT.out]; rfl, HTQ.out⟩
            case measure => simp [intOf]; omega
          | false =>
            go_wp2_with fail
            go_roundw
            case rel => exact ⟨j + 1, _, _, by omega, by go_num, by rw [HLAST.out], by rw [HKEPT.out]; rfl, HTQ.out⟩
            case measure => simp [intOf]; omega
        · have hkept : keptB l K (j + 1) = keptB l K j := by
            rw [keptB, List.getElem?_eq_none (by omega)]; simp
          have HKEPT := Lib.hid hkept
          clear hkept
          go_wp2_with fail
          go_roundw
          case rel => exact ⟨j + 1, _, _, by omega, by go_num, by rw [HLAST.out], by rw [HKEPT.out], HTQ.out⟩
          case measure => simp [intOf]; omega
      · have hjl' : j = l.length := by omega
        subst hjl'
        have htl : l.take l.length = l := List.take_of_length_le (Nat.le_refl _)
        have hT := HTR.out
        rw [htl] at hT
        have HT := Lib.hid hT; clear hT HTR htl
        go_wp2_with fail
        refine (two_sync HT.out (locDisk _ _) (by show l.length < _; omega)).mono ?_
        rintro e w2 ⟨rfl, fd2, hT2⟩
        rw [(OM_sync k l).1]
        rw [(OM_sync k l).2] at hT2
        have HT2 := Lib.hid hT2; clear hT2
        go_wp2_with fail
        refine (two_reopen HT2.out (locDisk _ _) _ [] w2.heap.size (BoolsAt.nil _ _) (.inr (Nat.le_refl _)) (by decide)).mono ?_
        rintro e w3 ⟨rfl, fd3, hT3⟩
        have HT3 := Lib.hid hT3; clear hT3
        go_wp2_with fail
        obtain ⟨gk, hgk, hgk2⟩ := HK.out.here HT3.out.f
        have HGK := Lib.hid hgk; clear hgk
        refine (two_reopen HT3.out.swap (locDisk _ _) _ K gk HGK.out hgk2 (by omega)).mono ?_
        rintro e w4 ⟨rfl, fx4, hT4⟩
        have HT4 := Lib.hid hT4.swap; clear hT4
        go_wp2_with fail
        have hfd := fin_d k (by omega) l
        have hfx := fin_x k (by omega) l K
        have HFD := Lib.hid hfd; have HFX := Lib.hid hfx; clear hfd hfx
        refine (read_at HT4.out.a k).mono ?_
        rintro e w5 ⟨v5, g5, rfl, hb5, hg5, hf5, hv5, _⟩
        obtain ⟨rfl, hb5'⟩ := hv5 HFD.out.1
        rw [HFD.out.1]
        have hT5 := HT4.out.fr (locDisk _ _) (locDisk _ _) hf5
        have HT5 := Lib.hid hT5; have HB5 := Lib.hid hb5'; clear hT5 hb5 hb5' hg5 hf5 hv5
        go_wp2_with fail
        refine (read_at HT5.out.b k).mono ?_
        rintro e w6 ⟨v6, g6, rfl, hb6, hg6, hf6, hv6, _⟩
        obtain ⟨rfl, hb6'⟩ := hv6 HFX.out.1
        rw [HFX.out.1]
        have hT6 := HT5.out.fr (locDisk _ _) (locDisk _ _) hf6
        have c5 := cell_head (HB5.out.fr hf6 (by simp)) HFD.out.2
        have c6 := cell_head hb6' HFX.out.2
        have HT6 := Lib.hid hT6; clear hT6 hb6 hb6' hg6 hf6 hv6
        go_wp2_with (go_at_call 21; refine (writes_at HT6.out.a).mono ?_; rintro e w7 ⟨rfl, rfl⟩)
        go_ret
        refine ⟨?_, HT6.out.f⟩
        show Ending.returned (.bool (((l.length + 1 : Nat) : Int) == (l.length : Int) + 1)) = _
        congr 2
        rw [beq_iff_eq]
        omega

end Go.Proofs.Ytbgcbikgjedkkaa
