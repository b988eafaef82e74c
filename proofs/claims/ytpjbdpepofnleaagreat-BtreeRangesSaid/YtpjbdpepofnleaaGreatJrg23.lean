/-
  Joined by join.py: Qx
-/
import Derived.Test.YtpjbdpepofnleaaGreatJrg22
section
namespace Go.Proofs.YtpjbdpepofnleaaGreat
open Go.RowKit Go.ChangeMaps Go.MapKept Go.Maps Go.Sort Go.Shelf
theorem insA_len {α : Type} (x : Nat × α) : ∀ m : List (Nat × α), (insA x m).length = m.length + 1
  | [] => rfl
  | y :: m => by
    unfold insA
    split
    · rfl
    · rw [List.length_cons, insA_len x m, List.length_cons]
theorem putA_len {α : Type} (m : List (Nat × α)) (k : Nat) (b : α) : (putA m k b).length ≤ m.length + 1 := by
  unfold putA
  rw [insA_len]
  have := List.length_filter_le (fun p : Nat × α => !decide (p.1 = k)) m
  omega
def CLeft (c : CD) (h : Nat) (n : Nd) (lo hi : Option Ky) (P P' : List Nat) (m : List (Nat × Value)) (i : Nat) (m' : List (Nat × Value)) : Prop :=
  (∀ q, q ∉ P → getA m q = none → getA m' q = none) ∧
  ((i ≤ n.l.length ∧ ∃ PR, KidsB c.N h n i lo hi PR ∧ PR.Nodup ∧ (∀ p ∈ PR, getA m' p = none ∧ p ∈ P') ∧ m'.length + PR.length ≤ m.length + P.length) ∨ (i = n.l.length + 1 ∧ m'.length ≤ m.length + P.length))
def CGoal (wS : World) (g bc bn bs bk bm : Nat) (D : Nat → Prop) (c : CD) (K h : Nat) : Prop := ∀ (k deep : Nat) (lo hi : Option Ky) (E : En) (P : List Nat) (m : List (Nat × Value)) (kd : Nat) (fv tv : Value) (w : World), deep + h = K → 1 ≤ deep → K ≤ 40 →
  Sub c.N 1 h k lo hi E P → P.Nodup → (∀ p ∈ P, getA m p = none) → m.length + P.length ≤ 100000 → Cst wS g bc bn bs bk bm D c m kd w → FromK D w fv lo → UpK D w tv hi → (kd = 0 ∨ kd = K) →
  Calls Tryz.prog 43 #[.pointer (some ⟨bk, 0, none⟩), .int .i64 (k : Int), .int .i64 (deep : Int), fv, tv] w (CEnd wS g bc bn bs bk bm D c K m w P)
section
variable {w0 wS : World} {dk g bc bn bs bk bm K : Nat} {s : PS} {X D : Nat → Prop} {c : CD}
set_option maxRecDepth 100000 in
set_option maxHeartbeats 16000000 in
theorem check_step (hp : PgC w0 wS dk g s X c) (h : Nat) (ih : ∀ h' < h, CGoal wS g bc bn bs bk bm D c K h') : CGoal wS g bc bn bs bk bm D c K h := by
  intro k deep lo hi E P m kd fv tv w hdk hd1 hK hs hnd hmet hml hC hfr hto hkd
  obtain ⟨n, P', hN, hok, hsz, hm1, hPP, hnf⟩ := hs
  have hfew := items_few hsz
  obtain ⟨hkr, hin⟩ := nf_keys hnf
  have hkn := (hC.ch.wf.N_ok hN).1
  have hn4 := hC.ch.wf.n
  have hd40 : ¬ (40 : Int) < ((deep : Nat) : Int) := by omega
  have hl0 : ¬ ((n.l.length : Nat) : Int) = 0 := by omega
  have hl0n : ¬ n.l.length = 0 := by omega
  have hl0b : (((n.l.length : Nat) : Int) == 0) = false := by simpa using hl0
  have hd40n : ¬ 40 < deep := by omega
  have hkb : k ≤ 9223372036854775807 := by omega
  have hmk : getA m k = none := hmet k (by rw [hPP]; exact List.mem_cons_self ..)
  have c0 := hC.blk.at_ (i := 0) rfl
  have HNC := Lib.hid (node_ch hp hC.ch hN hC.top)
  have C1 := Lib.hid hC; have HN := Lib.hid hN; have HOK := Lib.hid hok; have HFEW := Lib.hid hfew; have HDK := Lib.hid hdk; have HD1 := Lib.hid hd1; have HK := Lib.hid hK; have HPP := Lib.hid hPP; have HNF := Lib.hid hnf; have HND := Lib.hid hnd; have HMET := Lib.hid hmet; have HML := Lib.hid hml; have HFR := Lib.hid hfr; have HTO := Lib.hid hto; have HKD := Lib.hid hkd; have HKR := Lib.hid hkr; have HIN := Lib.hid hin; have HMK := Lib.hid hmk; have HM1 := Lib.hid hm1; have HKB := Lib.hid hkb; have HPC := Lib.hid hp
  clear hN hok hsz hm1 hPP hnf hfew hkr hin hkn hn4 hmk hC hdk hd1 hK hnd hmet hml hfr hto hkd
  refine calls_post fun R HQ => ?_
  go_enter Tryz.func43, Tryz.ntmps43
  go_wp2_with fail
  refine HNC.out.mono ?_
  rintro e w2 ⟨nv, rfl, hnv, hf2⟩
  obtain ⟨A, ca, cs0, rfl, _⟩ := hnv.open_
  have C2 := Lib.hid (C1.out.quiet hf2); have HNV := Lib.hid (hnv.low (Nat.zero_le _)); have HF2 := Lib.hid hf2
  clear hnv hf2 HNC c0
  go_wp2_with (first
    | (with_reducible refine wpList_alloc_z rfl 88 rfl (.agg #[.int .i64 0, .int .i64 0, .slice none 0 0]) znd.toArray zero_nd rfl ?_)
    | (refine wpList_store_z (W := w2) rfl 88 (.tmp 11) (.tmp 25) rfl [.int .i64 (kindOf n), .int .i64 (n.first : Int), .slice A n.l.length ca] rfl rfl rfl size_nd rfl three_cells ?_))
  intro w3 hb3 hf3 hz3
  obtain ⟨p11, hp11⟩ : ∃ p11, p11 = w2.heap.size := ⟨_, rfl⟩
  rw [← hp11] at hb3 ⊢
  have HP11 : Hid (p11 ≠ bk ∧ p11 ≠ bm) := Lib.hid ⟨by have := C2.out.blk.lt; omega, by have := C2.out.met.lt; omega⟩
  have C3 := Lib.hid (C2.out.quiet hf3); have HNV3 := Lib.hid (HNV.out.fr hf3 (by simp)); have HF3 := Lib.hid (HF2.out.trans hf3 (by simp)); have B3 := Lib.hid hb3
  clear hf3 hb3 hz3 hp11 C2 HNV HF2
  have b1 := C3.out.blk.at_ (i := 1) rfl
  have d2 := B3.out.at_ (i := 2) rfl
  have hlk := C3.out.met.look Tryz.underlying106 (zero_bool w3) (k := k) hkb
  rw [HMK.out] at hlk
  simp only [Option.getD_none] at hlk
  obtain ⟨w4, hup, hm4, hf4, hz4⟩ := C3.out.met.store Tryz.underlying106 (k := k) hkb (by have := HML.out; omega) (.bool true)
  have C4 := Lib.hid (C3.out.to (hf4.mono (by simp)) (C3.out.blk.fr hf4 (by have := C3.out.hb.1; simp; exact this)) hm4)
  have HF4 : Hid (Fr [bk, bm] w w4) := Lib.hid ((HF3.out.mono (by simp)).trans hf4 fun q hq => .inl (by simp at hq ⊢; exact .inr hq))
  have HNV4 := Lib.hid (HNV3.out.fr (hf4.mono (T := [bk, bm]) (by simp)) C3.out.off)
  have B4 := Lib.hid (B3.out.fr hf4 (by simpa using HP11.out.2))
  have d2' := B4.out.at_ (i := 2) rfl
  clear hm4 hf4 hz4
  go_wp2_with fail
  clear b1 d2 hlk hup C3 HNV3 HF3 B3
  obtain ⟨A2, ca2, cs, hv2, hca2, hown, hits, hcell⟩ := HNV4.out.parts
  obtain ⟨rfl, rfl⟩ : A = A2 ∧ ca = ca2 := by injection hv2 with h; simp at h; exact h
  obtain ⟨gr, rfl, hcg⟩ := hcell (by have := HM1.out; omega)
  have HITS := Lib.hid hits; have HCG := Lib.hid hcg
  clear hv2 hca2 hown hits hcell hcg
  go_loopw [55] (fun v wr => ∃ i : Nat, i ≤ n.l.length ∧ v = .int .i64 (i : Int) ∧ Fr [] w4 wr) (fun v _ => n.l.length - (intOf v).toNat)
  case atStart => exact ⟨0, Nat.zero_le _, rfl, Fr.refl _ _⟩
  case round =>
    obtain ⟨i, hile, rfl, hfr⟩ := hrel
    have HFW := Lib.hid hfr
    clear hfr d2'
    by_cases hlt : i < n.l.length
    · obtain ⟨x, hx⟩ : ∃ x, n.l[i]? = some x := ⟨_, List.getElem?_eq_getElem hlt⟩
      have hxm := List.mem_of_getElem? hx
      obtain ⟨kv, vv, av, e0, e1, e2, hic⟩ := HITS.out.at_ hx
      have i0 := fr_keep HFW.out (HCG.out _ _ e0)
      have i1 := fr_keep HFW.out (HCG.out _ _ e1)
      have i2 := fr_keep HFW.out (HCG.out _ _ e2)
      have hic' := hic.fr HFW.out (by simp)
      have HON := Lib.hid hic'.one
      obtain ⟨⟨gk, hgk, _⟩, ⟨gv, hgv, _⟩, hav⟩ := hic'
      have HBK := Lib.hid hgk
      obtain ⟨Ak, ck, _, rfl, _, _⟩ := hgk
      obtain ⟨Aw, cw, _, rfl, _, _⟩ := hgv
      subst hav
      have HXIN := Lib.hid (HIN.out x hxm)
      have HXX := Lib.hid hx
      have d2 := (B4.out.fr HFW.out (by simp)).at_ (i := 2) rfl
      have hw1 : IntKind.i64.wrap ((i : Int) + 1) = (i : Int) + 1 := by have := HFEW.out; rw [IntKind.wrap_i64]; omega
      clear hxm e0 e1 e2 hic hx
      go_wp2_with (first
        | (with_reducible refine wpList_alloc_z rfl 77 rfl (.agg #[.slice none 0 0, .slice none 0 0, .int .i64 0]) zit.toArray zero_it rfl ?_)
        | (refine wpList_store_z (W := wr) rfl 77 (.tmp 14) (.tmp 59) rfl [.slice Ak x.key.length ck, .slice Aw x.v.length cw, .int .i64 (x.at_ : Int)] rfl rfl rfl size_it rfl HON.out ?_))
      intro w5 hb5 hf5 hz5
      obtain ⟨p14, hp14⟩ : ∃ p14, p14 = wr.heap.size := ⟨_, rfl⟩
      rw [← hp14] at hb5 ⊢
      have HF5 := Lib.hid (HFW.out.trans hf5 (by simp))
      have HBK5 := Lib.hid ((HBK.out.fr hf5 (by simp)).fr ((Fr.refl [] w5).drew) (by simp))
      have k0 := (hb5.fr ((Fr.refl [] w5).drew) (by simp)).at_ (i := 0) rfl
      have d2 := (B4.out.fr (HF5.out.drew) (by simp)).at_ (i := 2) rfl
      obtain ⟨qf, hqf, _⟩ := (HFR.out.fr HF4.out C1.out.off).fr HF5.out.drew (by simp)
      have HFQ := Lib.hid hqf
      have hto5 := (HTO.out.fr HF4.out C1.out.off).fr HF5.out.drew (by simp)
      have hc1d : decide (Lib.compareBytes x.key (lo.getD []) < 0) = false := by
        refine decide_eq_false ?_
        cases hlo : lo with
        | none => exact fun h => absurd h (by have := cmp_cases x.key []; cases hkk : x.key <;> simp [Lib.compareBytes])
        | some a => exact HXIN.out.1 a hlo
      have HX6 : Hid (∃ j : Nat, j ≤ n.l.length ∧ Value.int .i64 ((i : Int) + 1) = .int .i64 (j : Int) ∧ Fr [] w4 w5.drew) := Lib.hid ⟨i + 1, hlt, rfl, HF5.out.drew⟩
      clear hb5 hf5 hz5 i0 i1 i2 hqf HBK hp14
      go_upto_region 8 with fail
      rcases Nat.eq_zero_or_pos i with hi0 | hip
      · subst hi0
        have k3 := True.intro
        cases hi with
        | none =>
          have htv : tv = .slice none 0 0 := hto5
          subst htv
          refine wp_region_K (fun W => W.cell? ⟨p14, 0, none⟩ = some (.slice Ak x.key.length ck) ∧ W.cell? ⟨p11, 2, none⟩ = some (.slice (some ⟨gr, 0, none⟩) n.l.length ca) ∧ True) [0, 1, 2, 3, 5, 6, 7, 8, 9, 10, 11, 12, 13, 14, 15, 16, 17, 18, 19, 20, 21, 22, 23, 24, 25, 26, 27, 28, 29, 30, 31, 32, 33, 34, 35, 36] (by kernel_rfl) ?_
          refine wpAnyK_take (i := 0) (some 60) ?vq1_0 rfl rfl (by kernel_rfl) (fun _ _ _ h => h) ⟨k0, d2, k3⟩ (.inl ⟨rfl, fun W hW => ?yq1_0⟩) ?_
          case yq1_0 => (obtain ⟨q0, q1, q2⟩ := hW; go_simp) <;> with_reducible rfl
          simp only [nrm]
          refine wpAnyK_take (i := 1) (some 61) ?vq1_1 rfl rfl (by kernel_rfl) (fun _ _ _ h => h) ⟨k0, d2, k3⟩ (.inl ⟨rfl, fun W hW => ?yq1_1⟩) ?_
          case yq1_1 => (obtain ⟨q0, q1, q2⟩ := hW; go_simp) <;> with_reducible rfl
          simp only [nrm]
          refine wpAnyK_take (i := 2) (some 62) ?vq1_2 rfl rfl (by kernel_rfl) (fun _ _ _ h => h) ⟨k0, d2, k3⟩ (.inl ⟨rfl, fun W hW => ?yq1_2⟩) ?_
          case yq1_2 => (obtain ⟨q0, q1, q2⟩ := hW; go_simp) <;> with_reducible rfl
          simp only [nrm]
          refine wpAnyK_take (i := 3) (some 63) ?vq1_3 rfl rfl (by kernel_rfl) (fun _ _ _ h => h) ⟨k0, d2, k3⟩ (.inl ⟨rfl, fun W hW => ?yq1_3⟩) ?_
          case yq1_3 => (obtain ⟨q0, q1, q2⟩ := hW; go_simp) <;> with_reducible rfl
          simp only [nrm]
          refine wpAnyK_step (j := 4) (some 64) rfl rfl (by kernel_rfl) rfl fun K hK => ?_
          refine wp_call_f (l := [.tmp 62, .tmp 63]) rfl [.slice Ak x.key.length ck, fv] rfl (enter_compare _) ((bytes_compare HBK5.out HFQ.out).mono ?_)
          rintro e w6 ⟨rfl, rfl⟩
          refine ⟨_, rfl, hK _ _ (fun _ => ⟨k0, d2, k3⟩) ?_⟩
          simp only [nrm]
          clear hK
          refine wpAnyK_take (i := 5) (some 65) ?vq1_5 rfl rfl (by kernel_rfl) (fun _ _ _ h => h) ⟨k0, d2, k3⟩ (.inl ⟨rfl, fun W hW => ?yq1_5⟩) ?_
          case yq1_5 => (obtain ⟨q0, q1, q2⟩ := hW; go_simp) <;> with_reducible rfl
          simp only [nrm]
          refine wpAnyK_take (i := 6) (some 66) ?vq1_6 rfl rfl (by kernel_rfl) (fun _ _ _ h => h) ⟨k0, d2, k3⟩ (.inl ⟨rfl, fun W hW => ?yq1_6⟩) ?_
          case yq1_6 => (obtain ⟨q0, q1, q2⟩ := hW; go_simp) <;> with_reducible rfl
          simp only [nrm]
          refine wpAnyK_take (i := 7) (some 67) ?vq1_7 rfl rfl (by kernel_rfl) (fun _ _ _ h => h) ⟨k0, d2, k3⟩ (.inl ⟨rfl, fun W hW => ?yq1_7⟩) ?_
          case yq1_7 => (obtain ⟨q0, q1, q2⟩ := hW; go_simp) <;> with_reducible rfl
          simp only [nrm]
          refine wpAnyK_take (i := 8) (some 68) (.bool false) rfl rfl (by kernel_rfl) (fun _ _ _ h => h) ⟨k0, d2, k3⟩ (.inl ⟨rfl, fun W' _ => by simp [execOp, Act.eval, Result.andThen, go_sem, Tryz.underlying23]⟩) ?_
          simp only [nrm]
          refine wpAnyK_take (i := 9) (some 69) ?vq1_9 rfl rfl (by kernel_rfl) (fun _ _ _ h => h) ⟨k0, d2, k3⟩ (.inl ⟨rfl, fun W hW => ?yq1_9⟩) ?_
          case yq1_9 => (obtain ⟨q0, q1, q2⟩ := hW; go_simp) <;> with_reducible rfl
          simp only [nrm]
          refine wpAnyK_take (i := 10) (some 70) (undef) rfl rfl (by kernel_rfl) (fun _ _ _ h => h) ⟨k0, d2, k3⟩ (.inr ⟨rfl, rfl⟩) ?_
          simp only [nrm]
          refine wpAnyK_take (i := 11) (some 71) (undef) rfl rfl (by kernel_rfl) (fun _ _ _ h => h) ⟨k0, d2, k3⟩ (.inr ⟨rfl, rfl⟩) ?_
          simp only [nrm]
          refine wpAnyK_take (i := 12) (some 72) (undef) rfl rfl (by kernel_rfl) (fun _ _ _ h => h) ⟨k0, d2, k3⟩ (.inr ⟨rfl, rfl⟩) ?_
          simp only [nrm]
          refine wpAnyK_take (i := 13) (some 73) (undef) rfl rfl (by kernel_rfl) (fun _ _ _ h => h) ⟨k0, d2, k3⟩ (.inr ⟨rfl, rfl⟩) ?_
          simp only [nrm]
          refine wpAnyK_take (i := 14) (some 74) (undef) rfl rfl (by kernel_rfl) (fun _ _ _ h => h) ⟨k0, d2, k3⟩ (.inr ⟨rfl, rfl⟩) ?_
          simp only [nrm]
          refine wpAnyK_take (i := 15) (some 75) (undef) rfl rfl (by kernel_rfl) (fun _ _ _ h => h) ⟨k0, d2, k3⟩ (.inr ⟨rfl, rfl⟩) ?_
          simp only [nrm]
          refine wpAnyK_take (i := 16) (some 76) ?vq1_16 rfl rfl (by kernel_rfl) (fun _ _ _ h => h) ⟨k0, d2, k3⟩ (.inl ⟨rfl, fun W hW => ?yq1_16⟩) ?_
          case yq1_16 => (obtain ⟨q0, q1, q2⟩ := hW; go_simp) <;> with_reducible rfl
          simp only [nrm]
          refine wpAnyK_take (i := 17) (some 77) ?vq1_17 rfl rfl (by kernel_rfl) (fun _ _ _ h => h) ⟨k0, d2, k3⟩ (.inl ⟨rfl, fun W hW => ?yq1_17⟩) ?_
          case yq1_17 => (obtain ⟨q0, q1, q2⟩ := hW; go_simp) <;> with_reducible rfl
          simp only [nrm]
          refine wpAnyK_take (i := 18) (some 78) ?vq1_18 rfl rfl (by kernel_rfl) (fun _ _ _ h => h) ⟨k0, d2, k3⟩ (.inl ⟨rfl, fun W hW => ?yq1_18⟩) ?_
          case yq1_18 => (obtain ⟨q0, q1, q2⟩ := hW; go_simp) <;> with_reducible rfl
          simp only [nrm]
          refine wpAnyK_take (i := 19) (some 79) ?vq1_19 rfl rfl (by kernel_rfl) (fun _ _ _ h => h) ⟨k0, d2, k3⟩ (.inl ⟨rfl, fun W hW => ?yq1_19⟩) ?_
          case yq1_19 => (obtain ⟨q0, q1, q2⟩ := hW; go_simp) <;> with_reducible rfl
          simp only [nrm]
          refine wpAnyK_take (i := 20) (some 80) (.bool false) rfl rfl (by kernel_rfl) (fun _ _ _ h => h) ⟨k0, d2, k3⟩ (.inl ⟨rfl, fun W' _ => by simp [execOp, Act.eval, go_sem]⟩) ?_
          simp only [nrm]
          refine wpAnyK_take (i := 21) (some 81) ?vq1_21 rfl rfl (by kernel_rfl) (fun _ _ _ h => h) ⟨k0, d2, k3⟩ (.inl ⟨rfl, fun W hW => ?yq1_21⟩) ?_
          case yq1_21 => (obtain ⟨q0, q1, q2⟩ := hW; go_simp) <;> with_reducible rfl
          simp only [nrm]
          refine wpAnyK_take (i := 22) (some 82) (undef) rfl rfl (by kernel_rfl) (fun _ _ _ h => h) ⟨k0, d2, k3⟩ (.inr ⟨rfl, rfl⟩) ?_
          simp only [nrm]
          refine wpAnyK_take (i := 23) (some 83) (undef) rfl rfl (by kernel_rfl) (fun _ _ _ h => h) ⟨k0, d2, k3⟩ (.inr ⟨rfl, rfl⟩) ?_
          simp only [nrm]
          refine wpAnyK_take (i := 24) (some 84) (undef) rfl rfl (by kernel_rfl) (fun _ _ _ h => h) ⟨k0, d2, k3⟩ (.inr ⟨rfl, rfl⟩) ?_
          simp only [nrm]
          refine wpAnyK_take (i := 25) (some 85) (undef) rfl rfl (by kernel_rfl) (fun _ _ _ h => h) ⟨k0, d2, k3⟩ (.inr ⟨rfl, rfl⟩) ?_
          simp only [nrm]
          refine wpAnyK_take (i := 26) (some 86) (undef) rfl rfl (by kernel_rfl) (fun _ _ _ h => h) ⟨k0, d2, k3⟩ (.inr ⟨rfl, rfl⟩) ?_
          simp only [nrm]
          refine wpAnyK_take (i := 27) (some 87) (undef) rfl rfl (by kernel_rfl) (fun _ _ _ h => h) ⟨k0, d2, k3⟩ (.inr ⟨rfl, rfl⟩) ?_
          simp only [nrm]
          refine wpAnyK_take (i := 28) (some 88) (undef) rfl rfl (by kernel_rfl) (fun _ _ _ h => h) ⟨k0, d2, k3⟩ (.inr ⟨rfl, rfl⟩) ?_
          simp only [nrm]
          refine wpAnyK_take (i := 29) (some 89) (undef) rfl rfl (by kernel_rfl) (fun _ _ _ h => h) ⟨k0, d2, k3⟩ (.inr ⟨rfl, rfl⟩) ?_
          simp only [nrm]
          refine wpAnyK_take (i := 30) (some 90) (undef) rfl rfl (by kernel_rfl) (fun _ _ _ h => h) ⟨k0, d2, k3⟩ (.inr ⟨rfl, rfl⟩) ?_
          simp only [nrm]
          refine wpAnyK_take (i := 31) (some 91) (undef) rfl rfl (by kernel_rfl) (fun _ _ _ h => h) ⟨k0, d2, k3⟩ (.inr ⟨rfl, rfl⟩) ?_
          simp only [nrm]
          refine wpAnyK_take (i := 32) (some 92) (undef) rfl rfl (by kernel_rfl) (fun _ _ _ h => h) ⟨k0, d2, k3⟩ (.inr ⟨rfl, rfl⟩) ?_
          simp only [nrm]
          refine wpAnyK_take (i := 33) (some 93) (undef) rfl rfl (by kernel_rfl) (fun _ _ _ h => h) ⟨k0, d2, k3⟩ (.inr ⟨rfl, rfl⟩) ?_
          simp only [nrm]
          refine wpAnyK_take (i := 34) (some 94) (undef) rfl rfl (by kernel_rfl) (fun _ _ _ h => h) ⟨k0, d2, k3⟩ (.inr ⟨rfl, rfl⟩) ?_
          simp only [nrm]
          refine wpAnyK_take (i := 35) (some 95) ?vq1_35 rfl rfl (by kernel_rfl) (fun _ _ _ h => h) ⟨k0, d2, k3⟩ (.inl ⟨rfl, fun W hW => ?yq1_35⟩) ?_
          case yq1_35 => (obtain ⟨q0, q1, q2⟩ := hW; go_simp) <;> with_reducible rfl
          simp only [nrm]
          refine wpAnyK_take (i := 36) (some 96) ?vq1_36 rfl rfl (by kernel_rfl) (fun _ _ _ h => h) ⟨k0, d2, k3⟩ (.inl ⟨rfl, fun W hW => ?yq1_36⟩) ?_
          case yq1_36 => (obtain ⟨q0, q1, q2⟩ := hW; go_simp) <;> with_reducible rfl
          simp only [nrm]
          refine wpAnyK_done (by kernel_rfl) ?_ _
          go_wp2_with fail
          go_roundw
          case rel => exact HX6.out
          case measure => simp [intOf]; omega
        | some b =>
          obtain ⟨ta, tm, tc, tq, htv, htb, _⟩ := hto5
          subst htv
          have HTB := Lib.hid htb
          have hkb' : Lib.compareBytes x.key b < 0 := HXIN.out.2 b rfl
          clear htb
          refine wp_region_K (fun W => W.cell? ⟨p14, 0, none⟩ = some (.slice Ak x.key.length ck) ∧ W.cell? ⟨p11, 2, none⟩ = some (.slice (some ⟨gr, 0, none⟩) n.l.length ca) ∧ True) [0, 1, 2, 3, 5, 6, 7, 8, 9, 10, 11, 12, 13, 15, 16, 17, 18, 19, 20, 21, 22, 23, 24, 25, 26, 27, 28, 29, 30, 31, 32, 33, 34, 35, 36] (by kernel_rfl) ?_
          refine wpAnyK_take (i := 0) (some 60) ?vq2_0 rfl rfl (by kernel_rfl) (fun _ _ _ h => h) ⟨k0, d2, k3⟩ (.inl ⟨rfl, fun W hW => ?yq2_0⟩) ?_
          case yq2_0 => (obtain ⟨q0, q1, q2⟩ := hW; go_simp) <;> with_reducible rfl
          simp only [nrm]
          refine wpAnyK_take (i := 1) (some 61) ?vq2_1 rfl rfl (by kernel_rfl) (fun _ _ _ h => h) ⟨k0, d2, k3⟩ (.inl ⟨rfl, fun W hW => ?yq2_1⟩) ?_
          case yq2_1 => (obtain ⟨q0, q1, q2⟩ := hW; go_simp) <;> with_reducible rfl
          simp only [nrm]
          refine wpAnyK_take (i := 2) (some 62) ?vq2_2 rfl rfl (by kernel_rfl) (fun _ _ _ h => h) ⟨k0, d2, k3⟩ (.inl ⟨rfl, fun W hW => ?yq2_2⟩) ?_
          case yq2_2 => (obtain ⟨q0, q1, q2⟩ := hW; go_simp) <;> with_reducible rfl
          simp only [nrm]
          refine wpAnyK_take (i := 3) (some 63) ?vq2_3 rfl rfl (by kernel_rfl) (fun _ _ _ h => h) ⟨k0, d2, k3⟩ (.inl ⟨rfl, fun W hW => ?yq2_3⟩) ?_
          case yq2_3 => (obtain ⟨q0, q1, q2⟩ := hW; go_simp) <;> with_reducible rfl
          simp only [nrm]
          refine wpAnyK_step (j := 4) (some 64) rfl rfl (by kernel_rfl) rfl fun K hK => ?_
          refine wp_call_f (l := [.tmp 62, .tmp 63]) rfl [.slice Ak x.key.length ck, fv] rfl (enter_compare _) ((bytes_compare HBK5.out HFQ.out).mono ?_)
          rintro e w6 ⟨rfl, rfl⟩
          refine ⟨_, rfl, hK _ _ (fun _ => ⟨k0, d2, k3⟩) ?_⟩
          simp only [nrm]
          clear hK
          refine wpAnyK_take (i := 5) (some 65) ?vq2_5 rfl rfl (by kernel_rfl) (fun _ _ _ h => h) ⟨k0, d2, k3⟩ (.inl ⟨rfl, fun W hW => ?yq2_5⟩) ?_
          case yq2_5 => (obtain ⟨q0, q1, q2⟩ := hW; go_simp) <;> with_reducible rfl
          simp only [nrm]
          refine wpAnyK_take (i := 6) (some 66) ?vq2_6 rfl rfl (by kernel_rfl) (fun _ _ _ h => h) ⟨k0, d2, k3⟩ (.inl ⟨rfl, fun W hW => ?yq2_6⟩) ?_
          case yq2_6 => (obtain ⟨q0, q1, q2⟩ := hW; go_simp) <;> with_reducible rfl
          simp only [nrm]
          refine wpAnyK_take (i := 7) (some 67) ?vq2_7 rfl rfl (by kernel_rfl) (fun _ _ _ h => h) ⟨k0, d2, k3⟩ (.inl ⟨rfl, fun W hW => ?yq2_7⟩) ?_
          case yq2_7 => (obtain ⟨q0, q1, q2⟩ := hW; go_simp) <;> with_reducible rfl
          simp only [nrm]
          refine wpAnyK_take (i := 8) (some 68) (.bool true) rfl rfl (by kernel_rfl) (fun _ _ _ h => h) ⟨k0, d2, k3⟩ (.inl ⟨rfl, fun W' _ => by simp [execOp, Act.eval, Result.andThen, go_sem, Tryz.underlying23]⟩) ?_
          simp only [nrm]
          refine wpAnyK_take (i := 9) (some 69) ?vq2_9 rfl rfl (by kernel_rfl) (fun _ _ _ h => h) ⟨k0, d2, k3⟩ (.inl ⟨rfl, fun W hW => ?yq2_9⟩) ?_
          case yq2_9 => (obtain ⟨q0, q1, q2⟩ := hW; go_simp) <;> with_reducible rfl
          simp only [nrm]
          refine wpAnyK_take (i := 10) (some 70) ?vq2_10 rfl rfl (by kernel_rfl) (fun _ _ _ h => h) ⟨k0, d2, k3⟩ (.inl ⟨rfl, fun W hW => ?yq2_10⟩) ?_
          case yq2_10 => (obtain ⟨q0, q1, q2⟩ := hW; go_simp) <;> with_reducible rfl
          simp only [nrm]
          refine wpAnyK_take (i := 11) (some 71) ?vq2_11 rfl rfl (by kernel_rfl) (fun _ _ _ h => h) ⟨k0, d2, k3⟩ (.inl ⟨rfl, fun W hW => ?yq2_11⟩) ?_
          case yq2_11 => (obtain ⟨q0, q1, q2⟩ := hW; go_simp) <;> with_reducible rfl
          simp only [nrm]
          refine wpAnyK_take (i := 12) (some 72) ?vq2_12 rfl rfl (by kernel_rfl) (fun _ _ _ h => h) ⟨k0, d2, k3⟩ (.inl ⟨rfl, fun W hW => ?yq2_12⟩) ?_
          case yq2_12 => (obtain ⟨q0, q1, q2⟩ := hW; go_simp) <;> with_reducible rfl
          simp only [nrm]
          refine wpAnyK_take (i := 13) (some 73) ?vq2_13 rfl rfl (by kernel_rfl) (fun _ _ _ h => h) ⟨k0, d2, k3⟩ (.inl ⟨rfl, fun W hW => ?yq2_13⟩) ?_
          case yq2_13 => (obtain ⟨q0, q1, q2⟩ := hW; go_simp) <;> with_reducible rfl
          simp only [nrm]
          refine wpAnyK_stepg (j := 14) (some 74) rfl rfl (by kernel_rfl) rfl fun K hK => ?_
          refine wp_call_f (l := [.tmp 72, .tmp 73]) rfl [.slice Ak x.key.length ck, .slice (some ta) tm tc] rfl (enter_compare _) ((bytes_compare HBK5.out HTB.out).mono ?_)
          rintro e w7 ⟨rfl, rfl⟩
          refine ⟨_, rfl, hK _ _ (fun _ => ⟨k0, d2, k3⟩) ?_⟩
          simp only [nrm]
          clear hK
          refine wpAnyK_take (i := 15) (some 75) (.bool false) rfl rfl (by kernel_rfl) (fun _ _ _ h => h) ⟨k0, d2, k3⟩ (.inl ⟨rfl, fun W' _ => by first | (simp [execOp, Act.eval, go_sem, hkb']; done) | (simp [execOp, Act.eval, Result.andThen, go_sem]; omega)⟩) ?_
          simp only [nrm]
          refine wpAnyK_take (i := 16) (some 76) ?vq2_16 rfl rfl (by kernel_rfl) (fun _ _ _ h => h) ⟨k0, d2, k3⟩ (.inl ⟨rfl, fun W hW => ?yq2_16⟩) ?_
          case yq2_16 => (obtain ⟨q0, q1, q2⟩ := hW; go_simp) <;> with_reducible rfl
          simp only [nrm]
          refine wpAnyK_take (i := 17) (some 77) ?vq2_17 rfl rfl (by kernel_rfl) (fun _ _ _ h => h) ⟨k0, d2, k3⟩ (.inl ⟨rfl, fun W hW => ?yq2_17⟩) ?_
          case yq2_17 => (obtain ⟨q0, q1, q2⟩ := hW; go_simp) <;> with_reducible rfl
          simp only [nrm]
          refine wpAnyK_take (i := 18) (some 78) ?vq2_18 rfl rfl (by kernel_rfl) (fun _ _ _ h => h) ⟨k0, d2, k3⟩ (.inl ⟨rfl, fun W hW => ?yq2_18⟩) ?_
          case yq2_18 => (obtain ⟨q0, q1, q2⟩ := hW; go_simp) <;> with_reducible rfl
          simp only [nrm]
          refine wpAnyK_take (i := 19) (some 79) ?vq2_19 rfl rfl (by kernel_rfl) (fun _ _ _ h => h) ⟨k0, d2, k3⟩ (.inl ⟨rfl, fun W hW => ?yq2_19⟩) ?_
          case yq2_19 => (obtain ⟨q0, q1, q2⟩ := hW; go_simp) <;> with_reducible rfl
          simp only [nrm]
          refine wpAnyK_take (i := 20) (some 80) (.bool false) rfl rfl (by kernel_rfl) (fun _ _ _ h => h) ⟨k0, d2, k3⟩ (.inl ⟨rfl, fun W' _ => by simp [execOp, Act.eval, go_sem]⟩) ?_
          simp only [nrm]
          refine wpAnyK_take (i := 21) (some 81) ?vq2_21 rfl rfl (by kernel_rfl) (fun _ _ _ h => h) ⟨k0, d2, k3⟩ (.inl ⟨rfl, fun W hW => ?yq2_21⟩) ?_
          case yq2_21 => (obtain ⟨q0, q1, q2⟩ := hW; go_simp) <;> with_reducible rfl
          simp only [nrm]
          refine wpAnyK_take (i := 22) (some 82) (undef) rfl rfl (by kernel_rfl) (fun _ _ _ h => h) ⟨k0, d2, k3⟩ (.inr ⟨rfl, rfl⟩) ?_
          simp only [nrm]
          refine wpAnyK_take (i := 23) (some 83) (undef) rfl rfl (by kernel_rfl) (fun _ _ _ h => h) ⟨k0, d2, k3⟩ (.inr ⟨rfl, rfl⟩) ?_
          simp only [nrm]
          refine wpAnyK_take (i := 24) (some 84) (undef) rfl rfl (by kernel_rfl) (fun _ _ _ h => h) ⟨k0, d2, k3⟩ (.inr ⟨rfl, rfl⟩) ?_
          simp only [nrm]
          refine wpAnyK_take (i := 25) (some 85) (undef) rfl rfl (by kernel_rfl) (fun _ _ _ h => h) ⟨k0, d2, k3⟩ (.inr ⟨rfl, rfl⟩) ?_
          simp only [nrm]
          refine wpAnyK_take (i := 26) (some 86) (undef) rfl rfl (by kernel_rfl) (fun _ _ _ h => h) ⟨k0, d2, k3⟩ (.inr ⟨rfl, rfl⟩) ?_
          simp only [nrm]
          refine wpAnyK_take (i := 27) (some 87) (undef) rfl rfl (by kernel_rfl) (fun _ _ _ h => h) ⟨k0, d2, k3⟩ (.inr ⟨rfl, rfl⟩) ?_
          simp only [nrm]
          refine wpAnyK_take (i := 28) (some 88) (undef) rfl rfl (by kernel_rfl) (fun _ _ _ h => h) ⟨k0, d2, k3⟩ (.inr ⟨rfl, rfl⟩) ?_
          simp only [nrm]
          refine wpAnyK_take (i := 29) (some 89) (undef) rfl rfl (by kernel_rfl) (fun _ _ _ h => h) ⟨k0, d2, k3⟩ (.inr ⟨rfl, rfl⟩) ?_
          simp only [nrm]
          refine wpAnyK_take (i := 30) (some 90) (undef) rfl rfl (by kernel_rfl) (fun _ _ _ h => h) ⟨k0, d2, k3⟩ (.inr ⟨rfl, rfl⟩) ?_
          simp only [nrm]
          refine wpAnyK_take (i := 31) (some 91) (undef) rfl rfl (by kernel_rfl) (fun _ _ _ h => h) ⟨k0, d2, k3⟩ (.inr ⟨rfl, rfl⟩) ?_
          simp only [nrm]
          refine wpAnyK_take (i := 32) (some 92) (undef) rfl rfl (by kernel_rfl) (fun _ _ _ h => h) ⟨k0, d2, k3⟩ (.inr ⟨rfl, rfl⟩) ?_
          simp only [nrm]
          refine wpAnyK_take (i := 33) (some 93) (undef) rfl rfl (by kernel_rfl) (fun _ _ _ h => h) ⟨k0, d2, k3⟩ (.inr ⟨rfl, rfl⟩) ?_
          simp only [nrm]
          refine wpAnyK_take (i := 34) (some 94) (undef) rfl rfl (by kernel_rfl) (fun _ _ _ h => h) ⟨k0, d2, k3⟩ (.inr ⟨rfl, rfl⟩) ?_
          simp only [nrm]
          refine wpAnyK_take (i := 35) (some 95) ?vq2_35 rfl rfl (by kernel_rfl) (fun _ _ _ h => h) ⟨k0, d2, k3⟩ (.inl ⟨rfl, fun W hW => ?yq2_35⟩) ?_
          case yq2_35 => (obtain ⟨q0, q1, q2⟩ := hW; go_simp) <;> with_reducible rfl
          simp only [nrm]
          refine wpAnyK_take (i := 36) (some 96) ?vq2_36 rfl rfl (by kernel_rfl) (fun _ _ _ h => h) ⟨k0, d2, k3⟩ (.inl ⟨rfl, fun W hW => ?yq2_36⟩) ?_
          case yq2_36 => (obtain ⟨q0, q1, q2⟩ := hW; go_simp) <;> with_reducible rfl
          simp only [nrm]
          refine wpAnyK_done (by kernel_rfl) ?_ _
          go_wp2_with fail
          go_roundw
          case rel => exact HX6.out
          case measure => simp [intOf]; omega
      · obtain ⟨j, hij⟩ : ∃ j, i = j + 1 := ⟨i - 1, by omega⟩
        obtain ⟨xj, hxj⟩ : ∃ xj, n.l[j]? = some xj := ⟨_, List.getElem?_eq_getElem (by omega)⟩
        have hkj : Lib.compareBytes xj.key x.key < 0 := krise_at HKR.out hxj (by rw [← hij]; exact HXX.out)
        obtain ⟨kj, vj, aj, ej, _, _, hicj⟩ := HITS.out.at_ hxj
        have hbj0 := hicj.fr HF5.out.drew (by simp)
        obtain ⟨⟨gj, hgj, _⟩, _, _⟩ := hbj0
        have HBJ := Lib.hid hgj
        obtain ⟨Aj, cj, _, rfl, _, _⟩ := hgj
        have k3 := fr_keep HF5.out.drew (HCG.out _ _ ej)
        have hjl : ((j : Nat) : Int) < ((n.l.length : Nat) : Int) := by omega
        have hwj : IntKind.i64.wrap ((i : Int) - 1) = (j : Int) := by have := HFEW.out; rw [IntKind.wrap_i64]; omega
        have hipI : (0 : Int) < (i : Int) := by omega
        have HIJ := Lib.hid hij
        clear hxj ej hicj hij
        cases hi with
        | none =>
          have htv : tv = .slice none 0 0 := hto5
          subst htv
          refine wp_region_K (fun W => W.cell? ⟨p14, 0, none⟩ = some (.slice Ak x.key.length ck) ∧ W.cell? ⟨p11, 2, none⟩ = some (.slice (some ⟨gr, 0, none⟩) n.l.length ca) ∧ W.cell? ⟨gr, j * 3, none⟩ = some (.slice Aj xj.key.length cj)) [0, 1, 2, 3, 5, 6, 7, 8, 9, 10, 11, 12, 13, 14, 15, 16, 17, 18, 19, 20, 21, 22, 23, 24, 25, 26, 27, 28, 29, 30, 31, 32, 34, 35, 36] (by kernel_rfl) ?_
          refine wpAnyK_take (i := 0) (some 60) ?vq3_0 rfl rfl (by kernel_rfl) (fun _ _ _ h => h) ⟨k0, d2, k3⟩ (.inl ⟨rfl, fun W hW => ?yq3_0⟩) ?_
          case yq3_0 => (obtain ⟨q0, q1, q2⟩ := hW; go_simp) <;> with_reducible rfl
          simp only [nrm]
          refine wpAnyK_take (i := 1) (some 61) ?vq3_1 rfl rfl (by kernel_rfl) (fun _ _ _ h => h) ⟨k0, d2, k3⟩ (.inl ⟨rfl, fun W hW => ?yq3_1⟩) ?_
          case yq3_1 => (obtain ⟨q0, q1, q2⟩ := hW; go_simp) <;> with_reducible rfl
          simp only [nrm]
          refine wpAnyK_take (i := 2) (some 62) ?vq3_2 rfl rfl (by kernel_rfl) (fun _ _ _ h => h) ⟨k0, d2, k3⟩ (.inl ⟨rfl, fun W hW => ?yq3_2⟩) ?_
          case yq3_2 => (obtain ⟨q0, q1, q2⟩ := hW; go_simp) <;> with_reducible rfl
          simp only [nrm]
          refine wpAnyK_take (i := 3) (some 63) ?vq3_3 rfl rfl (by kernel_rfl) (fun _ _ _ h => h) ⟨k0, d2, k3⟩ (.inl ⟨rfl, fun W hW => ?yq3_3⟩) ?_
          case yq3_3 => (obtain ⟨q0, q1, q2⟩ := hW; go_simp) <;> with_reducible rfl
          simp only [nrm]
          refine wpAnyK_step (j := 4) (some 64) rfl rfl (by kernel_rfl) rfl fun K hK => ?_
          refine wp_call_f (l := [.tmp 62, .tmp 63]) rfl [.slice Ak x.key.length ck, fv] rfl (enter_compare _) ((bytes_compare HBK5.out HFQ.out).mono ?_)
          rintro e w6 ⟨rfl, rfl⟩
          refine ⟨_, rfl, hK _ _ (fun _ => ⟨k0, d2, k3⟩) ?_⟩
          simp only [nrm]
          clear hK
          refine wpAnyK_take (i := 5) (some 65) ?vq3_5 rfl rfl (by kernel_rfl) (fun _ _ _ h => h) ⟨k0, d2, k3⟩ (.inl ⟨rfl, fun W hW => ?yq3_5⟩) ?_
          case yq3_5 => (obtain ⟨q0, q1, q2⟩ := hW; go_simp) <;> with_reducible rfl
          simp only [nrm]
          refine wpAnyK_take (i := 6) (some 66) ?vq3_6 rfl rfl (by kernel_rfl) (fun _ _ _ h => h) ⟨k0, d2, k3⟩ (.inl ⟨rfl, fun W hW => ?yq3_6⟩) ?_
          case yq3_6 => (obtain ⟨q0, q1, q2⟩ := hW; go_simp) <;> with_reducible rfl
          simp only [nrm]
          refine wpAnyK_take (i := 7) (some 67) ?vq3_7 rfl rfl (by kernel_rfl) (fun _ _ _ h => h) ⟨k0, d2, k3⟩ (.inl ⟨rfl, fun W hW => ?yq3_7⟩) ?_
          case yq3_7 => (obtain ⟨q0, q1, q2⟩ := hW; go_simp) <;> with_reducible rfl
          simp only [nrm]
          refine wpAnyK_take (i := 8) (some 68) (.bool false) rfl rfl (by kernel_rfl) (fun _ _ _ h => h) ⟨k0, d2, k3⟩ (.inl ⟨rfl, fun W' _ => by simp [execOp, Act.eval, Result.andThen, go_sem, Tryz.underlying23]⟩) ?_
          simp only [nrm]
          refine wpAnyK_take (i := 9) (some 69) ?vq3_9 rfl rfl (by kernel_rfl) (fun _ _ _ h => h) ⟨k0, d2, k3⟩ (.inl ⟨rfl, fun W hW => ?yq3_9⟩) ?_
          case yq3_9 => (obtain ⟨q0, q1, q2⟩ := hW; go_simp) <;> with_reducible rfl
          simp only [nrm]
          refine wpAnyK_take (i := 10) (some 70) (undef) rfl rfl (by kernel_rfl) (fun _ _ _ h => h) ⟨k0, d2, k3⟩ (.inr ⟨rfl, rfl⟩) ?_
          simp only [nrm]
          refine wpAnyK_take (i := 11) (some 71) (undef) rfl rfl (by kernel_rfl) (fun _ _ _ h => h) ⟨k0, d2, k3⟩ (.inr ⟨rfl, rfl⟩) ?_
          simp only [nrm]
          refine wpAnyK_take (i := 12) (some 72) (undef) rfl rfl (by kernel_rfl) (fun _ _ _ h => h) ⟨k0, d2, k3⟩ (.inr ⟨rfl, rfl⟩) ?_
          simp only [nrm]
          refine wpAnyK_take (i := 13) (some 73) (undef) rfl rfl (by kernel_rfl) (fun _ _ _ h => h) ⟨k0, d2, k3⟩ (.inr ⟨rfl, rfl⟩) ?_
          simp only [nrm]
          refine wpAnyK_take (i := 14) (some 74) (undef) rfl rfl (by kernel_rfl) (fun _ _ _ h => h) ⟨k0, d2, k3⟩ (.inr ⟨rfl, rfl⟩) ?_
          simp only [nrm]
          refine wpAnyK_take (i := 15) (some 75) (undef) rfl rfl (by kernel_rfl) (fun _ _ _ h => h) ⟨k0, d2, k3⟩ (.inr ⟨rfl, rfl⟩) ?_
          simp only [nrm]
          refine wpAnyK_take (i := 16) (some 76) ?vq3_16 rfl rfl (by kernel_rfl) (fun _ _ _ h => h) ⟨k0, d2, k3⟩ (.inl ⟨rfl, fun W hW => ?yq3_16⟩) ?_
          case yq3_16 => (obtain ⟨q0, q1, q2⟩ := hW; go_simp) <;> with_reducible rfl
          simp only [nrm]
          refine wpAnyK_take (i := 17) (some 77) ?vq3_17 rfl rfl (by kernel_rfl) (fun _ _ _ h => h) ⟨k0, d2, k3⟩ (.inl ⟨rfl, fun W hW => ?yq3_17⟩) ?_
          case yq3_17 => (obtain ⟨q0, q1, q2⟩ := hW; go_simp) <;> with_reducible rfl
          simp only [nrm]
          refine wpAnyK_take (i := 18) (some 78) ?vq3_18 rfl rfl (by kernel_rfl) (fun _ _ _ h => h) ⟨k0, d2, k3⟩ (.inl ⟨rfl, fun W hW => ?yq3_18⟩) ?_
          case yq3_18 => (obtain ⟨q0, q1, q2⟩ := hW; go_simp) <;> with_reducible rfl
          simp only [nrm]
          refine wpAnyK_take (i := 19) (some 79) ?vq3_19 rfl rfl (by kernel_rfl) (fun _ _ _ h => h) ⟨k0, d2, k3⟩ (.inl ⟨rfl, fun W hW => ?yq3_19⟩) ?_
          case yq3_19 => (obtain ⟨q0, q1, q2⟩ := hW; go_simp) <;> with_reducible rfl
          simp only [nrm]
          refine wpAnyK_take (i := 20) (some 80) (.bool true) rfl rfl (by kernel_rfl) (fun _ _ _ h => h) ⟨k0, d2, k3⟩ (.inl ⟨rfl, fun W' _ => by first | (simp [execOp, Act.eval, go_sem]; done) | (simp [execOp, Act.eval, go_sem]; omega)⟩) ?_
          simp only [nrm]
          refine wpAnyK_take (i := 21) (some 81) ?vq3_21 rfl rfl (by kernel_rfl) (fun _ _ _ h => h) ⟨k0, d2, k3⟩ (.inl ⟨rfl, fun W hW => ?yq3_21⟩) ?_
          case yq3_21 => (obtain ⟨q0, q1, q2⟩ := hW; go_simp) <;> with_reducible rfl
          simp only [nrm]
          refine wpAnyK_take (i := 22) (some 82) ?vq3_22 rfl rfl (by kernel_rfl) (fun _ _ _ h => h) ⟨k0, d2, k3⟩ (.inl ⟨rfl, fun W hW => ?yq3_22⟩) ?_
          case yq3_22 => (obtain ⟨q0, q1, q2⟩ := hW; go_simp) <;> with_reducible rfl
          simp only [nrm]
          refine wpAnyK_take (i := 23) (some 83) ?vq3_23 rfl rfl (by kernel_rfl) (fun _ _ _ h => h) ⟨k0, d2, k3⟩ (.inl ⟨rfl, fun W hW => ?yq3_23⟩) ?_
          case yq3_23 => (obtain ⟨q0, q1, q2⟩ := hW; go_simp) <;> with_reducible rfl
          simp only [nrm]
          refine wpAnyK_take (i := 24) (some 84) ?vq3_24 rfl rfl (by kernel_rfl) (fun _ _ _ h => h) ⟨k0, d2, k3⟩ (.inl ⟨rfl, fun W hW => ?yq3_24⟩) ?_
          case yq3_24 => (obtain ⟨q0, q1, q2⟩ := hW; go_simp) <;> with_reducible rfl
          simp only [nrm]
          refine wpAnyK_take (i := 25) (some 85) ?vq3_25 rfl rfl (by kernel_rfl) (fun _ _ _ h => h) ⟨k0, d2, k3⟩ (.inl ⟨rfl, fun W hW => ?yq3_25⟩) ?_
          case yq3_25 => (obtain ⟨q0, q1, q2⟩ := hW; go_simp) <;> with_reducible rfl
          simp only [nrm]
          refine wpAnyK_take (i := 26) (some 86) ?vq3_26 rfl rfl (by kernel_rfl) (fun _ _ _ h => h) ⟨k0, d2, k3⟩ (.inl ⟨rfl, fun W hW => ?yq3_26⟩) ?_
          case yq3_26 => (obtain ⟨q0, q1, q2⟩ := hW; go_simp) <;> with_reducible rfl
          simp only [nrm]
          refine wpAnyK_take (i := 27) (some 87) ?vq3_27 rfl rfl (by kernel_rfl) (fun _ _ _ h => h) ⟨k0, d2, k3⟩ (.inl ⟨rfl, fun W hW => ?yq3_27⟩) ?_
          case yq3_27 => (obtain ⟨q0, q1, q2⟩ := hW; go_simp) <;> with_reducible rfl
          simp only [nrm]
          refine wpAnyK_take (i := 28) (some 88) ?vq3_28 rfl rfl (by kernel_rfl) (fun _ _ _ h => h) ⟨k0, d2, k3⟩ (.inl ⟨rfl, fun W hW => ?yq3_28⟩) ?_
          case yq3_28 => (obtain ⟨q0, q1, q2⟩ := hW; go_simp) <;> with_reducible rfl
          simp only [nrm]
          refine wpAnyK_take (i := 29) (some 89) ?vq3_29 rfl rfl (by kernel_rfl) (fun _ _ _ h => h) ⟨k0, d2, k3⟩ (.inl ⟨rfl, fun W hW => ?yq3_29⟩) ?_
          case yq3_29 => (obtain ⟨q0, q1, q2⟩ := hW; go_simp) <;> with_reducible rfl
          simp only [nrm]
          refine wpAnyK_take (i := 30) (some 90) ?vq3_30 rfl rfl (by kernel_rfl) (fun _ _ _ h => h) ⟨k0, d2, k3⟩ (.inl ⟨rfl, fun W hW => ?yq3_30⟩) ?_
          case yq3_30 => (obtain ⟨q0, q1, q2⟩ := hW; go_simp) <;> with_reducible rfl
          simp only [nrm]
          refine wpAnyK_take (i := 31) (some 91) ?vq3_31 rfl rfl (by kernel_rfl) (fun _ _ _ h => h) ⟨k0, d2, k3⟩ (.inl ⟨rfl, fun W hW => ?yq3_31⟩) ?_
          case yq3_31 => (obtain ⟨q0, q1, q2⟩ := hW; go_simp) <;> with_reducible rfl
          simp only [nrm]
          refine wpAnyK_take (i := 32) (some 92) ?vq3_32 rfl rfl (by kernel_rfl) (fun _ _ _ h => h) ⟨k0, d2, k3⟩ (.inl ⟨rfl, fun W hW => ?yq3_32⟩) ?_
          case yq3_32 => (obtain ⟨q0, q1, q2⟩ := hW; go_simp) <;> with_reducible rfl
          simp only [nrm]
          refine wpAnyK_stepg (j := 33) (some 93) rfl rfl (by kernel_rfl) rfl fun K hK => ?_
          refine wp_call_f (l := [.tmp 89, .tmp 92]) rfl [.slice Aj xj.key.length cj, .slice Ak x.key.length ck] rfl (enter_compare _) ((bytes_compare HBJ.out HBK5.out).mono ?_)
          rintro e w8 ⟨rfl, rfl⟩
          refine ⟨_, rfl, hK _ _ (fun _ => ⟨k0, d2, k3⟩) ?_⟩
          simp only [nrm]
          clear hK
          refine wpAnyK_take (i := 34) (some 94) (.bool false) rfl rfl (by kernel_rfl) (fun _ _ _ h => h) ⟨k0, d2, k3⟩ (.inl ⟨rfl, fun W' _ => by first | (simp [execOp, Act.eval, go_sem, hkj]; done) | (simp [execOp, Act.eval, Result.andThen, go_sem]; omega)⟩) ?_
          simp only [nrm]
          refine wpAnyK_take (i := 35) (some 95) ?vq3_35 rfl rfl (by kernel_rfl) (fun _ _ _ h => h) ⟨k0, d2, k3⟩ (.inl ⟨rfl, fun W hW => ?yq3_35⟩) ?_
          case yq3_35 => (obtain ⟨q0, q1, q2⟩ := hW; go_simp) <;> with_reducible rfl
          simp only [nrm]
          refine wpAnyK_take (i := 36) (some 96) ?vq3_36 rfl rfl (by kernel_rfl) (fun _ _ _ h => h) ⟨k0, d2, k3⟩ (.inl ⟨rfl, fun W hW => ?yq3_36⟩) ?_
          case yq3_36 => (obtain ⟨q0, q1, q2⟩ := hW; go_simp) <;> with_reducible rfl
          simp only [nrm]
          refine wpAnyK_done (by kernel_rfl) ?_ _
          go_wp2_with fail
          go_roundw
          case rel => exact HX6.out
          case measure => simp [intOf]; omega
        | some b =>
          obtain ⟨ta, tm, tc, tq, htv, htb, _⟩ := hto5
          subst htv
          have HTB := Lib.hid htb
          have hkb' : Lib.compareBytes x.key b < 0 := HXIN.out.2 b rfl
          clear htb
          refine wp_region_K (fun W => W.cell? ⟨p14, 0, none⟩ = some (.slice Ak x.key.length ck) ∧ W.cell? ⟨p11, 2, none⟩ = some (.slice (some ⟨gr, 0, none⟩) n.l.length ca) ∧ W.cell? ⟨gr, j * 3, none⟩ = some (.slice Aj xj.key.length cj)) [0, 1, 2, 3, 5, 6, 7, 8, 9, 10, 11, 12, 13, 15, 16, 17, 18, 19, 20, 21, 22, 23, 24, 25, 26, 27, 28, 29, 30, 31, 32, 34, 35, 36] (by kernel_rfl) ?_
          refine wpAnyK_take (i := 0) (some 60) ?vq4_0 rfl rfl (by kernel_rfl) (fun _ _ _ h => h) ⟨k0, d2, k3⟩ (.inl ⟨rfl, fun W hW => ?yq4_0⟩) ?_
          case yq4_0 => (obtain ⟨q0, q1, q2⟩ := hW; go_simp) <;> with_reducible rfl
          simp only [nrm]
          refine wpAnyK_take (i := 1) (some 61) ?vq4_1 rfl rfl (by kernel_rfl) (fun _ _ _ h => h) ⟨k0, d2, k3⟩ (.inl ⟨rfl, fun W hW => ?yq4_1⟩) ?_
          case yq4_1 => (obtain ⟨q0, q1, q2⟩ := hW; go_simp) <;> with_reducible rfl
          simp only [nrm]
          refine wpAnyK_take (i := 2) (some 62) ?vq4_2 rfl rfl (by kernel_rfl) (fun _ _ _ h => h) ⟨k0, d2, k3⟩ (.inl ⟨rfl, fun W hW => ?yq4_2⟩) ?_
          case yq4_2 => (obtain ⟨q0, q1, q2⟩ := hW; go_simp) <;> with_reducible rfl
          simp only [nrm]
          refine wpAnyK_take (i := 3) (some 63) ?vq4_3 rfl rfl (by kernel_rfl) (fun _ _ _ h => h) ⟨k0, d2, k3⟩ (.inl ⟨rfl, fun W hW => ?yq4_3⟩) ?_
          case yq4_3 => (obtain ⟨q0, q1, q2⟩ := hW; go_simp) <;> with_reducible rfl
          simp only [nrm]
          refine wpAnyK_step (j := 4) (some 64) rfl rfl (by kernel_rfl) rfl fun K hK => ?_
          refine wp_call_f (l := [.tmp 62, .tmp 63]) rfl [.slice Ak x.key.length ck, fv] rfl (enter_compare _) ((bytes_compare HBK5.out HFQ.out).mono ?_)
          rintro e w6 ⟨rfl, rfl⟩
          refine ⟨_, rfl, hK _ _ (fun _ => ⟨k0, d2, k3⟩) ?_⟩
          simp only [nrm]
          clear hK
          refine wpAnyK_take (i := 5) (some 65) ?vq4_5 rfl rfl (by kernel_rfl) (fun _ _ _ h => h) ⟨k0, d2, k3⟩ (.inl ⟨rfl, fun W hW => ?yq4_5⟩) ?_
          case yq4_5 => (obtain ⟨q0, q1, q2⟩ := hW; go_simp) <;> with_reducible rfl
          simp only [nrm]
          refine wpAnyK_take (i := 6) (some 66) ?vq4_6 rfl rfl (by kernel_rfl) (fun _ _ _ h => h) ⟨k0, d2, k3⟩ (.inl ⟨rfl, fun W hW => ?yq4_6⟩) ?_
          case yq4_6 => (obtain ⟨q0, q1, q2⟩ := hW; go_simp) <;> with_reducible rfl
          simp only [nrm]
          refine wpAnyK_take (i := 7) (some 67) ?vq4_7 rfl rfl (by kernel_rfl) (fun _ _ _ h => h) ⟨k0, d2, k3⟩ (.inl ⟨rfl, fun W hW => ?yq4_7⟩) ?_
          case yq4_7 => (obtain ⟨q0, q1, q2⟩ := hW; go_simp) <;> with_reducible rfl
          simp only [nrm]
          refine wpAnyK_take (i := 8) (some 68) (.bool true) rfl rfl (by kernel_rfl) (fun _ _ _ h => h) ⟨k0, d2, k3⟩ (.inl ⟨rfl, fun W' _ => by simp [execOp, Act.eval, Result.andThen, go_sem, Tryz.underlying23]⟩) ?_
          simp only [nrm]
          refine wpAnyK_take (i := 9) (some 69) ?vq4_9 rfl rfl (by kernel_rfl) (fun _ _ _ h => h) ⟨k0, d2, k3⟩ (.inl ⟨rfl, fun W hW => ?yq4_9⟩) ?_
          case yq4_9 => (obtain ⟨q0, q1, q2⟩ := hW; go_simp) <;> with_reducible rfl
          simp only [nrm]
          refine wpAnyK_take (i := 10) (some 70) ?vq4_10 rfl rfl (by kernel_rfl) (fun _ _ _ h => h) ⟨k0, d2, k3⟩ (.inl ⟨rfl, fun W hW => ?yq4_10⟩) ?_
          case yq4_10 => (obtain ⟨q0, q1, q2⟩ := hW; go_simp) <;> with_reducible rfl
          simp only [nrm]
          refine wpAnyK_take (i := 11) (some 71) ?vq4_11 rfl rfl (by kernel_rfl) (fun _ _ _ h => h) ⟨k0, d2, k3⟩ (.inl ⟨rfl, fun W hW => ?yq4_11⟩) ?_
          case yq4_11 => (obtain ⟨q0, q1, q2⟩ := hW; go_simp) <;> with_reducible rfl
          simp only [nrm]
          refine wpAnyK_take (i := 12) (some 72) ?vq4_12 rfl rfl (by kernel_rfl) (fun _ _ _ h => h) ⟨k0, d2, k3⟩ (.inl ⟨rfl, fun W hW => ?yq4_12⟩) ?_
          case yq4_12 => (obtain ⟨q0, q1, q2⟩ := hW; go_simp) <;> with_reducible rfl
          simp only [nrm]
          refine wpAnyK_take (i := 13) (some 73) ?vq4_13 rfl rfl (by kernel_rfl) (fun _ _ _ h => h) ⟨k0, d2, k3⟩ (.inl ⟨rfl, fun W hW => ?yq4_13⟩) ?_
          case yq4_13 => (obtain ⟨q0, q1, q2⟩ := hW; go_simp) <;> with_reducible rfl
          simp only [nrm]
          refine wpAnyK_stepg (j := 14) (some 74) rfl rfl (by kernel_rfl) rfl fun K hK => ?_
          refine wp_call_f (l := [.tmp 72, .tmp 73]) rfl [.slice Ak x.key.length ck, .slice (some ta) tm tc] rfl (enter_compare _) ((bytes_compare HBK5.out HTB.out).mono ?_)
          rintro e w7 ⟨rfl, rfl⟩
          refine ⟨_, rfl, hK _ _ (fun _ => ⟨k0, d2, k3⟩) ?_⟩
          simp only [nrm]
          clear hK
          refine wpAnyK_take (i := 15) (some 75) (.bool false) rfl rfl (by kernel_rfl) (fun _ _ _ h => h) ⟨k0, d2, k3⟩ (.inl ⟨rfl, fun W' _ => by first | (simp [execOp, Act.eval, go_sem, hkb']; done) | (simp [execOp, Act.eval, Result.andThen, go_sem]; omega)⟩) ?_
          simp only [nrm]
          refine wpAnyK_take (i := 16) (some 76) ?vq4_16 rfl rfl (by kernel_rfl) (fun _ _ _ h => h) ⟨k0, d2, k3⟩ (.inl ⟨rfl, fun W hW => ?yq4_16⟩) ?_
          case yq4_16 => (obtain ⟨q0, q1, q2⟩ := hW; go_simp) <;> with_reducible rfl
          simp only [nrm]
          refine wpAnyK_take (i := 17) (some 77) ?vq4_17 rfl rfl (by kernel_rfl) (fun _ _ _ h => h) ⟨k0, d2, k3⟩ (.inl ⟨rfl, fun W hW => ?yq4_17⟩) ?_
          case yq4_17 => (obtain ⟨q0, q1, q2⟩ := hW; go_simp) <;> with_reducible rfl
          simp only [nrm]
          refine wpAnyK_take (i := 18) (some 78) ?vq4_18 rfl rfl (by kernel_rfl) (fun _ _ _ h => h) ⟨k0, d2, k3⟩ (.inl ⟨rfl, fun W hW => ?yq4_18⟩) ?_
          case yq4_18 => (obtain ⟨q0, q1, q2⟩ := hW; go_simp) <;> with_reducible rfl
          simp only [nrm]
          refine wpAnyK_take (i := 19) (some 79) ?vq4_19 rfl rfl (by kernel_rfl) (fun _ _ _ h => h) ⟨k0, d2, k3⟩ (.inl ⟨rfl, fun W hW => ?yq4_19⟩) ?_
          case yq4_19 => (obtain ⟨q0, q1, q2⟩ := hW; go_simp) <;> with_reducible rfl
          simp only [nrm]
          refine wpAnyK_take (i := 20) (some 80) (.bool true) rfl rfl (by kernel_rfl) (fun _ _ _ h => h) ⟨k0, d2, k3⟩ (.inl ⟨rfl, fun W' _ => by first | (simp [execOp, Act.eval, go_sem]; done) | (simp [execOp, Act.eval, go_sem]; omega)⟩) ?_
          simp only [nrm]
          refine wpAnyK_take (i := 21) (some 81) ?vq4_21 rfl rfl (by kernel_rfl) (fun _ _ _ h => h) ⟨k0, d2, k3⟩ (.inl ⟨rfl, fun W hW => ?yq4_21⟩) ?_
          case yq4_21 => (obtain ⟨q0, q1, q2⟩ := hW; go_simp) <;> with_reducible rfl
          simp only [nrm]
          refine wpAnyK_take (i := 22) (some 82) ?vq4_22 rfl rfl (by kernel_rfl) (fun _ _ _ h => h) ⟨k0, d2, k3⟩ (.inl ⟨rfl, fun W hW => ?yq4_22⟩) ?_
          case yq4_22 => (obtain ⟨q0, q1, q2⟩ := hW; go_simp) <;> with_reducible rfl
          simp only [nrm]
          refine wpAnyK_take (i := 23) (some 83) ?vq4_23 rfl rfl (by kernel_rfl) (fun _ _ _ h => h) ⟨k0, d2, k3⟩ (.inl ⟨rfl, fun W hW => ?yq4_23⟩) ?_
          case yq4_23 => (obtain ⟨q0, q1, q2⟩ := hW; go_simp) <;> with_reducible rfl
          simp only [nrm]
          refine wpAnyK_take (i := 24) (some 84) ?vq4_24 rfl rfl (by kernel_rfl) (fun _ _ _ h => h) ⟨k0, d2, k3⟩ (.inl ⟨rfl, fun W hW => ?yq4_24⟩) ?_
          case yq4_24 => (obtain ⟨q0, q1, q2⟩ := hW; go_simp) <;> with_reducible rfl
          simp only [nrm]
          refine wpAnyK_take (i := 25) (some 85) ?vq4_25 rfl rfl (by kernel_rfl) (fun _ _ _ h => h) ⟨k0, d2, k3⟩ (.inl ⟨rfl, fun W hW => ?yq4_25⟩) ?_
          case yq4_25 => (obtain ⟨q0, q1, q2⟩ := hW; go_simp) <;> with_reducible rfl
          simp only [nrm]
          refine wpAnyK_take (i := 26) (some 86) ?vq4_26 rfl rfl (by kernel_rfl) (fun _ _ _ h => h) ⟨k0, d2, k3⟩ (.inl ⟨rfl, fun W hW => ?yq4_26⟩) ?_
          case yq4_26 => (obtain ⟨q0, q1, q2⟩ := hW; go_simp) <;> with_reducible rfl
          simp only [nrm]
          refine wpAnyK_take (i := 27) (some 87) ?vq4_27 rfl rfl (by kernel_rfl) (fun _ _ _ h => h) ⟨k0, d2, k3⟩ (.inl ⟨rfl, fun W hW => ?yq4_27⟩) ?_
          case yq4_27 => (obtain ⟨q0, q1, q2⟩ := hW; go_simp) <;> with_reducible rfl
          simp only [nrm]
          refine wpAnyK_take (i := 28) (some 88) ?vq4_28 rfl rfl (by kernel_rfl) (fun _ _ _ h => h) ⟨k0, d2, k3⟩ (.inl ⟨rfl, fun W hW => ?yq4_28⟩) ?_
          case yq4_28 => (obtain ⟨q0, q1, q2⟩ := hW; go_simp) <;> with_reducible rfl
          simp only [nrm]
          refine wpAnyK_take (i := 29) (some 89) ?vq4_29 rfl rfl (by kernel_rfl) (fun _ _ _ h => h) ⟨k0, d2, k3⟩ (.inl ⟨rfl, fun W hW => ?yq4_29⟩) ?_
          case yq4_29 => (obtain ⟨q0, q1, q2⟩ := hW; go_simp) <;> with_reducible rfl
          simp only [nrm]
          refine wpAnyK_take (i := 30) (some 90) ?vq4_30 rfl rfl (by kernel_rfl) (fun _ _ _ h => h) ⟨k0, d2, k3⟩ (.inl ⟨rfl, fun W hW => ?yq4_30⟩) ?_
          case yq4_30 => (obtain ⟨q0, q1, q2⟩ := hW; go_simp) <;> with_reducible rfl
          simp only [nrm]
          refine wpAnyK_take (i := 31) (some 91) ?vq4_31 rfl rfl (by kernel_rfl) (fun _ _ _ h => h) ⟨k0, d2, k3⟩ (.inl ⟨rfl, fun W hW => ?yq4_31⟩) ?_
          case yq4_31 => (obtain ⟨q0, q1, q2⟩ := hW; go_simp) <;> with_reducible rfl
          simp only [nrm]
          refine wpAnyK_take (i := 32) (some 92) ?vq4_32 rfl rfl (by kernel_rfl) (fun _ _ _ h => h) ⟨k0, d2, k3⟩ (.inl ⟨rfl, fun W hW => ?yq4_32⟩) ?_
          case yq4_32 => (obtain ⟨q0, q1, q2⟩ := hW; go_simp) <;> with_reducible rfl
          simp only [nrm]
          refine wpAnyK_stepg (j := 33) (some 93) rfl rfl (by kernel_rfl) rfl fun K hK => ?_
          refine wp_call_f (l := [.tmp 89, .tmp 92]) rfl [.slice Aj xj.key.length cj, .slice Ak x.key.length ck] rfl (enter_compare _) ((bytes_compare HBJ.out HBK5.out).mono ?_)
          rintro e w8 ⟨rfl, rfl⟩
          refine ⟨_, rfl, hK _ _ (fun _ => ⟨k0, d2, k3⟩) ?_⟩
          simp only [nrm]
          clear hK
          refine wpAnyK_take (i := 34) (some 94) (.bool false) rfl rfl (by kernel_rfl) (fun _ _ _ h => h) ⟨k0, d2, k3⟩ (.inl ⟨rfl, fun W' _ => by first | (simp [execOp, Act.eval, go_sem, hkj]; done) | (simp [execOp, Act.eval, Result.andThen, go_sem]; omega)⟩) ?_
          simp only [nrm]
          refine wpAnyK_take (i := 35) (some 95) ?vq4_35 rfl rfl (by kernel_rfl) (fun _ _ _ h => h) ⟨k0, d2, k3⟩ (.inl ⟨rfl, fun W hW => ?yq4_35⟩) ?_
          case yq4_35 => (obtain ⟨q0, q1, q2⟩ := hW; go_simp) <;> with_reducible rfl
          simp only [nrm]
          refine wpAnyK_take (i := 36) (some 96) ?vq4_36 rfl rfl (by kernel_rfl) (fun _ _ _ h => h) ⟨k0, d2, k3⟩ (.inl ⟨rfl, fun W hW => ?yq4_36⟩) ?_
          case yq4_36 => (obtain ⟨q0, q1, q2⟩ := hW; go_simp) <;> with_reducible rfl
          simp only [nrm]
          refine wpAnyK_done (by kernel_rfl) ?_ _
          go_wp2_with fail
          go_roundw
          case rel => exact HX6.out
          case measure => simp [intOf]; omega
    · obtain rfl : i = n.l.length := by omega
      have C5 := Lib.hid (C4.out.quiet HFW.out); have HNV5 := Lib.hid (HNV4.out.fr HFW.out (by simp)); have B5 := Lib.hid (B4.out.fr HFW.out (by simp)); have HF5 : Hid (Fr [bk, bm] w wr) := Lib.hid (HF4.out.trans HFW.out (by simp))
      have d0 := B5.out.at_ (i := 0) rfl
      have d1 := B5.out.at_ (i := 1) rfl
      have d2 := B5.out.at_ (i := 2) rfl
      clear C4 HNV4 B4
      go_wp2_with fail
      refine (leaf_nd n).mono ?_
      rintro e w5 ⟨rfl, hf5⟩
      have C6 := Lib.hid (C5.out.quiet hf5); have HNV6 := Lib.hid (HNV5.out.fr hf5 (by simp)); have B6 := Lib.hid (B5.out.fr hf5 (by simp)); have HF6 : Hid (Fr [bk, bm] w w5) := Lib.hid (HF5.out.trans hf5 (by simp)); have HF45 := Lib.hid (HFW.out.trans hf5 (by simp))
      clear hf5 d0 d1 d2 C5 HNV5 B5 HF5 HFW
      have hlen1 : (putA m k (.bool true)).length ≤ m.length + 1 := putA_len ..
      have hget1 : ∀ q, getA (putA m k (.bool true)) q = if q = k then some (.bool true) else getA m q := fun q => getA_put ..
      have HLEN1 := Lib.hid hlen1; have HGET1 := Lib.hid hget1
      clear hlen1 hget1
      cases h with
      | zero =>
        obtain ⟨hlf, _, hP0, _⟩ := HNF.out
        rw [hlf]
        have hdK : deep = K := by have := HDK.out; omega
        have c2 := C6.out.blk.at_ (i := 2) rfl
        have HP0 := Lib.hid hP0; have HDKK := Lib.hid hdK
        have hinv : ∀ q, q ∉ P → getA m q = none → getA (putA m k (.bool true)) q = none := fun q hq h => by rw [HGET1.out, if_neg (fun e => hq (by rw [HPP.out, e]; exact List.mem_cons_self ..)), h]
        have HINV := Lib.hid hinv
        have HLENP : Hid ((putA m k (.bool true)).length ≤ m.length + P.length) := Lib.hid (by have := HLEN1.out; rw [HPP.out]; simp only [List.length_cons]; omega)
        clear hlf hP0 hdK hinv
        rcases HKD.out with hk0 | hk0
        · have hk0I : ((kd : Nat) : Int) = 0 := by omega
          have HK0 := Lib.hid hk0
          rw [hk0] at c2
          have bf := C6.out.blk.free 2
          have bl := C6.out.blk.lt
          have hfs : Fr [bk] w5 (w5.setCell ⟨bk, 2, none⟩ (.int .i64 (deep : Int))) := (Fr.refl [bk] w5).setCell (.inl (by simp)) _
          have C7 := Lib.hid (C6.out.to (kd' := deep) (hfs.mono (by simp)) (C6.out.blk.set_ 2 (.int .i64 (deep : Int))) (C6.out.met.fr hfs (by have := C6.out.hb.1; simp; omega)))
          have c2' := C7.out.blk.at_ (i := 2) rfl
          have HX := Lib.hid (HQ.out (.returned (.bool true)) _ ⟨_, deep, rfl, C7.out, HF6.out.trans (hfs.mono (T := [bk, bm]) (by simp)) fun q hq => .inl hq, .inr HDKK.out, HINV.out, HLENP.out⟩)
          clear hk0 hk0I hfs
          go_wp2_with fail
          exact HX.out
        · have hk1 : ¬ ((kd : Nat) : Int) = 0 := by have := HD1.out; have := HDKK.out; omega
          have hkd2 : kd = deep := by rw [hk0, HDKK.out]
          subst hkd2
          have HK0 := Lib.hid hk0
          have HX := Lib.hid (HQ.out (.returned (.bool true)) w5 ⟨_, kd, rfl, C6.out, HF6.out, .inr hk0, HINV.out, HLENP.out⟩)
          clear hk0
          go_wp2_with fail
          exact HX.out
      | succ h =>
        obtain ⟨hlf, hKk⟩ := HNF.out
        rw [hlf]
        have hKk' : Kids (Sub c.N 1 h) lo n.first n.l hi E P' := hKk
        have hKB : KidsB c.N h n 0 lo hi P' := ⟨E, hKk'⟩
        have hnd' := HND.out
        rw [HPP.out] at hnd'
        obtain ⟨hkP, hndP⟩ := List.nodup_cons.1 hnd'
        have hL0 : CLeft c h n lo hi P P' m 0 (putA m k (.bool true)) := by
          refine ⟨fun q hq h => by rw [HGET1.out, if_neg (fun e => hq (by rw [HPP.out, e]; exact List.mem_cons_self ..)), h], .inl ⟨Nat.zero_le _, P', hKB, hndP, fun p hp => ⟨?_, hp⟩, ?_⟩⟩
          · rw [HGET1.out, if_neg (fun e => hkP (by rw [← e]; exact hp))]
            exact HMET.out p (by rw [HPP.out]; exact List.mem_cons_of_mem _ hp)
          · have := HLEN1.out; rw [HPP.out]; simp only [List.length_cons]; omega
        have HL0 := Lib.hid hL0
        have HIH := Lib.hid (ih h (Nat.lt_succ_self h))
        clear hlf hKk hKk' hKB hnd' hkP hndP hL0
        go_wp2_with fail
        go_loopw [15] (fun v wr => ∃ (i : Nat) (m' : List (Nat × Value)) (kd' : Nat), v = .int .i64 (i : Int) ∧ Cst wS g bc bn bs bk bm D c m' kd' wr ∧ Fr [bk, bm] w5 wr ∧ (kd' = 0 ∨ kd' = K) ∧ CLeft c h n lo hi P P' m i m') (fun v _ => n.l.length + 1 - (intOf v).toNat)
        case atStart => exact ⟨0, _, kd, rfl, C6.out, Fr.refl _ _, HKD.out, HL0.out⟩
        case round =>
          obtain ⟨i, m', kd', rfl, hCi, hFi, hkdi, hinvi, hLi⟩ := hrel
          have CI := Lib.hid hCi; have FI := Lib.hid hFi; have KDI := Lib.hid hkdi; have INVI := Lib.hid hinvi
          have BI := Lib.hid (B6.out.fr hFi (by have := HP11.out; simp; exact this))
          have HNI := Lib.hid (HNV6.out.fr hFi C6.out.off)
          have d0 := BI.out.at_ (i := 0) rfl
          have d1 := BI.out.at_ (i := 1) rfl
          have d2 := BI.out.at_ (i := 2) rfl
          clear hCi hFi hkdi hinvi
          rcases hLi with ⟨hil, PR, hka, hndR, hnone, hlenR⟩ | ⟨hi1, hlenE⟩
          · have hilI : ((i : Nat) : Int) ≤ ((n.l.length : Nat) : Int) := by omega
            have HKA1 := Lib.hid hka; have HNDR := Lib.hid hndR; have HNONE := Lib.hid hnone; have HLENR := Lib.hid hlenR
            clear hka hndR hnone hlenR
            have hwd : IntKind.i64.wrap ((deep : Int) + 1) = ((deep + 1 : Nat) : Int) := by have := HDK.out; have := HK.out; rw [IntKind.wrap_i64]; omega
            have hwi : IntKind.i64.wrap ((i : Int) + 1) = (i : Int) + 1 := by have := HFEW.out; rw [IntKind.wrap_i64]; omega
            have hfr := (HFR.out.fr HF6.out C1.out.off).fr FI.out C6.out.off
            have hto := (HTO.out.fr HF6.out C1.out.off).fr FI.out C6.out.off
            have hgrD : gr ∉ [bk, bm] := by
              have h1 : D gr := by
                obtain ⟨sv2, cs2, z1, z2, z3, z4⟩ := HNV6.out
                refine z4 gr ?_
                injection z1 with z1
                simp at z1
                rw [← z1]; rfl
              have := C6.out.nb gr h1
              simp
              omega
            have hcell : ∀ (jj : Nat) (xx : It), n.l[jj]? = some xx → ∃ Ax cx, wr.cell? ⟨gr, jj * 3, none⟩ = some (.slice Ax xx.key.length cx) ∧ ∃ q, BytesAt wr (.slice Ax xx.key.length cx) xx.key q ∧ D q := fun jj xx hxx => by
              obtain ⟨kj, vj, aj, ej, _, _, hicj⟩ := HITS.out.at_ hxx
              obtain ⟨⟨gj, hgj, hdj⟩, _, _⟩ := (hicj.fr HF45.out (by simp)).fr FI.out C6.out.off
              obtain ⟨Aj, cj, _, rfl, _, _⟩ := id hgj
              exact ⟨Aj, cj, fr_keepS FI.out hgrD (fr_keep HF45.out (HCG.out _ _ ej)), gj, hgj, hdj⟩
            have HCELL := Lib.hid hcell
            clear hcell hgrD
            rcases Nat.eq_zero_or_pos i with h0 | h0
            · have hi0I : ¬ (0 : Int) < (i : Int) := by omega
              have HFK : Hid (FromK D wr fv (loOf lo (n.l.take i))) := Lib.hid (by rw [h0]; exact hfr)
              have H0 := Lib.hid h0
              clear h0 hfr
              by_cases hlt : i < n.l.length
              ·
                obtain ⟨x, hx⟩ : ∃ x, n.l[i]? = some x := ⟨_, List.getElem?_eq_getElem hlt⟩
                obtain ⟨Ax, cx, ci, qx, h4, h5⟩ := HCELL.out i x hx
                have hltI : ((i : Nat) : Int) < ((n.l.length : Nat) : Int) := by omega
                obtain ⟨E1, P1, P2, hsub, hPR, hka2⟩ := kidsB_next HKA1.out hx
                have HUP : Hid (UpK D wr (.slice Ax x.key.length cx) (some x.key)) := Lib.hid (by
                  have h6 := h4
                  obtain ⟨A', c', off, hv, _, hc⟩ := h6
                  have hk1 := (HOK.out.item x (List.mem_of_getElem? hx)).k1
                  have h7 := (hc (by omega)).1
                  injection hv with hv1 hv2 hv3
                  rw [h7] at hv1
                  exact ⟨_, _, _, qx, by rw [hv1], h4, h5⟩)
                have HPR := Lib.hid hPR; have HKA2 := Lib.hid hka2; have HSUB := Lib.hid hsub; have HLT := Lib.hid hlt
                clear hx h4 h5 hPR hka2 hsub hto hlt
                go_wp2_with fail
                refine (child_nd HNI.out hil (by have := HFEW.out; omega)).mono ?_
                rintro e w8 ⟨rfl, hf8⟩
                have C8 := Lib.hid (CI.out.quiet hf8)
                have h9 : PR.length = P1.length + P2.length := by rw [HPR.out, List.length_append]
                have hnd := HNDR.out
                rw [HPR.out] at hnd
                obtain ⟨nd1, nd2, nd3⟩ := List.nodup_append.1 hnd
                have HREC := Lib.hid (HIH.out _ (deep + 1) _ _ _ P1 m' kd' fv (.slice Ax x.key.length cx) w8 (by have := HDK.out; omega) (by omega) HK.out HSUB.out nd1 (fun p hp => (HNONE.out p (by rw [HPR.out]; exact List.mem_append_left _ hp)).1) (by have := HLENR.out; have := HML.out; omega) C8.out (HFK.out.fr hf8 (by simp)) (HUP.out.fr hf8 (by simp)) KDI.out)
                clear hnd h9
                have HF8 := Lib.hid (FI.out.trans hf8 (by simp))
                have HND3 : Hid (∀ p ∈ P2, p ∉ P1) := Lib.hid (fun p hp hp1 => nd3 p hp1 p hp rfl)
                have HND2 := Lib.hid nd2
                clear nd1 nd2 nd3 hf8
                go_wp2_with fail
                refine HREC.out.mono ?_
                rintro e w9 ⟨m9, kd9, rfl, hC9, hf9, hkd9, hinv9, hlen9⟩
                have HX : Hid (∃ (i' : Nat) (m'' : List (Nat × Value)) (kd'' : Nat), Value.int .i64 ((i : Int) + 1) = .int .i64 (i' : Int) ∧ Cst wS g bc bn bs bk bm D c m'' kd'' w9 ∧ Fr [bk, bm] w5 w9 ∧ (kd'' = 0 ∨ kd'' = K) ∧ CLeft c h n lo hi P P' m i' m'') := Lib.hid ⟨i + 1, m9, kd9, rfl, hC9, HF8.out.trans hf9 (fun q hq => .inl hq), hkd9, fun q hq hh => hinv9 q (fun hm => hq (by rw [HPP.out]; exact List.mem_cons_of_mem _ (HNONE.out q (by rw [HPR.out]; exact List.mem_append_left _ hm)).2)) (INVI.out q hq hh), .inl ⟨HLT.out, P2, HKA2.out, HND2.out, fun p hp => by
                  have := HNONE.out p (by rw [HPR.out]; exact List.mem_append_right _ hp)
                  exact ⟨hinv9 p (HND3.out p hp) this.1, this.2⟩, by have := HLENR.out; rw [HPR.out, List.length_append] at this; omega⟩⟩
                clear hC9 hf9 hkd9 hinv9 hlen9
                go_wp2_with fail
                go_roundw
                case rel => exact HX.out
                case measure => simp [intOf]; omega
              ·
                have h1 := HM1.out
                have h2 := H0.out
                exact absurd (show i < n.l.length by omega) hlt
            · obtain ⟨j, hij⟩ : ∃ j, i = j + 1 := ⟨i - 1, by omega⟩
              obtain ⟨xj, hxj⟩ : ∃ xj, n.l[j]? = some xj := ⟨_, List.getElem?_eq_getElem (by omega)⟩
              obtain ⟨Af, cf, cj, q, h2, h3⟩ := HCELL.out j xj hxj
              have HFK : Hid (FromK D wr (.slice Af xj.key.length cf) (loOf lo (n.l.take i))) := Lib.hid (by rw [hij, loOf_take hxj]; exact ⟨q, h2, h3⟩)
              have hwj : IntKind.i64.wrap ((i : Int) - 1) = (j : Int) := by have := HFEW.out; rw [IntKind.wrap_i64]; omega
              have hipI : (0 : Int) < (i : Int) := by omega
              have hjl : ((j : Nat) : Int) < ((n.l.length : Nat) : Int) := by omega
              have HIJ := Lib.hid hij
              clear h0 hfr hij hxj h2 h3
              by_cases hlt : i < n.l.length
              ·
                obtain ⟨x, hx⟩ : ∃ x, n.l[i]? = some x := ⟨_, List.getElem?_eq_getElem hlt⟩
                obtain ⟨Ax, cx, ci, qx, h4, h5⟩ := HCELL.out i x hx
                have hltI : ((i : Nat) : Int) < ((n.l.length : Nat) : Int) := by omega
                obtain ⟨E1, P1, P2, hsub, hPR, hka2⟩ := kidsB_next HKA1.out hx
                have HUP : Hid (UpK D wr (.slice Ax x.key.length cx) (some x.key)) := Lib.hid (by
                  have h6 := h4
                  obtain ⟨A', c', off, hv, _, hc⟩ := h6
                  have hk1 := (HOK.out.item x (List.mem_of_getElem? hx)).k1
                  have h7 := (hc (by omega)).1
                  injection hv with hv1 hv2 hv3
                  rw [h7] at hv1
                  exact ⟨_, _, _, qx, by rw [hv1], h4, h5⟩)
                have HPR := Lib.hid hPR; have HKA2 := Lib.hid hka2; have HSUB := Lib.hid hsub; have HLT := Lib.hid hlt
                clear hx h4 h5 hPR hka2 hsub hto hlt
                go_wp2_with fail
                refine (child_nd HNI.out hil (by have := HFEW.out; omega)).mono ?_
                rintro e w8 ⟨rfl, hf8⟩
                have C8 := Lib.hid (CI.out.quiet hf8)
                have h9 : PR.length = P1.length + P2.length := by rw [HPR.out, List.length_append]
                have hnd := HNDR.out
                rw [HPR.out] at hnd
                obtain ⟨nd1, nd2, nd3⟩ := List.nodup_append.1 hnd
                have HREC := Lib.hid (HIH.out _ (deep + 1) _ _ _ P1 m' kd' (.slice Af xj.key.length cf) (.slice Ax x.key.length cx) w8 (by have := HDK.out; omega) (by omega) HK.out HSUB.out nd1 (fun p hp => (HNONE.out p (by rw [HPR.out]; exact List.mem_append_left _ hp)).1) (by have := HLENR.out; have := HML.out; omega) C8.out (HFK.out.fr hf8 (by simp)) (HUP.out.fr hf8 (by simp)) KDI.out)
                clear hnd h9
                have HF8 := Lib.hid (FI.out.trans hf8 (by simp))
                have HND3 : Hid (∀ p ∈ P2, p ∉ P1) := Lib.hid (fun p hp hp1 => nd3 p hp1 p hp rfl)
                have HND2 := Lib.hid nd2
                clear nd1 nd2 nd3 hf8
                go_wp2_with fail
                refine HREC.out.mono ?_
                rintro e w9 ⟨m9, kd9, rfl, hC9, hf9, hkd9, hinv9, hlen9⟩
                have HX : Hid (∃ (i' : Nat) (m'' : List (Nat × Value)) (kd'' : Nat), Value.int .i64 ((i : Int) + 1) = .int .i64 (i' : Int) ∧ Cst wS g bc bn bs bk bm D c m'' kd'' w9 ∧ Fr [bk, bm] w5 w9 ∧ (kd'' = 0 ∨ kd'' = K) ∧ CLeft c h n lo hi P P' m i' m'') := Lib.hid ⟨i + 1, m9, kd9, rfl, hC9, HF8.out.trans hf9 (fun q hq => .inl hq), hkd9, fun q hq hh => hinv9 q (fun hm => hq (by rw [HPP.out]; exact List.mem_cons_of_mem _ (HNONE.out q (by rw [HPR.out]; exact List.mem_append_left _ hm)).2)) (INVI.out q hq hh), .inl ⟨HLT.out, P2, HKA2.out, HND2.out, fun p hp => by
                  have := HNONE.out p (by rw [HPR.out]; exact List.mem_append_right _ hp)
                  exact ⟨hinv9 p (HND3.out p hp) this.1, this.2⟩, by have := HLENR.out; rw [HPR.out, List.length_append] at this; omega⟩⟩
                clear hC9 hf9 hkd9 hinv9 hlen9
                go_wp2_with fail
                go_roundw
                case rel => exact HX.out
                case measure => simp [intOf]; omega
              ·
                have hIL : i = n.l.length := by omega
                obtain ⟨E1, hsub⟩ := kidsB_last HKA1.out hIL
                have hltI : ¬ ((i : Nat) : Int) < ((n.l.length : Nat) : Int) := by omega
                have HSUB := Lib.hid hsub; have HIL := Lib.hid hIL; have HUP := Lib.hid hto
                clear hsub hIL hlt hto
                go_wp2_with fail
                refine (child_nd HNI.out hil (by have := HFEW.out; omega)).mono ?_
                rintro e w8 ⟨rfl, hf8⟩
                have C8 := Lib.hid (CI.out.quiet hf8)
                have HREC := Lib.hid (HIH.out _ (deep + 1) _ _ _ PR m' kd' (.slice Af xj.key.length cf) tv w8 (by have := HDK.out; omega) (by omega) HK.out HSUB.out HNDR.out (fun p hp => (HNONE.out p hp).1) (by have := HLENR.out; have := HML.out; omega) C8.out (HFK.out.fr hf8 (by simp)) (HUP.out.fr hf8 (by simp)) KDI.out)
                have HF8 := Lib.hid (FI.out.trans hf8 (by simp))
                clear hf8
                go_wp2_with fail
                refine HREC.out.mono ?_
                rintro e w9 ⟨m9, kd9, rfl, hC9, hf9, hkd9, hinv9, hlen9⟩
                have HX : Hid (∃ (i' : Nat) (m'' : List (Nat × Value)) (kd'' : Nat), Value.int .i64 ((i : Int) + 1) = .int .i64 (i' : Int) ∧ Cst wS g bc bn bs bk bm D c m'' kd'' w9 ∧ Fr [bk, bm] w5 w9 ∧ (kd'' = 0 ∨ kd'' = K) ∧ CLeft c h n lo hi P P' m i' m'') := Lib.hid ⟨i + 1, m9, kd9, rfl, hC9, HF8.out.trans hf9 (fun q hq => .inl hq), hkd9, fun q hq hh => hinv9 q (fun hm => hq (by rw [HPP.out]; exact List.mem_cons_of_mem _ (HNONE.out q hm).2)) (INVI.out q hq hh), .inr ⟨by rw [HIL.out], by have := HLENR.out; omega⟩⟩
                clear hC9 hf9 hkd9 hinv9 hlen9
                go_wp2_with fail
                go_roundw
                case rel => exact HX.out
                case measure => simp [intOf]; omega
          · subst hi1
            have hgt : ¬ (((n.l.length + 1 : Nat)) : Int) ≤ ((n.l.length : Nat) : Int) := by omega
            have HX := Lib.hid (HQ.out (.returned (.bool true)) wr ⟨m', kd', rfl, CI.out, HF6.out.trans FI.out fun q hq => .inl hq, KDI.out, INVI.out, hlenE⟩)
            go_wp2_with fail
            exact HX.out
end
end Go.Proofs.YtpjbdpepofnleaaGreat
end
