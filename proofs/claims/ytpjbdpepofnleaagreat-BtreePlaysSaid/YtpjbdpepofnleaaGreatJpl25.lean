/-
  Joined by join.py: Qx Qy Qz Ya Yc Ye
-/
import Derived.WalkLawsBesides
import Derived.Laws.IdiomStrings
import Derived.Test.YtpjbdpepofnleaaGreatJpl24
set_option maxRecDepth 100000
set_option maxHeartbeats 32000000
namespace Go.Proofs.YtpjbdpepofnleaaGreat
section
open Go.RowKit Go.ChangeMaps Go.MapKept Go.Maps Go.Sort Go.Shelf
theorem insA_len {α : Type} (x : Nat × α) : ∀ m : List (Nat × α), (insA x m).length = m.length + 1
 | [] => rfl
 | y :: m => by
  unfold insA
  split
  ·rfl
  ·rw [List.length_cons, insA_len x m, List.length_cons]
theorem putA_len {α : Type} (m : List (Nat × α)) (k : Nat) (b : α) : (putA m k b).length <= m.length + 1 := by
 unfold putA; rw [insA_len]; have := List.length_filter_le (fun p : Nat × α => !decide (p.1 = k)) m; omega
def CLeft (c : CD) (h : Nat) (n : Nd) (lo hi : Option Ky) (P P' : List Nat) (m : List (Nat × Value)) (i : Nat) (m' : List (Nat × Value)) : Prop :=
 (∀ q, q ∉ P -> getA m q = none -> getA m' q = none) /\
 ((i <= n.l.length /\ ∃ PR, KidsB c.N h n i lo hi PR /\ PR.Nodup /\ (∀ p ∈ PR, getA m' p = none /\ p ∈ P') /\ m'.length + PR.length <= m.length + P.length) ∨ (i = n.l.length + 1 /\ m'.length <= m.length + P.length))
def CGoal (wS : World) (g bc bn bs bk bm : Nat) (D : Nat -> Prop) (c : CD) (K h : Nat) : Prop := ∀ (k deep : Nat) (lo hi : Option Ky) (E : En) (P : List Nat) (m : List (Nat × Value)) (kd : Nat) (fv tv : Value) (w : World), deep + h = K -> 1 <= deep -> K <= 40 ->
 Sub c.N 1 h k lo hi E P -> P.Nodup -> (∀ p ∈ P, getA m p = none) -> m.length + P.length <= 100000 -> Cst wS g bc bn bs bk bm D c m kd w -> FromK D w fv lo -> UpK D w tv hi -> (kd = 0 ∨ kd = K) ->
 Calls Tryz.prog 43 #[.pointer (some ⟨bk, 0, none⟩), .int .i64 (k : Int), .int .i64 (deep : Int), fv, tv] w (CEnd wS g bc bn bs bk bm D c K m w P)
section
variable {w0 wS : World} {dk g bc bn bs bk bm K : Nat} {s : PS} {X D : Nat -> Prop} {c : CD}
theorem check_step (hp : PgC w0 wS dk g s X c) (h : Nat) (ih : ∀ h' < h, CGoal wS g bc bn bs bk bm D c K h') : CGoal wS g bc bn bs bk bm D c K h := by
 intro k deep lo hi E P m kd fv tv w hdk hd1 hK hs hnd hmet hml hC hfr hto hkd; obtain ⟨n, P', hN, hok, hsz, hm1, hPP, hnf⟩ := hs; have hfew := items_few hsz; obtain ⟨hkr, hin⟩ := nf_keys hnf; have hkn := (hC.ch.wf.N_ok hN).1; have hn4 := hC.ch.wf.n; have hd40 : ¬ (40 : Int) < ((deep : Nat) : Int) := by omega
 have hl0 : ¬ ((n.l.length : Nat) : Int) = 0 := by omega
 have hl0n : ¬ n.l.length = 0 := by omega
 have hl0b : (((n.l.length : Nat) : Int) == 0) = false := by simpa using hl0
 have hd40n : ¬ 40 < deep := by omega
 have hkb : k <= 9223372036854775807 := by omega
 have hmk : getA m k = none := hmet k (by rw [hPP]; exact List.mem_cons_self ..); have c0 := hC.blk.at_ (i := 0) rfl; have HNC := lh (node_ch hp hC.ch hN hC.top); have C1 := lh hC; have HN := lh hN; have HOK := lh hok; have HFEW := lh hfew; have HDK := lh hdk; have HD1 := lh hd1; have HK := lh hK; have HPP := lh hPP; have HNF := lh hnf; have HND := lh hnd; have HMET := lh hmet; have HML := lh hml; have HFR := lh hfr; have HTO := lh hto; have HKD := lh hkd; have HKR := lh hkr; have HIN := lh hin; have HMK := lh hmk; have HM1 := lh hm1; have HKB := lh hkb; have HPC := lh hp; clear hN hok hsz hm1 hPP hnf hfew hkr hin hkn hn4 hmk hC hdk hd1 hK hnd hmet hml hfr hto hkd; refine calls_post fun R HQ => ?_
 go_enter Tryz.func43, Tryz.ntmps43
 go_wp2_with fail; refine HNC.out.mono ?_; rintro e w2 ⟨nv, rfl, hnv, hf2⟩; obtain ⟨A, ca, cs0, rfl, _⟩ := hnv.open_; have C2 := lh (C1.out.quiet hf2); have HNV := lh (hnv.low (Nat.zero_le _)); have HF2 := lh hf2; clear hnv hf2 HNC c0
 go_wp2_with (first
  | (with_reducible refine wpList_alloc_z rfl 88 rfl (.agg #[.int .i64 0, .int .i64 0, .slice none 0 0]) znd.toArray zero_nd rfl ?_)
  | (refine wpList_store_z (W := w2) rfl 88 (.tmp 11) (.tmp 25) rfl [.int .i64 (kindOf n), .int .i64 (n.first : Int), .slice A n.l.length ca] rfl rfl rfl size_nd rfl three_cells ?_))
 intro w3 hb3 hf3 hz3; obtain ⟨p11, hp11⟩ := nm (w2.heap.size); rw [<- hp11] at hb3 ⊢; have HP11 : Hid (p11 ≠ bk /\ p11 ≠ bm) := lh ⟨by have := C2.out.blk.lt; omega, by have := C2.out.met.lt; omega⟩; have C3 := lh (C2.out.quiet hf3); have HNV3 := lh (HNV.out.fr hf3 (by simp)); have HF3 := lh (HF2.out.trans hf3 (by simp)); have B3 := lh hb3; clear hf3 hb3 hz3 hp11 C2 HNV HF2; have b1 := C3.out.blk.at_ (i := 1) rfl; have d2 := B3.out.at_ (i := 2) rfl; have hlk := C3.out.met.look Tryz.underlying106 (zero_bool w3) (k := k) hkb; rw [HMK.out] at hlk; simp only [Option.getD_none] at hlk; obtain ⟨w4, hup, hm4, hf4, hz4⟩ := C3.out.met.store Tryz.underlying106 (k := k) hkb (by have := HML.out; omega) (.bool true); have C4 := lh (C3.out.to (hf4.mono (by simp)) (C3.out.blk.fr hf4 (by have := C3.out.hb.1; simp; exact this)) hm4); have HF4 : Hid (Fr [bk, bm] w w4) := lh ((HF3.out.mono (by simp)).trans hf4 fun q hq => .inl (by simp at hq ⊢; exact .inr hq)); have HNV4 := lh (HNV3.out.fr (hf4.mono (T := [bk, bm]) (by simp)) C3.out.off); have B4 := lh (B3.out.fr hf4 (by simpa using HP11.out.2)); have d2' := B4.out.at_ (i := 2) rfl; clear hm4 hf4 hz4; go_wp2_with fail; clear b1 d2 hlk hup C3 HNV3 HF3 B3; obtain ⟨A2, ca2, cs, hv2, hca2, hown, hits, hcell⟩ := HNV4.out.parts; obtain ⟨rfl, rfl⟩ : A = A2 /\ ca = ca2 := by injection hv2 with h; simp at h; exact h
 obtain ⟨gr, rfl, hcg⟩ := hcell (by have := HM1.out; omega); have HITS := lh hits; have HCG := lh hcg; clear hv2 hca2 hown hits hcell hcg
 go_loopw [55] (fun v wr => ∃ i : Nat, i <= n.l.length /\ v = .int .i64 (i : Int) /\ Fr [] w4 wr) (fun v _ => n.l.length - (intOf v).toNat)
 case atStart => exact ⟨0, Nat.zero_le _, rfl, Fr.refl _ _⟩
 case round =>
  obtain ⟨i, hile, rfl, hfr⟩ := hrel; have HFW := lh hfr; clear hfr d2'
  by_cases hlt : i < n.l.length
  ·obtain ⟨x, hx⟩ := gx hlt; have hxm := List.mem_of_getElem? hx; obtain ⟨kv, vv, av, e0, e1, e2, hic⟩ := HITS.out.at_ hx; have i0 := fr_keep HFW.out (HCG.out _ _ e0); have i1 := fr_keep HFW.out (HCG.out _ _ e1); have i2 := fr_keep HFW.out (HCG.out _ _ e2); have hic' := hic.fr HFW.out (by simp); have HON := lh hic'.one; obtain ⟨⟨gk, hgk, _⟩, ⟨gv, hgv, _⟩, hav⟩ := hic'; have HBK := lh hgk; obtain ⟨Ak, ck, _, rfl, _, _⟩ := hgk; obtain ⟨Aw, cw, _, rfl, _, _⟩ := hgv; subst hav; have HXIN := lh (HIN.out x hxm); have HXX := lh hx; have d2 := (B4.out.fr HFW.out (by simp)).at_ (i := 2) rfl; have hw1 := wi i (by have := HFEW.out; omega)
   clear hxm e0 e1 e2 hic hx
   go_wp2_with (first
    | (with_reducible refine wpList_alloc_z rfl 77 rfl (.agg #[.slice none 0 0, .slice none 0 0, .int .i64 0]) zit.toArray zero_it rfl ?_)
    | (refine wpList_store_z (W := wr) rfl 77 (.tmp 14) (.tmp 59) rfl [.slice Ak x.key.length ck, .slice Aw x.v.length cw, .int .i64 (x.at_ : Int)] rfl rfl rfl size_it rfl HON.out ?_))
   intro w5 hb5 hf5 hz5; obtain ⟨p14, hp14⟩ := nm (wr.heap.size); rw [<- hp14] at hb5 ⊢; have HF5 := lh (HFW.out.trans hf5 (by simp)); have HBK5 := lh ((HBK.out.fr hf5 (by simp)).fr ((Fr.refl [] w5).drew) (by simp)); have k0 := (hb5.fr ((Fr.refl [] w5).drew) (by simp)).at_ (i := 0) rfl; have d2 := (B4.out.fr (HF5.out.drew) (by simp)).at_ (i := 2) rfl; obtain ⟨qf, hqf, _⟩ := (HFR.out.fr HF4.out C1.out.off).fr HF5.out.drew (by simp); have HFQ := lh hqf; have hto5 := (HTO.out.fr HF4.out C1.out.off).fr HF5.out.drew (by simp)
   have hc1d : decide (Lib.compareBytes x.key (lo.getD []) < 0) = false := by
    refine decide_eq_false ?_
    cases hlo : lo with
    | none => exact fun h => absurd h (by have := cmp_cases x.key []; cases hkk : x.key <;> simp [Lib.compareBytes])
    | some a => exact HXIN.out.1 a hlo
   have HX6 : Hid (∃ j : Nat, j <= n.l.length /\ Value.int .i64 ((i : Int) + 1) = .int .i64 (j : Int) /\ Fr [] w4 w5.drew) := lh ⟨i + 1, hlt, rfl, HF5.out.drew⟩; clear hb5 hf5 hz5 i0 i1 i2 hqf HBK hp14; go_upto_region 8 with fail
   rcases Nat.eq_zero_or_pos i with hi0 | hip
   ·subst hi0; have k3 := True.intro
    cases hi
    case' none =>
     have htv : tv = .slice none 0 0 := hto5; subst htv; refine wp_region_K (fun W => W.cell? ⟨p14, 0, none⟩ = some (.slice Ak x.key.length ck) /\ W.cell? ⟨p11, 2, none⟩ = some (.slice (some ⟨gr, 0, none⟩) n.l.length ca) /\ True) [0, 1, 2, 3, 5, 6, 7, 8, 9, 10, 11, 12, 13, 14, 15, 16, 17, 18, 19, 20, 21, 22, 23, 24, 25, 26, 27, 28, 29, 30, 31, 32, 33, 34, 35, 36] (by kernel_rfl) ?_; refine tks [0, 1, 2, 3] ?_
     iterate 4 (refine tk rfl rfl ⟨k0, d2, k3⟩ rfl (fun _ hW => by (obtain ⟨q0, q1, q2⟩ := hW; go_simp) <;> with_reducible rfl) ?_; simp only [nrm])
     refine tke ?_; refine sp 4 rfl rfl rfl fun K hK => ?_; refine wp_call_f (l := [.tmp 62, .tmp 63]) rfl [.slice Ak x.key.length ck, fv] rfl (enter_compare _) ((bytes_compare HBK5.out HFQ.out).mono ?_); rintro e w6 ⟨rfl, rfl⟩; refine ⟨_, rfl, hK _ _ (fun _ => ⟨k0, d2, k3⟩) ?_⟩; simp only [nrm]; clear hK; refine tks [5, 6, 7] ?_
     iterate 3 (refine tk rfl rfl ⟨k0, d2, k3⟩ rfl (fun _ hW => by (obtain ⟨q0, q1, q2⟩ := hW; go_simp) <;> with_reducible rfl) ?_; simp only [nrm])
     refine tke ?_; refine _root_.Go.Proofs.YtpjbdpepofnleaaGreat.tv 8 (.bool false) rfl rfl ⟨k0, d2, k3⟩ (.inl ⟨rfl, fun W' _ => by simp [execOp, Act.eval, Result.andThen, go_sem, Tryz.underlying23]⟩) ?_; simp only [nrm]; refine tks [9] ?_; refine tk rfl rfl ⟨k0, d2, k3⟩ rfl (fun _ hW => by (obtain ⟨q0, q1, q2⟩ := hW; go_simp) <;> with_reducible rfl) ?_; simp only [nrm]; refine tke ?_; refine tks [10, 11, 12, 13, 14, 15] ?_
     iterate 6 (refine tu rfl rfl ⟨k0, d2, k3⟩ rfl ?_; simp only [nrm])
     refine tke ?_
    case' some b =>
     obtain ⟨ta, tm, tc, tq, htv, htb, _⟩ := hto5; subst htv; have HTB := lh htb; have hkb' : Lib.compareBytes x.key b < 0 := HXIN.out.2 b rfl; clear htb; refine wp_region_K (fun W => W.cell? ⟨p14, 0, none⟩ = some (.slice Ak x.key.length ck) /\ W.cell? ⟨p11, 2, none⟩ = some (.slice (some ⟨gr, 0, none⟩) n.l.length ca) /\ True) [0, 1, 2, 3, 5, 6, 7, 8, 9, 10, 11, 12, 13, 15, 16, 17, 18, 19, 20, 21, 22, 23, 24, 25, 26, 27, 28, 29, 30, 31, 32, 33, 34, 35, 36] (by kernel_rfl) ?_; refine tks [0, 1, 2, 3] ?_
     iterate 4 (refine tk rfl rfl ⟨k0, d2, k3⟩ rfl (fun _ hW => by (obtain ⟨q0, q1, q2⟩ := hW; go_simp) <;> with_reducible rfl) ?_; simp only [nrm])
     refine tke ?_; refine sp 4 rfl rfl rfl fun K hK => ?_; refine wp_call_f (l := [.tmp 62, .tmp 63]) rfl [.slice Ak x.key.length ck, fv] rfl (enter_compare _) ((bytes_compare HBK5.out HFQ.out).mono ?_); rintro e w6 ⟨rfl, rfl⟩; refine ⟨_, rfl, hK _ _ (fun _ => ⟨k0, d2, k3⟩) ?_⟩; simp only [nrm]; clear hK; refine tks [5, 6, 7] ?_
     iterate 3 (refine tk rfl rfl ⟨k0, d2, k3⟩ rfl (fun _ hW => by (obtain ⟨q0, q1, q2⟩ := hW; go_simp) <;> with_reducible rfl) ?_; simp only [nrm])
     refine tke ?_; refine _root_.Go.Proofs.YtpjbdpepofnleaaGreat.tv 8 (.bool true) rfl rfl ⟨k0, d2, k3⟩ (.inl ⟨rfl, fun W' _ => by simp [execOp, Act.eval, Result.andThen, go_sem, Tryz.underlying23]⟩) ?_; simp only [nrm]; refine tks [9, 10, 11, 12, 13] ?_
     iterate 5 (refine tk rfl rfl ⟨k0, d2, k3⟩ rfl (fun _ hW => by (obtain ⟨q0, q1, q2⟩ := hW; go_simp) <;> with_reducible rfl) ?_; simp only [nrm])
     refine tke ?_; refine wpAnyK_stepg (j := 14) (some 74) rfl rfl (by kernel_rfl) rfl fun K hK => ?_; refine wp_call_f (l := [.tmp 72, .tmp 73]) rfl [.slice Ak x.key.length ck, .slice (some ta) tm tc] rfl (enter_compare _) ((bytes_compare HBK5.out HTB.out).mono ?_); rintro e w7 ⟨rfl, rfl⟩; refine ⟨_, rfl, hK _ _ (fun _ => ⟨k0, d2, k3⟩) ?_⟩; simp only [nrm]; clear hK; refine _root_.Go.Proofs.YtpjbdpepofnleaaGreat.tv 15 (.bool false) rfl rfl ⟨k0, d2, k3⟩ (.inl ⟨rfl, fun W' _ => by first | (simp [execOp, Act.eval, go_sem, hkb']; done) | (simp [execOp, Act.eval, Result.andThen, go_sem]; omega)⟩) ?_; simp only [nrm]
    all_goals
     refine tks [16, 17, 18, 19] ?_
     iterate 4 (refine tk rfl rfl ⟨k0, d2, k3⟩ rfl (fun _ hW => by (obtain ⟨q0, q1, q2⟩ := hW; go_simp) <;> with_reducible rfl) ?_; simp only [nrm])
     refine tke ?_; refine _root_.Go.Proofs.YtpjbdpepofnleaaGreat.tv 20 (.bool false) rfl rfl ⟨k0, d2, k3⟩ (.inl ⟨rfl, fun W' _ => by simp [execOp, Act.eval, go_sem]⟩) ?_; simp only [nrm]; refine tks [21] ?_; refine tk rfl rfl ⟨k0, d2, k3⟩ rfl (fun _ hW => by (obtain ⟨q0, q1, q2⟩ := hW; go_simp) <;> with_reducible rfl) ?_; simp only [nrm]; refine tke ?_; refine tks [22, 23, 24, 25, 26, 27, 28, 29, 30, 31, 32, 33, 34] ?_
     iterate 13 (refine tu rfl rfl ⟨k0, d2, k3⟩ rfl ?_; simp only [nrm])
     refine tke ?_; refine tks [35, 36] ?_
     iterate 2 (refine tk rfl rfl ⟨k0, d2, k3⟩ rfl (fun _ hW => by (obtain ⟨q0, q1, q2⟩ := hW; go_simp) <;> with_reducible rfl) ?_; simp only [nrm])
     refine tke ?_; refine wd ?_ _; go_wp2_with fail
     go_roundw
     case rel => exact HX6.out
     case measure => simp [intOf]; omega
   ·obtain ⟨j, hij⟩ : ∃ j, i = j + 1 := ⟨i - 1, by omega⟩; obtain ⟨xj, hxj⟩ : ∃ xj, n.l[j]? = some xj := gx (by omega); have hkj : Lib.compareBytes xj.key x.key < 0 := krise_at HKR.out hxj (by rw [<- hij]; exact HXX.out); obtain ⟨kj, vj, aj, ej, _, _, hicj⟩ := HITS.out.at_ hxj; have hbj0 := hicj.fr HF5.out.drew (by simp); obtain ⟨⟨gj, hgj, _⟩, _, _⟩ := hbj0; have HBJ := lh hgj; obtain ⟨Aj, cj, _, rfl, _, _⟩ := hgj; have k3 := fr_keep HF5.out.drew (HCG.out _ _ ej); have hjl : ((j : Nat) : Int) < ((n.l.length : Nat) : Int) := by omega
    have hwj : IntKind.i64.wrap ((i : Int) - 1) = (j : Int) := by have := HFEW.out; rw [IntKind.wrap_i64]; omega
    have hipI : (0 : Int) < (i : Int) := by omega
    have HIJ := lh hij; clear hxj ej hicj hij
    cases hi
    case' none =>
     have htv : tv = .slice none 0 0 := hto5; subst htv; refine wp_region_K (fun W => W.cell? ⟨p14, 0, none⟩ = some (.slice Ak x.key.length ck) /\ W.cell? ⟨p11, 2, none⟩ = some (.slice (some ⟨gr, 0, none⟩) n.l.length ca) /\ W.cell? ⟨gr, j * 3, none⟩ = some (.slice Aj xj.key.length cj)) [0, 1, 2, 3, 5, 6, 7, 8, 9, 10, 11, 12, 13, 14, 15, 16, 17, 18, 19, 20, 21, 22, 23, 24, 25, 26, 27, 28, 29, 30, 31, 32, 34, 35, 36] (by kernel_rfl) ?_; refine tks [0, 1, 2, 3] ?_
     iterate 4 (refine tk rfl rfl ⟨k0, d2, k3⟩ rfl (fun _ hW => by (obtain ⟨q0, q1, q2⟩ := hW; go_simp) <;> with_reducible rfl) ?_; simp only [nrm])
     refine tke ?_; refine sp 4 rfl rfl rfl fun K hK => ?_; refine wp_call_f (l := [.tmp 62, .tmp 63]) rfl [.slice Ak x.key.length ck, fv] rfl (enter_compare _) ((bytes_compare HBK5.out HFQ.out).mono ?_); rintro e w6 ⟨rfl, rfl⟩; refine ⟨_, rfl, hK _ _ (fun _ => ⟨k0, d2, k3⟩) ?_⟩; simp only [nrm]; clear hK; refine tks [5, 6, 7] ?_
     iterate 3 (refine tk rfl rfl ⟨k0, d2, k3⟩ rfl (fun _ hW => by (obtain ⟨q0, q1, q2⟩ := hW; go_simp) <;> with_reducible rfl) ?_; simp only [nrm])
     refine tke ?_; refine _root_.Go.Proofs.YtpjbdpepofnleaaGreat.tv 8 (.bool false) rfl rfl ⟨k0, d2, k3⟩ (.inl ⟨rfl, fun W' _ => by simp [execOp, Act.eval, Result.andThen, go_sem, Tryz.underlying23]⟩) ?_; simp only [nrm]; refine tks [9] ?_; refine tk rfl rfl ⟨k0, d2, k3⟩ rfl (fun _ hW => by (obtain ⟨q0, q1, q2⟩ := hW; go_simp) <;> with_reducible rfl) ?_; simp only [nrm]; refine tke ?_; refine tks [10, 11, 12, 13, 14, 15] ?_
     iterate 6 (refine tu rfl rfl ⟨k0, d2, k3⟩ rfl ?_; simp only [nrm])
     refine tke ?_
    case' some b =>
     obtain ⟨ta, tm, tc, tq, htv, htb, _⟩ := hto5; subst htv; have HTB := lh htb; have hkb' : Lib.compareBytes x.key b < 0 := HXIN.out.2 b rfl; clear htb; refine wp_region_K (fun W => W.cell? ⟨p14, 0, none⟩ = some (.slice Ak x.key.length ck) /\ W.cell? ⟨p11, 2, none⟩ = some (.slice (some ⟨gr, 0, none⟩) n.l.length ca) /\ W.cell? ⟨gr, j * 3, none⟩ = some (.slice Aj xj.key.length cj)) [0, 1, 2, 3, 5, 6, 7, 8, 9, 10, 11, 12, 13, 15, 16, 17, 18, 19, 20, 21, 22, 23, 24, 25, 26, 27, 28, 29, 30, 31, 32, 34, 35, 36] (by kernel_rfl) ?_; refine tks [0, 1, 2, 3] ?_
     iterate 4 (refine tk rfl rfl ⟨k0, d2, k3⟩ rfl (fun _ hW => by (obtain ⟨q0, q1, q2⟩ := hW; go_simp) <;> with_reducible rfl) ?_; simp only [nrm])
     refine tke ?_; refine sp 4 rfl rfl rfl fun K hK => ?_; refine wp_call_f (l := [.tmp 62, .tmp 63]) rfl [.slice Ak x.key.length ck, fv] rfl (enter_compare _) ((bytes_compare HBK5.out HFQ.out).mono ?_); rintro e w6 ⟨rfl, rfl⟩; refine ⟨_, rfl, hK _ _ (fun _ => ⟨k0, d2, k3⟩) ?_⟩; simp only [nrm]; clear hK; refine tks [5, 6, 7] ?_
     iterate 3 (refine tk rfl rfl ⟨k0, d2, k3⟩ rfl (fun _ hW => by (obtain ⟨q0, q1, q2⟩ := hW; go_simp) <;> with_reducible rfl) ?_; simp only [nrm])
     refine tke ?_; refine _root_.Go.Proofs.YtpjbdpepofnleaaGreat.tv 8 (.bool true) rfl rfl ⟨k0, d2, k3⟩ (.inl ⟨rfl, fun W' _ => by simp [execOp, Act.eval, Result.andThen, go_sem, Tryz.underlying23]⟩) ?_; simp only [nrm]; refine tks [9, 10, 11, 12, 13] ?_
     iterate 5 (refine tk rfl rfl ⟨k0, d2, k3⟩ rfl (fun _ hW => by (obtain ⟨q0, q1, q2⟩ := hW; go_simp) <;> with_reducible rfl) ?_; simp only [nrm])
     refine tke ?_; refine wpAnyK_stepg (j := 14) (some 74) rfl rfl (by kernel_rfl) rfl fun K hK => ?_; refine wp_call_f (l := [.tmp 72, .tmp 73]) rfl [.slice Ak x.key.length ck, .slice (some ta) tm tc] rfl (enter_compare _) ((bytes_compare HBK5.out HTB.out).mono ?_); rintro e w7 ⟨rfl, rfl⟩; refine ⟨_, rfl, hK _ _ (fun _ => ⟨k0, d2, k3⟩) ?_⟩; simp only [nrm]; clear hK; refine _root_.Go.Proofs.YtpjbdpepofnleaaGreat.tv 15 (.bool false) rfl rfl ⟨k0, d2, k3⟩ (.inl ⟨rfl, fun W' _ => by first | (simp [execOp, Act.eval, go_sem, hkb']; done) | (simp [execOp, Act.eval, Result.andThen, go_sem]; omega)⟩) ?_; simp only [nrm]
    all_goals
     refine tks [16, 17, 18, 19] ?_
     iterate 4 (refine tk rfl rfl ⟨k0, d2, k3⟩ rfl (fun _ hW => by (obtain ⟨q0, q1, q2⟩ := hW; go_simp) <;> with_reducible rfl) ?_; simp only [nrm])
     refine tke ?_; refine _root_.Go.Proofs.YtpjbdpepofnleaaGreat.tv 20 (.bool true) rfl rfl ⟨k0, d2, k3⟩ (.inl ⟨rfl, fun W' _ => by first | (simp [execOp, Act.eval, go_sem]; done) | (simp [execOp, Act.eval, go_sem]; omega)⟩) ?_; simp only [nrm]; refine tks [21, 22, 23, 24, 25, 26, 27, 28, 29, 30, 31, 32] ?_
     iterate 12 (refine tk rfl rfl ⟨k0, d2, k3⟩ rfl (fun _ hW => by (obtain ⟨q0, q1, q2⟩ := hW; go_simp) <;> with_reducible rfl) ?_; simp only [nrm])
     refine tke ?_; refine wpAnyK_stepg (j := 33) (some 93) rfl rfl (by kernel_rfl) rfl fun K hK => ?_; refine wp_call_f (l := [.tmp 89, .tmp 92]) rfl [.slice Aj xj.key.length cj, .slice Ak x.key.length ck] rfl (enter_compare _) ((bytes_compare HBJ.out HBK5.out).mono ?_); rintro e w8 ⟨rfl, rfl⟩; refine ⟨_, rfl, hK _ _ (fun _ => ⟨k0, d2, k3⟩) ?_⟩; simp only [nrm]; clear hK; refine _root_.Go.Proofs.YtpjbdpepofnleaaGreat.tv 34 (.bool false) rfl rfl ⟨k0, d2, k3⟩ (.inl ⟨rfl, fun W' _ => by first | (simp [execOp, Act.eval, go_sem, hkj]; done) | (simp [execOp, Act.eval, Result.andThen, go_sem]; omega)⟩) ?_; simp only [nrm]; refine tks [35, 36] ?_
     iterate 2 (refine tk rfl rfl ⟨k0, d2, k3⟩ rfl (fun _ hW => by (obtain ⟨q0, q1, q2⟩ := hW; go_simp) <;> with_reducible rfl) ?_; simp only [nrm])
     refine tke ?_; refine wd ?_ _; go_wp2_with fail
     go_roundw
     case rel => exact HX6.out
     case measure => simp [intOf]; omega
  ·obtain rfl : i = n.l.length := by omega
   have C5 := lh (C4.out.quiet HFW.out); have HNV5 := lh (HNV4.out.fr HFW.out (by simp)); have B5 := lh (B4.out.fr HFW.out (by simp)); have HF5 : Hid (Fr [bk, bm] w wr) := lh (HF4.out.trans HFW.out (by simp)); have d0 := B5.out.at_ (i := 0) rfl; have d1 := B5.out.at_ (i := 1) rfl; have d2 := B5.out.at_ (i := 2) rfl; clear C4 HNV4 B4; go_wp2_with fail; refine (leaf_nd n).mono ?_; rintro e w5 ⟨rfl, hf5⟩; have C6 := lh (C5.out.quiet hf5); have HNV6 := lh (HNV5.out.fr hf5 (by simp)); have B6 := lh (B5.out.fr hf5 (by simp)); have HF6 : Hid (Fr [bk, bm] w w5) := lh (HF5.out.trans hf5 (by simp)); have HF45 := lh (HFW.out.trans hf5 (by simp)); clear hf5 d0 d1 d2 C5 HNV5 B5 HF5 HFW; have hlen1 : (putA m k (.bool true)).length <= m.length + 1 := putA_len ..; have hget1 : ∀ q, getA (putA m k (.bool true)) q = if q = k then some (.bool true) else getA m q := fun q => getA_put ..
   have HLEN1 := lh hlen1; have HGET1 := lh hget1; clear hlen1 hget1
   cases h with
   | zero =>
    obtain ⟨hlf, _, hP0, _⟩ := HNF.out; rw [hlf]; have hdK : deep = K := by have := HDK.out; omega
    have c2 := C6.out.blk.at_ (i := 2) rfl; have HP0 := lh hP0; have HDKK := lh hdK; have hinv : ∀ q, q ∉ P -> getA m q = none -> getA (putA m k (.bool true)) q = none := fun q hq h => by rw [HGET1.out, if_neg (fun e => hq (by rw [HPP.out, e]; exact List.mem_cons_self ..)), h]
    have HINV := lh hinv; have HLENP : Hid ((putA m k (.bool true)).length <= m.length + P.length) := lh (by have := HLEN1.out; rw [HPP.out]; simp only [List.length_cons]; omega); clear hlf hP0 hdK hinv; rcases HKD.out with hk0 | hk0
    ·have hk0I : ((kd : Nat) : Int) = 0 := by omega
     have HK0 := lh hk0; rw [hk0] at c2; have bf := C6.out.blk.free 2; have bl := C6.out.blk.lt; have hfs : Fr [bk] w5 (w5.setCell ⟨bk, 2, none⟩ (.int .i64 (deep : Int))) := (Fr.refl [bk] w5).setCell (.inl (by simp)) _; have C7 := lh (C6.out.to (kd' := deep) (hfs.mono (by simp)) (C6.out.blk.set_ 2 (.int .i64 (deep : Int))) (C6.out.met.fr hfs (by have := C6.out.hb.1; simp; omega))); have c2' := C7.out.blk.at_ (i := 2) rfl; have HX := lh (HQ.out (.returned (.bool true)) _ ⟨_, deep, rfl, C7.out, HF6.out.trans (hfs.mono (T := [bk, bm]) (by simp)) fun q hq => .inl hq, .inr HDKK.out, HINV.out, HLENP.out⟩); clear hk0 hk0I hfs; go_wp2_with fail; exact HX.out
    ·have hk1 : ¬ ((kd : Nat) : Int) = 0 := by have := HD1.out; have := HDKK.out; omega
     have hkd2 : kd = deep := by rw [hk0, HDKK.out]
     subst hkd2; have HK0 := lh hk0; have HX := lh (HQ.out (.returned (.bool true)) w5 ⟨_, kd, rfl, C6.out, HF6.out, .inr hk0, HINV.out, HLENP.out⟩); clear hk0; go_wp2_with fail; exact HX.out
   | succ h =>
    obtain ⟨hlf, hKk⟩ := HNF.out; rw [hlf]; have hKk' : Kids (Sub c.N 1 h) lo n.first n.l hi E P' := hKk; have hKB : KidsB c.N h n 0 lo hi P' := ⟨E, hKk'⟩; have hnd' := HND.out; rw [HPP.out] at hnd'; obtain ⟨hkP, hndP⟩ := List.nodup_cons.1 hnd'
    have hL0 : CLeft c h n lo hi P P' m 0 (putA m k (.bool true)) := by
     refine ⟨fun q hq h => by rw [HGET1.out, if_neg (fun e => hq (by rw [HPP.out, e]; exact List.mem_cons_self ..)), h], .inl ⟨Nat.zero_le _, P', hKB, hndP, fun p hp => ⟨?_, hp⟩, ?_⟩⟩
     ·rw [HGET1.out, if_neg (fun e => hkP (by rw [<- e]; exact hp))]; exact HMET.out p (by rw [HPP.out]; exact List.mem_cons_of_mem _ hp)
     ·have := HLEN1.out; rw [HPP.out]; simp only [List.length_cons]; omega
    have HL0 := lh hL0; have HIH := lh (ih h (Nat.lt_succ_self h)); clear hlf hKk hKk' hKB hnd' hkP hndP hL0; go_wp2_with fail
    go_loopw [15] (fun v wr => ∃ (i : Nat) (m' : List (Nat × Value)) (kd' : Nat), v = .int .i64 (i : Int) /\ Cst wS g bc bn bs bk bm D c m' kd' wr /\ Fr [bk, bm] w5 wr /\ (kd' = 0 ∨ kd' = K) /\ CLeft c h n lo hi P P' m i m') (fun v _ => n.l.length + 1 - (intOf v).toNat)
    case atStart => exact ⟨0, _, kd, rfl, C6.out, Fr.refl _ _, HKD.out, HL0.out⟩
    case round =>
     obtain ⟨i, m', kd', rfl, hCi, hFi, hkdi, hinvi, hLi⟩ := hrel; have CI := lh hCi; have FI := lh hFi; have KDI := lh hkdi; have INVI := lh hinvi; have BI := lh (B6.out.fr hFi (by have := HP11.out; simp; exact this)); have HNI := lh (HNV6.out.fr hFi C6.out.off); have d0 := BI.out.at_ (i := 0) rfl; have d1 := BI.out.at_ (i := 1) rfl; have d2 := BI.out.at_ (i := 2) rfl; clear hCi hFi hkdi hinvi; rcases hLi with ⟨hil, PR, hka, hndR, hnone, hlenR⟩ | ⟨hi1, hlenE⟩
     ·have hilI : ((i : Nat) : Int) <= ((n.l.length : Nat) : Int) := by omega
      have HKA1 := lh hka; have HNDR := lh hndR; have HNONE := lh hnone; have HLENR := lh hlenR; clear hka hndR hnone hlenR; have hwd : IntKind.i64.wrap ((deep : Int) + 1) = ((deep + 1 : Nat) : Int) := by have := HDK.out; have := HK.out; rw [IntKind.wrap_i64]; omega
      have hwi := wi i (by have := HFEW.out; omega)
      have hfr := (HFR.out.fr HF6.out C1.out.off).fr FI.out C6.out.off; have hto := (HTO.out.fr HF6.out C1.out.off).fr FI.out C6.out.off
      have hgrD : gr ∉ [bk, bm] := by
       have h1 : D gr := by
        obtain ⟨sv2, cs2, z1, z2, z3, z4⟩ := HNV6.out; refine z4 gr ?_; injection z1 with z1
        simp at z1
        rw [<- z1]; rfl
       have := C6.out.nb gr h1
       simp
       omega
      have hcell : ∀ (jj : Nat) (xx : It), n.l[jj]? = some xx -> ∃ Ax cx, wr.cell? ⟨gr, jj * 3, none⟩ = some (.slice Ax xx.key.length cx) /\ ∃ q, BytesAt wr (.slice Ax xx.key.length cx) xx.key q /\ D q := fun jj xx hxx => by
       obtain ⟨kj, vj, aj, ej, _, _, hicj⟩ := HITS.out.at_ hxx; obtain ⟨⟨gj, hgj, hdj⟩, _, _⟩ := (hicj.fr HF45.out (by simp)).fr FI.out C6.out.off; obtain ⟨Aj, cj, _, rfl, _, _⟩ := id hgj; exact ⟨Aj, cj, fr_keepS FI.out hgrD (fr_keep HF45.out (HCG.out _ _ ej)), gj, hgj, hdj⟩
      have HCELL := lh hcell; clear hcell hgrD; rcases Nat.eq_zero_or_pos i with h0 | h0
      ·have hi0I : ¬ (0 : Int) < (i : Int) := by omega
       have HFK : Hid (FromK D wr fv (loOf lo (n.l.take i))) := lh (by rw [h0]; exact hfr); have H0 := lh h0; clear h0 hfr
       by_cases hlt : i < n.l.length
       ·
        obtain ⟨x, hx⟩ := gx hlt; obtain ⟨Ax, cx, ci, qx, h4, h5⟩ := HCELL.out i x hx; have hltI : ((i : Nat) : Int) < ((n.l.length : Nat) : Int) := by omega
        obtain ⟨E1, P1, P2, hsub, hPR, hka2⟩ := kidsB_next HKA1.out hx
        have HUP : Hid (UpK D wr (.slice Ax x.key.length cx) (some x.key)) := lh (by
         have h6 := h4; obtain ⟨A', c', off, hv, _, hc⟩ := h6; have hk1 := (HOK.out.item x (List.mem_of_getElem? hx)).k1; have h7 := (hc (by omega)).1; injection hv with hv1 hv2 hv3; rw [h7] at hv1; exact ⟨_, _, _, qx, by rw [hv1], h4, h5⟩)
        have HPR := lh hPR; have HKA2 := lh hka2; have HSUB := lh hsub; have HLT := lh hlt; clear hx h4 h5 hPR hka2 hsub hto hlt; go_wp2_with fail; refine (child_nd HNI.out hil (by have := HFEW.out; omega)).mono ?_; rintro e w8 ⟨rfl, hf8⟩; have C8 := lh (CI.out.quiet hf8); have h9 : PR.length = P1.length + P2.length := by rw [HPR.out, List.length_append]
        have hnd := HNDR.out; rw [HPR.out] at hnd; obtain ⟨nd1, nd2, nd3⟩ := List.nodup_append.1 hnd; have HREC := lh (HIH.out _ (deep + 1) _ _ _ P1 m' kd' fv (.slice Ax x.key.length cx) w8 (by have := HDK.out; omega) (by omega) HK.out HSUB.out nd1 (fun p hp => (HNONE.out p (by rw [HPR.out]; exact List.mem_append_left _ hp)).1) (by have := HLENR.out; have := HML.out; omega) C8.out (HFK.out.fr hf8 (by simp)) (HUP.out.fr hf8 (by simp)) KDI.out); clear hnd h9; have HF8 := lh (FI.out.trans hf8 (by simp)); have HND3 : Hid (∀ p ∈ P2, p ∉ P1) := lh (fun p hp hp1 => nd3 p hp1 p hp rfl); have HND2 := lh nd2; clear nd1 nd2 nd3 hf8; go_wp2_with fail; refine HREC.out.mono ?_; rintro e w9 ⟨m9, kd9, rfl, hC9, hf9, hkd9, hinv9, hlen9⟩
        have HX : Hid (∃ (i' : Nat) (m'' : List (Nat × Value)) (kd'' : Nat), Value.int .i64 ((i : Int) + 1) = .int .i64 (i' : Int) /\ Cst wS g bc bn bs bk bm D c m'' kd'' w9 /\ Fr [bk, bm] w5 w9 /\ (kd'' = 0 ∨ kd'' = K) /\ CLeft c h n lo hi P P' m i' m'') := lh ⟨i + 1, m9, kd9, rfl, hC9, HF8.out.trans hf9 (fun q hq => .inl hq), hkd9, fun q hq hh => hinv9 q (fun hm => hq (by rw [HPP.out]; exact List.mem_cons_of_mem _ (HNONE.out q (by rw [HPR.out]; exact List.mem_append_left _ hm)).2)) (INVI.out q hq hh), .inl ⟨HLT.out, P2, HKA2.out, HND2.out, fun p hp => by
         have := HNONE.out p (by rw [HPR.out]; exact List.mem_append_right _ hp); exact ⟨hinv9 p (HND3.out p hp) this.1, this.2⟩, by have := HLENR.out; rw [HPR.out, List.length_append] at this; omega⟩⟩
        clear hC9 hf9 hkd9 hinv9 hlen9; go_wp2_with fail
        go_roundw
        case rel => exact HX.out
        case measure => simp [intOf]; omega
       ·
        have h1 := HM1.out; have h2 := H0.out; exact absurd (show i < n.l.length by omega) hlt
      ·obtain ⟨j, hij⟩ : ∃ j, i = j + 1 := ⟨i - 1, by omega⟩; obtain ⟨xj, hxj⟩ : ∃ xj, n.l[j]? = some xj := gx (by omega); obtain ⟨Af, cf, cj, q, h2, h3⟩ := HCELL.out j xj hxj; have HFK : Hid (FromK D wr (.slice Af xj.key.length cf) (loOf lo (n.l.take i))) := lh (by rw [hij, loOf_take hxj]; exact ⟨q, h2, h3⟩); have hwj : IntKind.i64.wrap ((i : Int) - 1) = (j : Int) := by have := HFEW.out; rw [IntKind.wrap_i64]; omega
       have hipI : (0 : Int) < (i : Int) := by omega
       have hjl : ((j : Nat) : Int) < ((n.l.length : Nat) : Int) := by omega
       have HIJ := lh hij; clear h0 hfr hij hxj h2 h3
       by_cases hlt : i < n.l.length
       ·
        obtain ⟨x, hx⟩ := gx hlt; obtain ⟨Ax, cx, ci, qx, h4, h5⟩ := HCELL.out i x hx; have hltI : ((i : Nat) : Int) < ((n.l.length : Nat) : Int) := by omega
        obtain ⟨E1, P1, P2, hsub, hPR, hka2⟩ := kidsB_next HKA1.out hx
        have HUP : Hid (UpK D wr (.slice Ax x.key.length cx) (some x.key)) := lh (by
         have h6 := h4; obtain ⟨A', c', off, hv, _, hc⟩ := h6; have hk1 := (HOK.out.item x (List.mem_of_getElem? hx)).k1; have h7 := (hc (by omega)).1; injection hv with hv1 hv2 hv3; rw [h7] at hv1; exact ⟨_, _, _, qx, by rw [hv1], h4, h5⟩)
        have HPR := lh hPR; have HKA2 := lh hka2; have HSUB := lh hsub; have HLT := lh hlt; clear hx h4 h5 hPR hka2 hsub hto hlt; go_wp2_with fail; refine (child_nd HNI.out hil (by have := HFEW.out; omega)).mono ?_; rintro e w8 ⟨rfl, hf8⟩; have C8 := lh (CI.out.quiet hf8); have h9 : PR.length = P1.length + P2.length := by rw [HPR.out, List.length_append]
        have hnd := HNDR.out; rw [HPR.out] at hnd; obtain ⟨nd1, nd2, nd3⟩ := List.nodup_append.1 hnd; have HREC := lh (HIH.out _ (deep + 1) _ _ _ P1 m' kd' (.slice Af xj.key.length cf) (.slice Ax x.key.length cx) w8 (by have := HDK.out; omega) (by omega) HK.out HSUB.out nd1 (fun p hp => (HNONE.out p (by rw [HPR.out]; exact List.mem_append_left _ hp)).1) (by have := HLENR.out; have := HML.out; omega) C8.out (HFK.out.fr hf8 (by simp)) (HUP.out.fr hf8 (by simp)) KDI.out); clear hnd h9; have HF8 := lh (FI.out.trans hf8 (by simp)); have HND3 : Hid (∀ p ∈ P2, p ∉ P1) := lh (fun p hp hp1 => nd3 p hp1 p hp rfl); have HND2 := lh nd2; clear nd1 nd2 nd3 hf8; go_wp2_with fail; refine HREC.out.mono ?_; rintro e w9 ⟨m9, kd9, rfl, hC9, hf9, hkd9, hinv9, hlen9⟩
        have HX : Hid (∃ (i' : Nat) (m'' : List (Nat × Value)) (kd'' : Nat), Value.int .i64 ((i : Int) + 1) = .int .i64 (i' : Int) /\ Cst wS g bc bn bs bk bm D c m'' kd'' w9 /\ Fr [bk, bm] w5 w9 /\ (kd'' = 0 ∨ kd'' = K) /\ CLeft c h n lo hi P P' m i' m'') := lh ⟨i + 1, m9, kd9, rfl, hC9, HF8.out.trans hf9 (fun q hq => .inl hq), hkd9, fun q hq hh => hinv9 q (fun hm => hq (by rw [HPP.out]; exact List.mem_cons_of_mem _ (HNONE.out q (by rw [HPR.out]; exact List.mem_append_left _ hm)).2)) (INVI.out q hq hh), .inl ⟨HLT.out, P2, HKA2.out, HND2.out, fun p hp => by
         have := HNONE.out p (by rw [HPR.out]; exact List.mem_append_right _ hp); exact ⟨hinv9 p (HND3.out p hp) this.1, this.2⟩, by have := HLENR.out; rw [HPR.out, List.length_append] at this; omega⟩⟩
        clear hC9 hf9 hkd9 hinv9 hlen9; go_wp2_with fail
        go_roundw
        case rel => exact HX.out
        case measure => simp [intOf]; omega
       ·
        have hIL : i = n.l.length := by omega
        obtain ⟨E1, hsub⟩ := kidsB_last HKA1.out hIL; have hltI : ¬ ((i : Nat) : Int) < ((n.l.length : Nat) : Int) := by omega
        have HSUB := lh hsub; have HIL := lh hIL; have HUP := lh hto; clear hsub hIL hlt hto; go_wp2_with fail; refine (child_nd HNI.out hil (by have := HFEW.out; omega)).mono ?_; rintro e w8 ⟨rfl, hf8⟩; have C8 := lh (CI.out.quiet hf8); have HREC := lh (HIH.out _ (deep + 1) _ _ _ PR m' kd' (.slice Af xj.key.length cf) tv w8 (by have := HDK.out; omega) (by omega) HK.out HSUB.out HNDR.out (fun p hp => (HNONE.out p hp).1) (by have := HLENR.out; have := HML.out; omega) C8.out (HFK.out.fr hf8 (by simp)) (HUP.out.fr hf8 (by simp)) KDI.out); have HF8 := lh (FI.out.trans hf8 (by simp)); clear hf8; go_wp2_with fail; refine HREC.out.mono ?_; rintro e w9 ⟨m9, kd9, rfl, hC9, hf9, hkd9, hinv9, hlen9⟩; have HX : Hid (∃ (i' : Nat) (m'' : List (Nat × Value)) (kd'' : Nat), Value.int .i64 ((i : Int) + 1) = .int .i64 (i' : Int) /\ Cst wS g bc bn bs bk bm D c m'' kd'' w9 /\ Fr [bk, bm] w5 w9 /\ (kd'' = 0 ∨ kd'' = K) /\ CLeft c h n lo hi P P' m i' m'') := lh ⟨i + 1, m9, kd9, rfl, hC9, HF8.out.trans hf9 (fun q hq => .inl hq), hkd9, fun q hq hh => hinv9 q (fun hm => hq (by rw [HPP.out]; exact List.mem_cons_of_mem _ (HNONE.out q hm).2)) (INVI.out q hq hh), .inr ⟨by rw [HIL.out], by have := HLENR.out; omega⟩⟩; clear hC9 hf9 hkd9 hinv9 hlen9; go_wp2_with fail
        go_roundw
        case rel => exact HX.out
        case measure => simp [intOf]; omega
     ·subst hi1; have hgt : ¬ (((n.l.length + 1 : Nat)) : Int) <= ((n.l.length : Nat) : Int) := by omega
      have HX := lh (HQ.out (.returned (.bool true)) wr ⟨m', kd', rfl, CI.out, HF6.out.trans FI.out fun q hq => .inl hq, KDI.out, INVI.out, hlenE⟩); go_wp2_with fail; exact HX.out
end
section
variable {w0 wS w : World} {dk g st bc bn bs bk bm K : Nat} {s : PS} {X D : Nat -> Prop} {c : CD} {E : Nat -> En}
theorem check_node (hp : PgC w0 wS dk g s X c) (h : Nat) : CGoal wS g bc bn bs bk bm D c K h := by
 induction h using Nat.strongRecOn with
 | _ h ih => exact check_step hp h ih
/-- Check. -/
theorem Check_X (h : StX w0 w dk g st s X E) {t : Nat} (ht : t < 8) (hE : (E t).length <= 1000000) :
  Calls Tryz.prog 16 #[.pointer (some ⟨st, 0, none⟩), .int .i64 (t : Int)] w fun e w' => e = .returned (.int .i64 0) /\ Fr [] w w' := by
 obtain ⟨_, _, P, F, hF⟩ := h.store; obtain ⟨c, hc⟩ := nm (beginC s.page s.n); rw [<- hc] at hF; have hpc := h.pgc; rw [<- hc] at hpc; have H := lh h; have HC := lh hc; have HPC := lh hpc; have HF := lh hF; have HEE := lh hE; have HBG := lh h.begin; clear h hc hpc hF hE; have ht8 : ((t : Nat) : Int) < 8 := by omega
 have ht8' : ¬ (8 : Int) <= ((t : Nat) : Int) := by omega
 have ht0 : ¬ ((t : Nat) : Int) < 0 := by omega
 have hmm := @run_makeMap Tryz.prog; refine calls_post fun R HQ => ?_
 go_enter Tryz.func16, Tryz.ntmps16
 go_wp2_with fail; refine HBG.out.mono ?_; rintro e w1 ⟨bc, bn, bs, rfl, hch⟩; rw [<- HC.out] at hch; have HCH := lh hch; have cr := hch.blk.at_ (chC_root c g bn bs ht); clear hch HBG
 by_cases hr : c.roots t = 0
 ·rw [hr] at cr; have HX := lh (HQ.out (.returned (.int .i64 0)) w1 ⟨rfl, HCH.out.fr⟩); have HR0 := lh hr; clear hr; go_wp2_with fail; exact HX.out
 ·have hrI : ¬ ((c.roots t : Nat) : Int) = 0 := by omega
  have ha := HF.out.acc.swap (allP_perm ht).symm; have hnd := (List.nodup_append.1 ha.nodup).1
  have hplen : (P t).length <= 4096 := by
   have h1 := ha.perm.length_eq; have h2 := ha.next2; have h3 := ha.few; rw [List.length_range', List.length_append, List.length_append] at h1; omega
  obtain ⟨hh, hs, hht⟩ : ∃ hh, Sub c.N 1 hh (c.roots t) none none (E t) (P t) /\ hh < 40 := by
   rcases HF.out.tree t ht with ⟨h, _, _⟩ | ⟨_, hh, hs⟩
   ·exact absurd h hr
   ·exact ⟨hh, hs, height_lt hs (by have := HEE.out; omega)⟩
  have hndP := (List.nodup_append.1 hnd).1; obtain ⟨w2, hw2⟩ := nm ((w1.alloc (.map #[] 0)).alloc (.cells #[.pointer (some ⟨bc, 0, none⟩), .map (some w1.heap.size), .int .i64 ((0 : Nat) : Int)] 108)); have hf2 : Fr [] w1 w2 := by rw [hw2]; exact ((Fr.refl [] _).alloc _).alloc _
  have hm2 : VAt w2 w1.heap.size [] := by rw [hw2]; exact (VAt.new w1).fr ((Fr.refl [] _).alloc _) (by simp)
  have hb2 : Blk w2 (w1.heap.size + 1) 108 [.pointer (some ⟨bc, 0, none⟩), .map (some w1.heap.size), .int .i64 ((0 : Nat) : Int)] := by
   rw [hw2]; have := Blk.new (w1.alloc (.map #[] 0)) 108 [.pointer (some ⟨bc, 0, none⟩), .map (some w1.heap.size), .int .i64 ((0 : Nat) : Int)]
   rwa [World.size_alloc] at this
  have hz1 := HCH.out.fr.size; have hz2 := hf2.size; have hcl := HCH.out.lts; obtain ⟨D, hD⟩ : ∃ D : Nat -> Prop, D = fun q => Dm_ X w bc bn bs q /\ q ≠ w1.heap.size /\ q ≠ w1.heap.size + 1 := ⟨_, rfl⟩
  have C2 : Hid (Cst w g bc bn bs (w1.heap.size + 1) w1.heap.size D c [] 0 w2) := lh {
   ch := by
    refine (HCH.out.re (D' := D) (fun q hq hl => ?_) ⟨w1.heap.size + 2, ?_, by omega⟩ (fun q hq => ?_)).frame hf2
    ·rw [hD]; exact ⟨hq, by omega, by omega⟩
    ·rw [hD]; exact ⟨⟨.inr (by omega), by omega, by omega, by omega⟩, by omega, by omega⟩
    ·rw [hD] at hq; exact hq.1.2
   blk := hb2
   met := hm2
   nb := fun q hq => by rw [hD] at hq; exact ⟨hq.2.2, hq.2.1, hq.1.2⟩
   top := fun q hq => by rw [hD]; have := hb2.lt; exact ⟨⟨.inr (by omega), by omega, by omega, by omega⟩, by omega, by omega⟩
   hb := ⟨by omega, by omega, by omega, by omega, by omega, by omega, by omega⟩
   hw := ⟨by omega, by omega⟩ }
  have hfk : FromK D w2 (.slice none 0 0) none := ⟨w2.heap.size, BytesAt.nil _ _, C2.out.top _ (Nat.le_refl _)⟩; have HCN := lh (check_node HPC.out hh (K := 1 + hh) (c.roots t) 1 none none (E t) (P t) [] 0 _ _ w2 rfl (Nat.le_refl _) (by omega) hs hndP (fun _ _ => rfl) (by simp; omega) C2.out hfk (show UpK D w2 (.slice none 0 0) none from rfl) (.inl rfl)); have HR0 := lh hr; have cr2 := fr_keep hf2 cr; have HFW2 : Hid (Fr [] w w2) := lh (HCH.out.fr.trans hf2 (by simp)); have HZ1 := lh hz1; clear hr hs hht hf2 hb2 hm2 hz2 hcl hD hfk ha hnd hplen hndP hz1; go_upto_region 7 with fail
  show Code.wp _ _ _ _ ((w1.alloc (.map #[] 0)).alloc (.cells #[.pointer (some ⟨bc, 0, none⟩), .map (some w1.heap.size), .int .i64 ((0 : Nat) : Int)] 108))
  rw [<- hw2]; clear hw2 cr hmm; go_wp2_with fail; refine HCN.out.mono ?_; rintro e w3 ⟨m', kd', rfl, hC3, hf3, _⟩
  have HX := lh (HQ.out (.returned (.int .i64 0)) w3 ⟨rfl, HFW2.out.trans hf3 fun q hq => .inr (by
   have := HZ1.out; simp only [List.mem_cons, List.not_mem_nil, or_false] at hq; omega)⟩)
  clear hC3 hf3 HCN cr2; go_wp2_with fail; exact HX.out
end
structure Made (w w' : World) (dk g st n : Nat) (s : PS) (X : Nat -> Prop) : Prop where
 st : StX w w' dk g st s X fun _ => []
 old : ∀ k, k < w.heap.size -> X k
 n : s.n = n
 inv : PInv 1 s fun _ => List.replicate 512 0
 late : s.late = []
 lim : s.D.limit = -1
 done : s.D.done = 0
 ln : s.l.n = 700
 fr : Fr [] w w'
theorem made_X (w : World) {n : Nat} (h1 : 1 <= n) (h2 : n <= 4096) :
  Calls Tryz.prog 9 #[.int .i64 (n : Int)] w fun e w' => ∃ dk g st s X, e = .returned (.tuple #[.pointer (some ⟨st, 0, none⟩), .pointer (some ⟨g, 0, none⟩)]) /\ Made w w' dk g st n s X := by
 obtain ⟨H1, ht1, hi1, hn1⟩ := (PDisk.new (n := n) (log := 700) (N := 8 * n + 700) h1 h2 (by omega) (by omega) (by omega)).open_ (by omega); have hw1 : IntKind.i64.wrap (8 * (n : Int)) = 8 * (n : Int) := by rw [IntKind.wrap_i64]; omega
 have hw2 : IntKind.i64.wrap (8 * (n : Int) + 700) = ((8 * n + 700 : Nat) : Int) := by rw [IntKind.wrap_i64]; omega
 have HT1 := lh ht1; have HI1 := lh hi1; have HN1 := lh hn1; have HA := lh h1; have HB := lh h2; clear ht1 hi1 hn1; refine calls_post fun R HQ => ?_
 go_enter Tryz.func9, Tryz.ntmps9
 go_wp2_with fail; refine (new_X (X := fun k => k < w.heap.size) w w (8 * n + 700) (by omega) (by omega) (Fr.refl _ _) (fun _ h => h)).mono ?_; rintro e w1 ⟨d, rfl, hd1, hf1⟩; have HD1 := lh hd1; have HF1 := lh hf1; clear hd1 hf1; go_wp2_with fail; refine (open_Y (n := n) (log := 700) HD1.out rfl rfl h1 h2 (by omega) HI1.out.fit HN1.out HT1.out).mono ?_; rintro e w2 ⟨g, rfl, hp2, hk2⟩; have HP2 := lh hp2; clear hp2 hk2; obtain ⟨s1, hs1⟩ := nm (openP n 700 (DM.new (8 * n + 700)) H1); rw [<- hs1] at HP2 HI1; have l1 : s1.late = [] /\ s1.n = n /\ s1.l.n = 700 /\ s1.D.limit = -1 /\ s1.D.done = 0 /\ s1.br = false := by rw [hs1]; exact ⟨rfl, rfl, rfl, rfl, rfl, rfl⟩
 have hpage : ∀ k, k < s1.n -> s1.page k = zpage := fun k hk => by
  rw [HI1.out.page_eq hk, l1.1]
  rfl
 have hst : Store s1.page s1.n fun _ => [] := store_new (hpage 0 (by rw [l1.2.1]; omega)) (fun k hk => by rw [hpage k hk]; exact zpage_len') (by rw [l1.2.1]; omega) (by rw [l1.2.1]; omega); have HOP := lh (Open_X HP2.out l1.2.2.2.2.2 HI1.out.calm hst); have HL1 := lh l1; clear hs1 hpage hst l1; go_wp2_with fail; refine HOP.out.mono ?_; rintro e w3 ⟨st, rfl, hst3, hf3⟩; have HX := lh (HQ.out _ _ ⟨d, g, st, s1, _, rfl, ⟨hst3, fun k hk => .inl hk, HL1.out.2.1, HI1.out, HL1.out.1, HL1.out.2.2.2.1, HL1.out.2.2.2.2.1, HL1.out.2.2.1, hst3.px.frame⟩⟩); clear hst3 hf3 HOP; go_wp2_with fail; exact HX.out
def E1 : Nat -> En := setR (fun _ => []) 0 (putE [] [97] [])
def E2 : Nat -> En := setR E1 0 (putE (E1 0) [98] [120])
def E3 : Nat -> En := setR E2 0 (delE (E2 0) [97])
theorem restE_0 {E : Nat -> En} {t : Nat} (h : ∀ j, j ≠ t -> E j = []) : restE E t = [] := by
 unfold restE; rw [List.flatMap_eq_nil_iff]; intro j hj
 exact h j (fun e => by
  subst e; exact (List.Nodup.not_mem_erase (List.nodup_range (n := 8))) hj)
theorem setR_at (E : Nat -> En) (t : Nat) (x : En) : setR E t x t = x := if_pos rfl
theorem setR_off (E : Nat -> En) {t j : Nat} (x : En) (h : j ≠ t) : setR E t x j = E j := if_neg h
theorem e1_0 : E1 0 = [([97], [])] := rfl
theorem e2_0 : E2 0 = [([97], []), ([98], [120])] := rfl
theorem e3_0 : E3 0 = [([98], [120])] := rfl
theorem has_a : hasE (E2 0) [97] = true := rfl
theorem go_3 : goE [] none 9 [] (E3 0) = ([([98], [120])], true) := rfl
theorem e_off {j : Nat} (h : j ≠ 0) : E1 j = [] /\ E2 j = [] /\ E3 j = [] := by
 have a1 : E1 j = [] := setR_off _ _ h; have a2 : E2 j = [] := (setR_off _ _ h).trans a1; exact ⟨a1, a2, (setR_off _ _ h).trans a2⟩
theorem awake10 (w : World) : Calls Tryz.prog 8 #[] w fun e w' => e = .returned (.bool true) /\ Fr [] w w' := by
 have kc := fun (w : World) (C : Array Value) (n c : Nat) => Lib.run_convert_bytes_const (P := Tryz.prog) w 23 5 C n c Tryz.underlying23 Tryz.underlying5
 have kc2 : ∀ (w : World) (o : Obj) (C : Array Value) (n c : Nat), (convert 23 23 (.slice (some ⟨w.heap.size + 1, 0, none⟩) n c)).run Tryz.prog ((w.alloc o).alloc (.cells C 5)) = .ok (.slice (some ⟨w.heap.size + 1, 0, none⟩) n c) ((w.alloc o).alloc (.cells C 5 (C.size, C.size + 1))) := fun w o C n c => by
  have := kc (w.alloc o) C n c
  rwa [World.size_alloc] at this
 refine calls_post fun R HQ => ?_
 go_enter Tryz.func8, Tryz.ntmps8
 go_wp2_with fail; refine (made_X w (n := 8) (by omega) (by omega)).mono ?_; rintro e w1 ⟨dk, g, st, s, X, rfl, hm⟩; have HM := lh hm; clear hm; go_wp2_with fail; have hfa : Fr [] w1 (w1.alloc (.cells #[.int .u8 97] 5 (1, 2))) := (Fr.refl [] w1).alloc _; have hba : BytesAt (w1.alloc (.cells #[.int .u8 97] 5 (1, 2))) (.slice (some ⟨w1.heap.size, 0, none⟩) 1 1) [97] w1.heap.size := bytes_mark (w := w1) (C := [97]) (fz := (1, 2)) _ rfl; have hxa : More X w1 (w1.alloc (.cells #[.int .u8 97] 5 (1, 2))) w1.heap.size := .inr ⟨Nat.le_refl _, by simp⟩; have HPA := lh (Put_X (HM.out.st.fr hfa) (t := 0) (by omega) hba hxa (BytesAt.nil _ w1.heap.size) hxa (by decide) (by decide) (by decide) (by decide)); have HFA := lh hfa; clear hfa hba hxa; generalize w1.alloc (.cells #[.int .u8 97] 5 (1, 2)) = wa at *; refine HPA.out.mono ?_; rintro e w2 ⟨s2, hwr2, hk2, hend⟩
 obtain ⟨rfl, h2⟩ : e = .returned (.int .i64 0) /\ StX w w2 dk g st s2 (More X w1 wa) E1 := by
  rcases hend with ⟨h, h'⟩ | ⟨_, _, _, hful⟩
  ·exact ⟨h, h'⟩
  ·exfalso
   rw [HM.out.n, restE_0 (fun _ _ => rfl)] at hful; exact absurd hful (by decide)
 have S2 := lh h2; have HN2 : Hid (s2.n = 8) := lh (by rw [hwr2.same.n]; exact HM.out.n); have HF2 : Hid (Fr [] w w2) := lh h2.px.frame; clear hwr2 hk2 hend h2 HPA; go_wp2_with fail; have hfa1 : Fr [] w2 (w2.alloc (.cells #[.int .u8 98] 5 (1, 2))) := (Fr.refl [] w2).alloc _; have hba1 : BytesAt (w2.alloc (.cells #[.int .u8 98] 5 (1, 2))) (.slice (some ⟨w2.heap.size, 0, none⟩) 1 1) [98] w2.heap.size := bytes_mark (w := w2) (C := [98]) (fz := (1, 2)) _ rfl; have hz1 : (w2.alloc (.cells #[.int .u8 98] 5 (1, 2))).heap.size = w2.heap.size + 1 := by rw [World.size_alloc]
 obtain ⟨wb, hwb⟩ := nm (w2.alloc (.cells #[.int .u8 98] 5 (1, 2))); rw [<- hwb] at hfa1 hba1 hz1 ⊢; clear hwb; have hfb : Fr [] wb (wb.alloc (.cells #[.int .u8 120] 5 (1, 2))) := (Fr.refl [] wb).alloc _
 have hbb : BytesAt (wb.alloc (.cells #[.int .u8 120] 5 (1, 2))) (.slice (some ⟨w2.heap.size + 1, 0, none⟩) 1 1) [120] (w2.heap.size + 1) := by
  have := bytes_mark (w := wb) (C := [120]) (fz := (1, 2)) _ rfl; rw [hz1] at this; exact this
 have hzb : (wb.alloc (.cells #[.int .u8 120] 5 (1, 2))).heap.size = w2.heap.size + 2 := by rw [World.size_alloc, hz1]
 generalize wb.alloc (.cells #[.int .u8 120] 5 (1, 2)) = wc at *; have HPB := lh (Put_X (S2.out.fr (hfa1.trans hfb (by simp))) (t := 0) (by omega) (hba1.fr hfb (by simp)) (.inr ⟨Nat.le_refl _, by omega⟩) hbb (.inr ⟨by omega, by omega⟩) (by decide) (by decide) (by decide) (by rw [e1_0]; decide)); clear hfa1 hba1 hz1 hfb hbb hzb; refine HPB.out.mono ?_; rintro e w3 ⟨s3, hwr3, hk3, hend⟩
 obtain ⟨rfl, h3⟩ : e = .returned (.int .i64 0) /\ StX w w3 dk g st s3 (More (More X w1 wa) w2 wc) E2 := by
  rcases hend with ⟨h, h'⟩ | ⟨_, _, _, hful⟩
  ·exact ⟨h, h'⟩
  ·exfalso
   rw [HN2.out, restE_0 (fun j hj => (e_off hj).1)] at hful; exact absurd hful (by decide)
 have S3 := lh h3; have HN3 : Hid (s3.n = 8) := lh (by rw [hwr3.same.n]; exact HN2.out); clear hwr3 hk3 hend h3 HPB S2 HN2; go_wp2_with fail; have hfa : Fr [] w3 (w3.alloc (.cells #[.int .u8 97] 5 (1, 2))) := (Fr.refl [] w3).alloc _; have hba : BytesAt (w3.alloc (.cells #[.int .u8 97] 5 (1, 2))) (.slice (some ⟨w3.heap.size, 0, none⟩) 1 1) [97] w3.heap.size := bytes_mark (w := w3) (C := [97]) (fz := (1, 2)) _ rfl; have hxa : More (More (More X w1 wa) w2 wc) w3 (w3.alloc (.cells #[.int .u8 97] 5 (1, 2))) w3.heap.size := .inr ⟨Nat.le_refl _, by simp⟩; have HPA := lh (Delete_X (S3.out.fr hfa) (t := 0) (by omega) hba hxa (by decide) (by decide) (by rw [e2_0]; decide)); clear hfa hba hxa; generalize w3.alloc (.cells #[.int .u8 97] 5 (1, 2)) = wd at *; refine HPA.out.mono ?_; rintro e w4 ⟨s4, hwr4, hk4, hend⟩
 obtain ⟨rfl, h4⟩ : e = .returned (.tuple #[.bool true, .int .i64 0]) /\ StX w w4 dk g st s4 (More (More (More X w1 wa) w2 wc) w3 wd) E3 := by
  rcases hend with ⟨h, h'⟩ | ⟨_, _, _, hful⟩
  ·rw [has_a] at h; exact ⟨h, h'⟩
  ·exfalso
   rw [HN3.out, restE_0 (fun j hj => (e_off hj).2.1)] at hful; exact absurd hful (by decide)
 have S4 := lh h4; clear hwr4 hk4 hend h4 HPA S3; obtain ⟨X4, hX4⟩ := nm (More (More (More X w1 wa) w2 wc) w3 wd); rw [<- hX4] at S4; clear hX4; have hx0 : ∃ q, X4 q := ⟨st, S4.out.xs⟩; obtain ⟨q0, hq0⟩ := hx0; have HRG := lh (Range_X S4.out (t := 0) (by omega) (up := none) (most := 9) (BytesAt.nil _ q0) hq0 rfl (by omega) (by rw [e3_0]; decide)); go_wp2_with fail; refine HRG.out.mono ?_; rintro e w5 ⟨ov, cs, rfl, hrow, hents, hf5⟩; rw [go_3] at hrow hents; obtain ⟨Ao, co, rfl, hco⟩ := own_shape hrow; obtain ⟨kv, vv, cs1, cs2, ⟨⟨g1, hk1, _⟩, ⟨g2, hv1, _⟩⟩⟩ := hents.at_ (i := 0) (e := ([98], [120])) rfl; obtain ⟨gr, hA, hcell⟩ := own_cell hrow (by decide); obtain rfl := hA; have r0 := hcell _ _ cs1; have r1 := hcell _ _ cs2; have HCK := lh (Check_X (S4.out.stay hf5) (t := 0) (by omega) (by rw [e3_0]; decide)); have c1 := run_string_of (P := Tryz.prog) (src := 23) (dst := 9) Tryz.underlying23 Tryz.underlying5 Tryz.underlying9 hk1; have c2 := run_string_of (P := Tryz.prog) (src := 23) (dst := 9) Tryz.underlying23 Tryz.underlying5 Tryz.underlying9 hv1; have HF5 : Hid (Fr [] w w5) := lh (S4.out.px.frame.trans hf5 (by simp)); obtain ⟨Ak, ck, ok, rfl, hck, hak⟩ := id hk1; obtain ⟨Aw, cw, ow, rfl, hcw, haw⟩ := id hv1; obtain ⟨rfl, _⟩ := hak (by decide); obtain ⟨rfl, _⟩ := haw (by decide); have r0' : w5.cell? ⟨gr, 0, none⟩ = some (.slice (some ⟨g1, ok, none⟩) 1 ck) := r0; have r1' : w5.cell? ⟨gr, 1, none⟩ = some (.slice (some ⟨g2, ow, none⟩) 1 cw) := r1; have c1' : (convert 23 9 (.slice (some ⟨g1, ok, none⟩) 1 ck)).run Tryz.prog w5 = .ok (.string ⟨#[98]⟩) w5 := c1; have c2' : (convert 23 9 (.slice (some ⟨g2, ow, none⟩) 1 cw)).run Tryz.prog w5 = .ok (.string ⟨#[120]⟩) w5 := c2; clear r0 r1 c1 c2 hck hcw hak haw; clear hrow hents hcell cs1 cs2 hk1 hv1 hf5 HRG; go_wp2_with fail; refine HCK.out.mono ?_; rintro e w6 ⟨rfl, hf6⟩; have HX := lh (HQ.out (.returned (.bool true)) w6 ⟨rfl, HF5.out.trans hf6 (by simp)⟩); clear hf6 HCK; go_wp2_with fail; exact HX.out
end
section
open Go.RowKit
theorem klt_lt {a b : Ky} : klt a b ∨ a = b ∨ klt b a := by
 by_cases h1 : klt a b
 ·exact .inl h1
 ·by_cases h2 : klt b a
  ·exact .inr (.inr h2)
  ·exact .inr (.inl (klt_tri h1 h2))
theorem putE_rise {E : En} {k : Ky} {v : List UInt8} (h : Rise E) : Rise (putE E k v) := by
 unfold putE Rise; rw [List.pairwise_append]; refine ⟨h.filter _, ?_, fun a ha b hb => ?_⟩
 ·rw [List.pairwise_cons]; exact ⟨fun e he => by simpa using (List.mem_filter.1 he).2, h.filter _⟩
 ·have h1 : klt a.1 k := by simpa using (List.mem_filter.1 ha).2
  rcases List.mem_cons.1 hb with rfl | hb
  ·exact h1
  ·exact klt_trans h1 (by simpa using (List.mem_filter.1 hb).2)
theorem putE_mem {E : En} {k : Ky} {v : List UInt8} {e : Ky × List UInt8} : e ∈ putE E k v ↔ e = (k, v) ∨ (e ∈ E /\ e.1 ≠ k) := by
 unfold putE; simp only [List.mem_append, List.mem_cons, List.mem_filter, decide_eq_true_eq]
 constructor
 ·rintro (⟨h1, h2⟩ | h | ⟨h1, h2⟩)
  ·exact .inr ⟨h1, fun e => klt_irrefl k (by rw [e] at h2; exact h2)⟩
  ·exact .inl h
  ·exact .inr ⟨h1, fun e => klt_irrefl k (by rw [e] at h2; exact h2)⟩
 ·rintro (h | ⟨h1, h2⟩)
  ·exact .inr (.inl h)
  ·rcases klt_lt (a := e.1) (b := k) with h | h | h
   ·exact .inl ⟨h1, h⟩
   ·exact absurd h h2
   ·exact .inr (.inr ⟨h1, h⟩)
theorem filter_two {α : Type} {p q : α -> Bool} (h : ∀ a, p a = true -> q a = false) : ∀ l : List α, (l.filter p).length + (l.filter q).length <= l.length
 | [] => Nat.le_refl _
 | a :: l => by
  have ih := filter_two h l; rw [List.filter_cons, List.filter_cons]
  cases hp : p a with
  | true => rw [h a hp]; simp only [if_true, Bool.false_eq_true, if_false, List.length_cons]; omega
  | false =>
   simp only [Bool.false_eq_true, if_false]
   cases hq : q a <;> simp only [if_true, Bool.false_eq_true, if_false, List.length_cons] <;> omega
theorem putE_len (E : En) (k : Ky) (v : List UInt8) : (putE E k v).length <= E.length + 1 := by
 unfold putE
 have := filter_two (p := fun e : Ky × List UInt8 => decide (klt e.1 k)) (q := fun e => decide (klt k e.1)) (fun a ha => by
  simp only [decide_eq_true_eq, decide_eq_false_iff_not] at ha ⊢; exact fun h => klt_irrefl _ (klt_trans ha h)) E
 rw [List.length_append, List.length_cons]; omega
theorem nil_low (k : Ky) : ¬ klt k [] := by
 unfold klt
 cases k <;> simp [Lib.compareBytes]
theorem inB_all (E : En) : E.filter (inB [] none) = E := List.filter_eq_self.2 fun e _ => by
 unfold inB pastB
 simp [nil_low]
theorem go_take {E : En} (hr : Rise E) (low : Ky) (up : Option Ky) (most : Nat) : (goE low up most [] E).1 = (E.filter (inB low up)).take most := by
 have := goE_take (low := low) (up := up) (most := most) hr (out := []) (Nat.zero_le _)
 simpa using this
end
section
open Go.RowKit Go.ChangeMaps Go.MapKept Go.Maps Go.Sort Go.Shelf
def only (t : Nat) (E : En) : Nat -> En := setR (fun _ => []) t E
end
end Go.Proofs.YtpjbdpepofnleaaGreat
