/-
  Joined by join.py: Qq Qr Qs
-/
import Derived.Test.YtpjbdpepofnleaaGreatJpl22
set_option maxRecDepth 100000
set_option maxHeartbeats 32000000
namespace Go.Proofs.YtpjbdpepofnleaaGreat
section
open Go.RowKit Go.ChangeMaps Go.MapKept Go.Maps Go.Sort Go.Shelf
def FindW : Nat -> CD -> Nat -> Ky -> Nd -> Prop
 | 0, _, _, _, _ => False
 | f + 1, c, k, key, nf => ∃ n, c.N k = some n /\ KRise n.l /\ ((n.lf = true /\ nf = n) ∨ (n.lf = false /\ FindW f c (n.child (n.way key)) key nf))
theorem findW_ok : ∀ (h : Nat) {f : Nat} {c : CD} {k : Nat} {lo hi : Option Ky} {E : En} {P : List Nat} {key : Ky}, h < f -> Sub c.N 1 h k lo hi E P -> geLo lo key -> ltHi hi key ->
  ∃ n, FindW f c k key n /\ n.lf = true /\ n.ok /\ KRise n.l /\ n.l.length <= 509 /\ Rise (entOf n.l) /\ getE (entOf n.l) key = getE E key
 | 0, f, c, k, lo, hi, E, P, key, hf, hs, h1, h2 => by
  obtain ⟨f, rfl⟩ : ∃ g, f = g + 1 := ⟨f - 1, by omega⟩; obtain ⟨n, P', e1, hok, hsz, hm, rfl, hlf, rfl, rfl, hr, hw⟩ := hs; exact ⟨n, ⟨n, e1, rise_keys hr, .inl ⟨hlf, rfl⟩⟩, hlf, hok, rise_keys hr, items_few hsz, hr, rfl⟩
 | h + 1, f, c, k, lo, hi, E, P, key, hf, hs, h1, h2 => by
  obtain ⟨f, rfl⟩ : ∃ g, f = g + 1 := ⟨f - 1, by omega⟩; obtain ⟨n, P', e1, hok, hsz, hm, rfl, hlf, hK⟩ := hs; obtain ⟨A, B, hl, hAl, hAt, hBd, g1, g2⟩ := way_split (n := n) h1 h2; have hkeys0 := (Kids.keys Sub.fine hK).1; have hkeys := hkeys0; rw [hl] at hK hkeys; have hpA := (List.pairwise_append.1 hkeys).1; obtain ⟨EA, PA, E0, P0, EB, PB, kL, k0, kR, rfl, rfl⟩ := Kids.focus.1 hK; obtain ⟨q1, q2⟩ := putE_focus Sub.fine kL kR (_E0 := E0) hpA g1 g2; have hch : n.child (n.way key) = chOf n.first A := by unfold Nd.child; rw [hAt]
  obtain ⟨n', a1, a2, a0, a3, a4, a5, a6⟩ := findW_ok h (f := f) (by omega) k0 g1 g2; refine ⟨n', ⟨n, e1, hkeys0, .inr ⟨hlf, by rw [hch]; exact a1⟩⟩, a2, a0, a3, a4, a5, ?_⟩; rw [a6, getE_append (fun e he hk => klt_irrefl key (by have := q1 e he; rwa [hk] at this)), getE_left (fun e he hk => klt_irrefl key (by have := q2 e he; rwa [hk] at this))]
theorem enter_way (vs : Array Value) (w : World) : (callFunc 73 vs).run Tryz.prog w = .ok (.enter 73 vs) w := by kernel_rfl
section
variable {w0 wS w : World} {dk g bc bn bs : Nat} {s : PS} {X D : Nat -> Prop} {c : CD}
/-- The leaf of a key. -/
theorem find_ch {t : Nat} {kv : Value} {key : Ky} {nf : Nd} (hp : PgC w0 wS dk g s X c) (h : ChAt wS w g bc bn bs D c) (hk : ∃ q, BytesAt w kv key q /\ D q) (hD : ∀ q, w.heap.size <= q -> D q) (ht : t < 8) (hF : FindW 40 c (c.roots t) key nf) :
  Calls Tryz.prog 39 #[.pointer (some ⟨bc, 0, none⟩), .int .i64 (t : Int), kv] w fun e w' => ∃ nv, e = .returned (.tuple #[nv, .int .i64 0]) /\ NdV D w' 0 nv nf /\ ChAt wS w' g bc bn bs D c /\ Fr [bc, bn, bs] w w' := by
 obtain ⟨wb, hwb⟩ := nm (w.alloc (.cells znd.toArray 88)); have hf0 : Fr [] w wb := by rw [hwb]; exact (Fr.refl [] w).alloc _
 have hb6 : Blk wb w.heap.size 88 znd := by rw [hwb]; exact Blk.new w _ znd
 have hO : ∀ q, D q -> Off D [] [] q := fun q hq => ⟨hq, fun _ h => by simp at h, fun _ h => by simp at h⟩; have S1 := lh (((Sx.start h hD).key (hk.imp fun q hq => ⟨hq.1, hO q hq.2⟩)).new1 hf0 hb6 (Nat.le_refl _)); have ht8 : ((t : Nat) : Int) < 8 := by omega
 have HP := lh hp; have HFW := lh hF; clear h hk hD hp hF hf0 hb6 hO; have cr := (S1.out.ch.blk).at_ (chC_root c g bn bs ht); refine calls_post fun R HQ => ?_
 go_enter Tryz.func39, Tryz.ntmps39
 go_upto_region 1 with (with_reducible refine wpList_alloc_z rfl 88 rfl (.agg #[.int .i64 0, .int .i64 0, .slice none 0 0]) znd.toArray zero_nd rfl ?_)
 rw [<- hwb]; clear hwb; go_wp2_with fail
 go_loopw [8, 18] (fun v8 v18 wr => ∃ k kk : Nat, k <= 40 /\ v8 = .int .i64 (kk : Int) /\ v18 = .int .i64 (k : Int) /\ FindW (40 - k) c kk key nf /\ Sx wS w g bc bn bs D [(w.heap.size, 88, znd)] [] [.by_ kv key] c wr) (fun _ v _ => 40 - (intOf v).toNat)
 case atStart => exact ⟨0, c.roots t, by omega, rfl, rfl, HFW.out, S1.out⟩
 case round =>
  obtain ⟨k, kk, hk, rfl, rfl, hfw, hS⟩ := hrel; have S2 := lh hS; clear hS cr
  by_cases hk40 : k < 40
  ·obtain ⟨f, hfk⟩ : ∃ f, 40 - k = f + 1 := ⟨40 - k - 1, by omega⟩; rw [hfk] at hfw; obtain ⟨n, hN, hKR, hW⟩ := hfw; obtain ⟨hkn, hok, hsz⟩ := S2.out.ch.wf.N_ok hN; have hfew := items_few hsz; have HNC := lh (node_ch HP.out S2.out.ch hN S2.out.offD); have HKR := lh hKR; have HFEW := lh hfew; have HW := lh hW; have HFK := lh hfk; clear hN hKR hW hok hsz hfew hkn hfk; go_wp2_with fail; refine HNC.out.mono ?_; rintro e w3 ⟨nv, rfl, hnv, hf3⟩; obtain ⟨A, ca, rfl, S3'⟩ := S2.out.node_r hf3 hnv; have S3 := lh S3'; clear hnv hf3 S3' S2 HNC
   go_wp2_with (first
    | (with_reducible refine wpList_alloc_z rfl 88 rfl (.agg #[.int .i64 0, .int .i64 0, .slice none 0 0]) znd.toArray zero_nd rfl ?_)
    | (refine wpList_store_z (W := w3) rfl 88 (.tmp 9) (.tmp 24) rfl [.int .i64 (kindOf n), .int .i64 (n.first : Int), .slice A n.l.length ca] rfl rfl rfl size_nd rfl three_cells ?_))
   intro w4 hb4 hf4 hz4; obtain ⟨p9, hp9⟩ := nm (w3.heap.size); rw [<- hp9] at hb4 ⊢; have S4 := lh (S3.out.new1 hf4 hb4 (by omega)); clear hf4 hb4 hz4 hp9 S3; have d0 := (S4.out.loc _ (.head _)).1.at_ (i := 0) rfl; have d1 := (S4.out.loc _ (.head _)).1.at_ (i := 1) rfl; have d2 := (S4.out.loc _ (.head _)).1.at_ (i := 2) rfl; go_wp2_with fail; refine (leaf_nd n).mono ?_; rintro e w5 ⟨rfl, hf5⟩; have S5 := lh (S4.out.quiet hf5); clear hf5 S4 d0 d1 d2; have d0 := (S5.out.loc _ (.head _)).1.at_ (i := 0) rfl; have d1 := (S5.out.loc _ (.head _)).1.at_ (i := 1) rfl; have d2 := (S5.out.loc _ (.head _)).1.at_ (i := 2) rfl
   cases hlf : n.lf with
   | true =>
    have hnf : nf = n := by
     rcases HW.out with ⟨_, h⟩ | ⟨h, _⟩
     ·exact h
     ·rw [hlf] at h; cases h
    have HNF := lh hnf; clear hlf hnf; have S6 := lh (S5.out.perm (List.Perm.swap _ _ _)); have HBR := lh (S6.out.loc _ (.head _)).1
    go_wp2_with (refine wpL_store rfl 88 (.tmp 6) (.tmp 32) rfl [.int .i64 (kindOf n), .int .i64 (n.first : Int), .slice A n.l.length ca] rfl rfl HBR.out size_nd rfl three_cells ?_)
    intro we hbe hfe hze; have S7 := lh (S6.out.set_ hfe hbe); have HBE := lh hbe; have HX := lh (HQ.out _ _ ⟨_, rfl, by rw [HNF.out]; exact (S7.out.kn (n := n) (.head _)).weak Off.d, S7.out.fin⟩); clear hbe hfe hze S5 S6 d0 d1 d2; go_wp2_with fail; exact bodyPost_ret (results_ct2 (g := w.heap.size) (t' := 88) (cs := [.int .i64 (kindOf n), .int .i64 (n.first : Int), .slice A n.l.length ca]) (d := _) rfl rfl HBE.out Tryz.underlying88 rfl size_nd) rfl HX.out
   | false =>
    have hnf : FindW f c (n.child (n.way key)) key nf := by
     rcases HW.out with ⟨h, _⟩ | ⟨_, h⟩
     ·rw [hlf] at h; cases h
     ·exact h
    have HNF := lh hnf; clear hlf hnf; obtain ⟨gk, hgk, _⟩ := S5.out.kb (b := key) (.tail _ (.head _)); have HGK := lh hgk; clear hgk; go_upto_region 7 with fail
    have S6 := lh (S5.out.quiet ((Fr.refl [] w5).drew)); have d0 := (S6.out.loc _ (.head _)).1.at_ (i := 0) rfl; have d1 := (S6.out.loc _ (.head _)).1.at_ (i := 1) rfl; have d2 := (S6.out.loc _ (.head _)).1.at_ (i := 2) rfl; refine wp_region_K (fun W => W.cell? ⟨p9, 0, none⟩ = some (.int .i64 (kindOf n)) /\ W.cell? ⟨p9, 1, none⟩ = some (.int .i64 (n.first : Int)) /\ W.cell? ⟨p9, 2, none⟩ = some (.slice A n.l.length ca)) [0, 1, 2] (by kernel_rfl) ?_; refine tks [0, 1, 2] ?_
    iterate 3 (refine tk rfl rfl ⟨d0, d1, d2⟩ rfl (fun _ hW => by (obtain ⟨q0, q1, q2⟩ := hW; go_simp) <;> with_reducible rfl) ?_; simp only [nrm])
    refine tke ?_; refine sp 3 rfl rfl rfl fun K hK => ?_; refine wp_call_f (l := [.tmp 35, .tmp 36]) rfl [.agg #[.int .i64 (kindOf n), .int .i64 (n.first : Int), .slice A n.l.length ca], kv] rfl (enter_way _) ((way_nd (S6.out.kn (n := n) (.head _)) (HGK.out.fr ((Fr.refl [] w5).drew) (by simp)) HKR.out (by have := HFEW.out; omega)).mono ?_); rintro e w6 ⟨rfl, hf6⟩; refine ⟨_, rfl, hK _ _ (fun _ => ⟨fr_keep hf6 d0, fr_keep hf6 d1, fr_keep hf6 d2⟩) ?_⟩; simp only [nrm]; have S7 := lh (S6.out.quiet hf6); clear hK hf6; refine sp 4 rfl rfl rfl fun K hK => ?_; refine wp_call_f (l := [.tmp 34, .tmp 37]) rfl [.agg #[.int .i64 (kindOf n), .int .i64 (n.first : Int), .slice A n.l.length ca], .int .i64 ((n.way key : Nat) : Int)] rfl (enter_child _) ((child_nd (S7.out.kn (n := n) (.head _)) (way_le n key) (by have := HFEW.out; omega)).mono ?_); rintro e w7 ⟨rfl, hf7⟩; have S8 := lh (S7.out.quiet hf7); refine ⟨_, rfl, hK _ _ (fun _ => ⟨(S8.out.loc _ (.head _)).1.at_ (i := 0) rfl, (S8.out.loc _ (.head _)).1.at_ (i := 1) rfl, (S8.out.loc _ (.head _)).1.at_ (i := 2) rfl⟩) ?_⟩; simp only [nrm]; clear hK hf7; refine sp 5 rfl rfl rfl fun K hK => ?_; refine wp_run_same (v := ?aq1_5) ?yq1_5 (hK _ _ (fun _ => ⟨(S8.out.loc _ (.head _)).1.at_ (i := 0) rfl, (S8.out.loc _ (.head _)).1.at_ (i := 1) rfl, (S8.out.loc _ (.head _)).1.at_ (i := 2) rfl⟩) ?_)
    case yq1_5 => go_simp <;> with_reducible rfl
    simp only [nrm]; refine wd ?_ _; have HX : Hid (∃ j kk : Nat, j <= 40 /\ Value.int .i64 ((n.child (n.way key) : Nat) : Int) = .int .i64 (kk : Int) /\ Value.int .i64 ((k : Int) + 1) = .int .i64 (j : Int) /\ FindW (40 - j) c kk key nf /\ Sx wS w g bc bn bs D [(w.heap.size, 88, znd)] [] [.by_ kv key] c w7) := lh ⟨k + 1, n.child (n.way key), hk40, rfl, rfl, by rw [show 40 - (k + 1) = f by have := HFK.out; omega]; exact HNF.out, S8.out.less (.cons _ (List.Sublist.refl _)) (List.Sublist.refl _) fun k hk => by simp only [List.mem_cons, List.not_mem_nil, or_false] at hk ⊢; simp [hk]⟩; clear S5 S6 S7 S8 d0 d1 d2; have hw1 := wi k (by omega)
    go_wp2_with fail
    go_roundw
    case rel => exact HX.out
    case measure => simp [intOf]; omega
  ·obtain rfl : k = 40 := by omega
   exact hfw.elim
end
theorem results_ttt {P : Program} {fn : Func} {tmps : Array Value} {w : World} {k k2 k3 : Tmp} (hr : fn.results = #[.tmp k, .tmp k2, .tmp k3]) : (results fn tmps).run P w = .ok (.tuple #[tmps.getD k undef, tmps.getD k2 undef, tmps.getD k3 undef]) w := by
 simp [results, hr, go_sem]
def GetEnd (E : Nat -> En) (t : Nat) (key : Ky) (w : World) (e : Ending) (w' : World) : Prop :=
 ∃ v, e = .returned (.tuple #[v, .bool (getE (E t) key).isSome, .int .i64 0]) /\ (∃ q, BytesAt w' v ((getE (E t) key).getD []) q /\ w.heap.size <= q) /\ Fr [] w w'
theorem find_parts {c : CD} {E : Nat -> En} {P : Nat -> List Nat} {F : List Nat} {t : Nat} (key : Ky) (h : Forest c E P F) (ht : t < 8) (hE : (E t).length < 1099511627776) (hr : c.roots t ≠ 0) :
  ∃ n, FindW 40 c (c.roots t) key n /\ n.lf = true /\ n.ok /\ KRise n.l /\ n.l.length <= 509 /\ Rise (entOf n.l) /\ getE (entOf n.l) key = getE (E t) key := by
 rcases h.tree t ht with ⟨r0, _, _⟩ | ⟨_, hh, hs⟩
 ·exact absurd r0 hr
 ·exact findW_ok hh (f := 40) (height_lt hs hE) hs (fun _ h => by cases h) (fun _ h => by cases h)
section
variable {w0 w : World} {dk g st : Nat} {s : PS} {X : Nat -> Prop} {E : Nat -> En}
/-- Get. -/
theorem Get_X (h : StX w0 w dk g st s X E) {t : Nat} (ht : t < 8) {kv : Value} {key : Ky} {gk : Nat} (hk : BytesAt w kv key gk) (hkX : X gk) (h1 : 1 <= key.length) (h2 : key.length <= 96) (hE : (E t).length < 1099511627776) :
  Calls Tryz.prog 14 #[.pointer (some ⟨st, 0, none⟩), .int .i64 (t : Int), kv] w (GetEnd E t key w) := by
 obtain ⟨_, _, P, F, hF⟩ := h.store; obtain ⟨c, hc⟩ := nm (beginC s.page s.n); rw [<- hc] at hF; have hpc := h.pgc; rw [<- hc] at hpc
 have hmay : mayB (t : Int) key = true := by
  unfold mayB; have a1 : (0 : Int) <= (t : Int) := by omega
  have a2 : (t : Int) < 8 := by omega
  simp [a1, a2, h2]
  omega
 have H := lh h; have HC := lh hc; have HPC := lh hpc; have HF := lh hF; have HMAY := lh (may_any (t : Int) hk); rw [hmay] at HMAY; have HK := lh hk; have HKX := lh hkX; have HEE := lh hE; have HBG := lh h.begin; clear h hc hpc hF hk hkX h1 h2 hE hmay; have ht8 : ((t : Nat) : Int) < 8 := by omega
 refine calls_post fun R HQ => ?_
 go_enter Tryz.func14, Tryz.ntmps14
 go_wp2_with fail; refine HMAY.out.mono ?_; rintro e w1 ⟨rfl, rfl⟩; go_wp2_with fail; refine HBG.out.mono ?_; rintro e w1 ⟨bc, bn, bs, rfl, hch⟩; rw [<- HC.out] at hch; have S0 := lh (Sx.start hch hch.top); have HKD := lh (H.out.key HK.out HKX.out hch.l1 hch.l2 hch.l3 hch.fr); clear hch HBG HMAY; have cr := (S0.out.ch.blk).at_ (chC_root c g bn bs ht)
 by_cases hr : c.roots t = 0
 ·rw [hr] at cr
  have hEt : E t = [] := by
   rcases HF.out.tree t ht with ⟨_, h, _⟩ | ⟨h, _⟩
   ·exact h
   ·exact absurd hr h
  have HX := lh (HQ.out (.returned (.tuple #[.slice none 0 0, .bool false, .int .i64 0])) w1 ⟨.slice none 0 0, by rw [hEt]; rfl, ⟨w1.heap.size, by rw [hEt]; exact BytesAt.nil _ _, S0.out.fin.1.fr.size⟩, S0.out.fin.1.fr⟩); have HR0 := lh hr; clear hr hEt; go_wp2_with fail; exact bodyPost_ret (results_ttt rfl) rfl HX.out
 ·obtain ⟨n, hFW, hlf, hok, hKR, hfew, hrise, hget⟩ := find_parts key HF.out ht HEE.out hr; have hrI : ¬ ((c.roots t : Nat) : Int) = 0 := by omega
  have HKR := lh hKR; have HFEW := lh hfew; have HOK := lh hok; have HG : Hid (getE (E t) key = if isAt n.l key then (n.l[placeOf n.l key]?).map (·.v) else none) := lh (by rw [<- hget]; exact leaf_get hrise); have HFI := lh (find_ch HPC.out S0.out.fin.1 HKD.out S0.out.fin.1.top ht hFW); have HR0 := lh hr; clear hFW hlf hKR hfew hrise hget hr hok; go_wp2_with fail; refine HFI.out.mono ?_; rintro e w2 ⟨nv, rfl, hnv, hc2, hf2⟩; have hO : ∀ q, Dm_ X w bc bn bs q -> Off (Dm_ X w bc bn bs) [] [] q := fun q hq => ⟨hq, fun _ h => by simp at h, fun _ h => by simp at h⟩; obtain ⟨A, ca, _, rfl, _⟩ := hnv.open_; obtain ⟨gk2, hgk2, hgd⟩ := HKD.out
  have S1 := lh (((Sx.start hc2 hc2.top).nd (hnv.weak hO)).key ⟨gk2, hgk2.fr hf2 (fun hm => by
   have := hgd.2; simp only [List.mem_cons, List.not_mem_nil, or_false] at hm; omega), hO _ hgd⟩)
  clear hnv hc2 hf2 hO hgk2 hgd HFI S0 cr
  go_wp2_with (first
   | (with_reducible refine wpList_alloc_z rfl 88 rfl (.agg #[.int .i64 0, .int .i64 0, .slice none 0 0]) znd.toArray zero_nd rfl ?_)
   | (refine wpList_store_z (W := w2) rfl 88 (.tmp 11) (.tmp 45) rfl [.int .i64 (kindOf n), .int .i64 (n.first : Int), .slice A n.l.length ca] rfl rfl rfl size_nd rfl three_cells ?_))
  intro w3 hb3 hf3 hz3; obtain ⟨p11, hp11⟩ := nm (w2.heap.size); rw [<- hp11] at hb3 ⊢; have S2 := lh (S1.out.new1 hf3 hb3 (by omega)); clear hf3 hb3 hz3 hp11 S1; have d0 := (S2.out.loc _ (.head _)).1.at_ (i := 0) rfl; have d1 := (S2.out.loc _ (.head _)).1.at_ (i := 1) rfl; have d2 := (S2.out.loc _ (.head _)).1.at_ (i := 2) rfl; obtain ⟨gk3, hgk3, _⟩ := S2.out.kb (.head _); have HPL := lh (place_nd (S2.out.kn (n := n) (.tail _ (.head _))) hgk3 HKR.out (by have := HFEW.out; omega)); clear hgk3; go_wp2_with fail; refine HPL.out.mono ?_; rintro e w4 ⟨rfl, hf4⟩; have S3 := lh (S2.out.quiet hf4); clear hf4 HPL S2 d0 d1 d2; have d2 := (S3.out.loc _ (.head _)).1.at_ (i := 2) rfl; have hge := HG.out
  cases his : isAt n.l key with
  | true =>
   rw [his, if_pos rfl] at hge; have hlt := isAt_lt his; obtain ⟨y, hy⟩ : ∃ y, n.l[placeOf n.l key]? = some y := ⟨_, List.getElem?_eq_getElem hlt⟩; rw [hy] at hge; obtain ⟨A2, c2, cs2, hv2, hc2, hown, hits, hcell⟩ := (S3.out.kn (n := n) (.tail _ (.head _))).parts; obtain ⟨rfl, rfl⟩ : A = A2 /\ ca = c2 := by injection hv2 with h; simp at h; exact h
   obtain ⟨kv1, vv1, av1, e0, e1, e2, hic⟩ := hits.at_ hy; obtain ⟨gr, rfl, hcg⟩ := hcell (by omega); have cv := hcg _ _ e1; obtain ⟨gv1, hgv1, _⟩ := hic.2.1; have hltI : ((placeOf n.l key : Nat) : Int) < ((n.l.length : Nat) : Int) := by omega
   have hyo : y.v.length <= 1099511627776 := by have := (HOK.out.item y (List.mem_of_getElem? hy)).v; omega
   have HCL := lh (bytes_clone hgv1 hyo); have HGE := lh hge; have HHS := lh hlt; clear hge hlt hy hv2 hc2 hown hits hcell e0 e1 e2 hic hcg hgv1 hyo his; go_wp2_with fail; refine HCL.out.mono ?_; rintro e w5 ⟨v5, rfl, ⟨g5, hb5, hz5⟩, hf5⟩; have S4 := lh (S3.out.quiet hf5); have HX := lh (HQ.out (.returned (.tuple #[v5, .bool true, .int .i64 0])) w5 ⟨v5, by rw [HGE.out]; rfl, ⟨g5, by rw [HGE.out]; exact hb5, by have := S3.out.fin.1.fr.size; omega⟩, S4.out.fin.1.fr⟩); clear hb5 hz5 hf5 S3 S4 cv d2; go_wp2_with fail; exact bodyPost_ret (results_ttt rfl) rfl HX.out
  | false =>
   rw [his, if_neg (by decide)] at hge; have HX := lh (HQ.out (.returned (.tuple #[.slice none 0 0, .bool false, .int .i64 0])) w4 ⟨.slice none 0 0, by rw [hge]; rfl, ⟨w4.heap.size, by rw [hge]; exact BytesAt.nil _ _, S3.out.fin.1.fr.size⟩, S3.out.fin.1.fr⟩); have HGE := lh hge; clear hge his; go_wp2_with fail; exact bodyPost_ret (results_ttt rfl) rfl HX.out
end
theorem kids_drop {S : SubT} (hS : Fine S) {hi : Option Ky} {B : List It} : ∀ {A : List It} {lo : Option Ky} {c : Nat} {E : En} {P : List Nat}, Kids S lo c (A ++ B) hi E P ->
  ∃ lo' EA ER PA PR, E = EA ++ ER /\ P = PA ++ PR /\ Kids S lo' (chOf c A) B hi ER PR /\ ∀ e ∈ EA, ∃ x ∈ A, klt e.1 x.key
 | [], lo, c, E, P, h => ⟨lo, [], E, [], P, rfl, rfl, h, fun e he => (by cases he)⟩
 | x :: A, lo, c, _, _, ⟨E1, P1, E2, P2, h1, h2, rfl, rfl⟩ => by
  obtain ⟨lo', EA, ER, PA, PR, rfl, rfl, h3, h4⟩ := kids_drop hS (A := A) h2; refine ⟨lo', E1 ++ EA, ER, P1 ++ PA, PR, by rw [List.append_assoc], by rw [List.append_assoc], h3, fun e he => ?_⟩; rcases List.mem_append.1 he with he | he
  ·exact ⟨x, List.mem_cons_self .., ((hS.all _ _ _ _ _ h1).2.1 e he).2 _ rfl⟩
  ·obtain ⟨y, hy, hk⟩ := h4 e he; exact ⟨y, List.mem_cons_of_mem _ hy, hk⟩
theorem klt_le_trans {a b d : Ky} (h1 : klt a b) (h2 : ¬ klt d b) : klt a d := by
 by_cases h : klt a d
 ·exact h
 ·by_cases hd : klt d a
  ·exact absurd (klt_trans hd h1) h2
  ·rw [klt_tri h hd] at h1; exact absurd h1 h2
theorem way_rest {n : Nd} (low : Ky) : ∃ A B, n.l = A ++ B /\ A.length = n.way low /\ n.l.take (n.way low) = A /\ n.l.drop (n.way low) = B /\ ∀ x ∈ A, ¬ klt low x.key := by
 obtain ⟨A, hA⟩ := nm (n.l.takeWhile fun x => !decide (klt low x.key)); obtain ⟨B, hB⟩ := nm (n.l.dropWhile fun x => !decide (klt low x.key)); have hl : n.l = A ++ B := by rw [hA, hB, List.takeWhile_append_dropWhile]
 have hw : A.length = n.way low := by rw [hA]; rfl
 refine ⟨A, B, hl, hw, by rw [<- hw, hl, List.take_left' rfl], by rw [<- hw, hl, List.drop_left' rfl], fun x hx => ?_⟩; rw [hA] at hx
 simpa using takeWhile_all x hx
theorem goE_len (low : Ky) (up : Option Ky) (most : Nat) : ∀ (E out : En), (goE low up most out E).1.length <= out.length + E.length
 | [], out => by simp [goE]
 | e :: E, out => by
  rw [goE_cons]; have h1 := goE_len low up most E out; have h2 := goE_len low up most E (out ++ [e]); rw [List.length_append, List.length_singleton] at h2; simp only [List.length_cons]
  split
  ·omega
  ·split
   ·show out.length <= _; omega
   ·omega
def EntC (D : Nat -> Prop) (w : World) (e : Ky × List UInt8) (kv vv : Value) : Prop := (∃ g, BytesAt w kv e.1 g /\ D g) /\ ∃ g, BytesAt w vv e.2 g /\ D g
def EntsC (D : Nat -> Prop) (w : World) : En -> List Value -> Prop
 | [], [] => True
 | e :: E, kv :: vv :: cs => EntC D w e kv vv /\ EntsC D w E cs
 | _, _ => False
theorem EntsC.len {D : Nat -> Prop} {w : World} : ∀ {E : En} {cs : List Value}, EntsC D w E cs -> cs.length = 2 * E.length
 | [], [], _ => rfl
 | _ :: E, _ :: _ :: cs, h => by
  have := EntsC.len h.2; simp only [List.length_cons]; omega
theorem EntsC.fr {D : Nat -> Prop} {w w' : World} {S : List Nat} (hf : Fr S w w') (hS : ∀ q, D q -> q ∈ S -> w.heap.size <= q) : ∀ {E : En} {cs : List Value}, EntsC D w E cs -> EntsC D w' E cs
 | [], [], _ => trivial
 | _ :: _E, _ :: _ :: _cs, ⟨⟨⟨g1, a1, b1⟩, ⟨g2, a2, b2⟩⟩, h⟩ => ⟨⟨⟨g1, a1.frD hf (hS _ b1), b1⟩, ⟨g2, a2.frD hf (hS _ b2), b2⟩⟩, EntsC.fr hf hS h⟩
theorem EntsC.re {D D' : Nat -> Prop} {w : World} (hD : ∀ q, D q -> q < w.heap.size -> D' q) (h0 : ∃ q, D' q) : ∀ {E : En} {cs : List Value}, EntsC D w E cs -> EntsC D' w E cs
 | [], [], _ => trivial
 | _ :: _E, _ :: _ :: _cs, h => ⟨⟨BytesAt.re h.1.1 hD h0, BytesAt.re h.1.2 hD h0⟩, EntsC.re hD h0 h.2⟩
theorem EntsC.snoc {D : Nat -> Prop} {w : World} {e : Ky × List UInt8} {kv vv : Value} (he : EntC D w e kv vv) : ∀ {E : En} {cs : List Value}, EntsC D w E cs -> EntsC D w (E ++ [e]) (cs ++ [kv, vv])
 | [], [], _ => ⟨he, trivial⟩
 | _ :: _E, _ :: _ :: _cs, h => ⟨h.1, EntsC.snoc he h.2⟩
theorem EntsC.at_ {D : Nat -> Prop} {w : World} : ∀ {E : En} {cs : List Value} {i : Nat} {e : Ky × List UInt8}, EntsC D w E cs -> E[i]? = some e -> ∃ kv vv, cs[i * 2]? = some kv /\ cs[i * 2 + 1]? = some vv /\ EntC D w e kv vv
 | [], [], i, e, _, h => by simp at h
 | a :: E, kv :: vv :: cs, 0, e, h, he => by
  simp only [List.getElem?_cons_zero, Option.some.injEq] at he; subst he; exact ⟨kv, vv, rfl, rfl, h.1⟩
 | a :: E, kv :: vv :: cs, i + 1, e, h, he => by
  simp only [List.getElem?_cons_succ] at he; obtain ⟨k1, v1, h1, h2, h3⟩ := EntsC.at_ h.2 he; refine ⟨k1, v1, ?_, ?_, h3⟩
  ·rw [show (i + 1) * 2 = i * 2 + 1 + 1 by omega]; simpa using h1
  ·rw [show (i + 1) * 2 + 1 = i * 2 + 1 + 1 + 1 by omega]; simpa using h2
def Dv (D : Nat -> Prop) (ov : Value) : Nat -> Prop := fun q => D q /\ ov.ownBlock ≠ some q
def UpK (D : Nat -> Prop) (w : World) (tv : Value) : Option Ky -> Prop
 | none => tv = .slice none 0 0
 | some b => ∃ a n c q, tv = .slice (some a) n c /\ BytesAt w tv b q /\ D q
def walkC (bc : Nat) (fv tv ov : Value) (most : Nat) : List Value := [.pointer (some ⟨bc, 0, none⟩), fv, tv, .int .i64 (most : Int), ov]
structure Wst (H : Nat) (wS : World) (g bc bn bs bw : Nat) (D : Nat -> Prop) (c : CD) (fv tv : Value) (low : Ky) (up : Option Ky) (most : Nat) (out : En) (ov : Value) (w : World) : Prop where
 ch : ChAt wS w g bc bn bs (Dv D ov) c
 bwk : Blk w bw 95 (walkC bc fv tv ov most)
 low : ∃ q, BytesAt w fv low q /\ Dv D ov q
 up : UpK (Dv D ov) w tv up
 row : ∃ cs, w.ownsRow H 39 2 ov out.length cs /\ EntsC (Dv D ov) w out cs
 nb : ∀ q, D q -> q ≠ bw /\ q ≠ bc /\ q ≠ bn /\ q ≠ bs
 top : ∀ q, w.heap.size <= q -> D q
 own : ∀ q, ov.ownBlock = some q -> q ≠ bw /\ q ≠ bc /\ q ≠ bn /\ q ≠ bs
 hb : bw ≠ bc /\ bw ≠ bn /\ bw ≠ bs
 hH : wS.heap.size <= H
 hw : wS.heap.size <= bw
 hz : H <= w.heap.size
structure WFr (bc bw : Nat) (ov : Value) (w : World) (ov' : Value) (w' : World) : Prop where
 fr : Fr (bc :: bw :: ov.ownBlock.toList) w w'
 own : ∀ q, ov'.ownBlock = some q -> ov.ownBlock = some q ∨ w.heap.size <= q
section
variable {H g bc bn bs bw : Nat} {wS w w1 w2 w3 : World} {D : Nat -> Prop} {c c' : CD} {fv tv ov ov' ov1 ov2 : Value} {low : Ky} {up : Option Ky} {most : Nat} {out : En}
theorem WFr.refl : WFr bc bw ov w ov w := ⟨Fr.refl _ _, fun _ h => .inl h⟩
theorem WFr.trans (h : WFr bc bw ov w ov1 w1) (h' : WFr bc bw ov1 w1 ov2 w2) : WFr bc bw ov w ov2 w2 := by
 have hz := h.fr.size; refine ⟨h.fr.trans h'.fr fun q hq => ?_, fun q hq => ?_⟩
 ·simp only [List.mem_cons] at hq ⊢; rcases hq with rfl | rfl | hq
  ·exact .inl (.inl rfl)
  ·exact .inl (.inr (.inl rfl))
  ·rcases h.own q (by simpa using hq) with h1 | h1
   ·exact .inl (.inr (.inr (by simpa using h1)))
   ·exact .inr h1
 ·rcases h'.own q hq with h1 | h1
  ·exact h.own q h1
  ·exact .inr (by omega)
theorem WFr.quiet (h : WFr bc bw ov w ov1 w1) (hf : Fr [] w1 w2) : WFr bc bw ov w ov1 w2 := ⟨h.fr.trans hf (by simp), h.own⟩
theorem WFr.pre (hf : Fr [] w w1) (h : WFr bc bw ov w1 ov1 w2) : WFr bc bw ov w ov1 w2 := ⟨(hf.mono (by simp)).trans h.fr (fun q hq => .inl hq), fun q hq => by
 rcases h.own q hq with h1 | h1
 ·exact .inl h1
 ·exact .inr (by have := hf.size; omega)⟩
theorem WFr.keep (h : WFr bc bw ov w ov1 w1) {p : Nat} {t : TypeId} {cs : List Value} (hb : Blk w p t cs) (h1 : p ≠ bc) (h2 : p ≠ bw) (h3 : ov.ownBlock ≠ some p) : Blk w1 p t cs :=
 hb.fr h.fr (by simp only [List.mem_cons, Option.mem_toList]; rintro (h | h | h); exact h1 h; exact h2 h; exact h3 h)
theorem Wst.shape (h : Wst H wS g bc bn bs bw D c fv tv low up most out ov w) : ∃ A ca, ov = .slice A out.length ca := by
 obtain ⟨cs, h1, _⟩ := h.row; obtain ⟨A, ca, e, _⟩ := own_shape h1; exact ⟨A, ca, e⟩
theorem Wst.lt (h : Wst H wS g bc bn bs bw D c fv tv low up most out ov w) : ∀ q, ov.ownBlock = some q -> H <= q /\ q < w.heap.size := by
 obtain ⟨cs, h1, _⟩ := h.row; exact fun q hq => ⟨(h1.lt q hq).1, own_lt h1 q hq⟩
theorem Wst.topv (h : Wst H wS g bc bn bs bw D c fv tv low up most out ov w) : ∀ q, w.heap.size <= q -> Dv D ov q := fun q hq => ⟨h.top q hq, fun e => by have := (h.lt q e).2; omega⟩
theorem UpK.fr {S : List Nat} (h : UpK D w tv up) (hf : Fr S w w1) (hS : ∀ q, D q -> q ∈ S -> w.heap.size <= q) : UpK D w1 tv up := by
 cases up with
 | none => exact h
 | some b =>
  obtain ⟨a, n, ca, q, h1, h2, h3⟩ := h; exact ⟨a, n, ca, q, h1, h2.frD hf (hS _ h3), h3⟩
theorem UpK.re {D' : Nat -> Prop} (h : UpK D w tv up) (hD : ∀ q, D q -> q < w.heap.size -> D' q) (h0 : ∃ q, D' q) : UpK D' w tv up := by
 cases up with
 | none => exact h
 | some b =>
  obtain ⟨a, n, ca, q, h1, h2, h3⟩ := h; obtain ⟨q', h4, h5⟩ := BytesAt.re ⟨q, h2, h3⟩ hD h0; exact ⟨a, n, ca, q', h1, h4, h5⟩
theorem Wst.quiet (h : Wst H wS g bc bn bs bw D c fv tv low up most out ov w1) (hf : Fr [] w1 w2) : Wst H wS g bc bn bs bw D c fv tv low up most out ov w2 := by
 have hz := hf.size; have hz1 := h.hz; obtain ⟨q, l1, l2⟩ := h.low; obtain ⟨cs, r1, r2⟩ := h.row; exact ⟨h.ch.frame hf, h.bwk.fr hf (by simp), ⟨q, l1.fr hf (by simp), l2⟩, h.up.fr hf (by simp), ⟨cs, own_fr r1 hf (by simp), r2.fr hf (by simp)⟩, h.nb, fun q hq => h.top q (by omega), h.own, h.hb, h.hH, h.hw, by omega⟩
theorem Wst.failed (h : Wst H wS g bc bn bs bw D c fv tv low up most out ov w1) (hf : Fr [bc] w1 w2) (hc : ChAt wS w2 g bc bn bs (Dv D ov) c') : Wst H wS g bc bn bs bw D c' fv tv low up most out ov w2 := by
 have hz := hf.size; have hz1 := h.hz; obtain ⟨q, l1, l2⟩ := h.low; obtain ⟨cs, r1, r2⟩ := h.row; have hn : ∀ q, Dv D ov q -> q ∈ [bc] -> w1.heap.size <= q := fun q hq hm => absurd (List.mem_singleton.1 hm) (h.nb q hq.1).2.1; exact ⟨hc, h.bwk.fr hf (by simpa using h.hb.1), ⟨q, l1.frD hf (hn _ l2), l2⟩, h.up.fr hf hn, ⟨cs, own_fr r1 hf (fun q hq hm => (h.own q hq).2.1 (List.mem_singleton.1 hm)), r2.fr hf hn⟩, h.nb, fun q hq => h.top q (by omega), h.own, h.hb, h.hH, h.hw, by omega⟩
theorem Wst.push (h : Wst H wS g bc bn bs bw D c fv tv low up most out ov w1) {cs : List Value} (hents : EntsC (Dv D ov) w1 out cs) {e : Ky × List UInt8} {kv vv : Value} (he : EntC (Dv D ov) w1 e kv vv) (hf : Fr ov.ownBlock.toList w1 w2)
  (hrow : w2.ownsRow 0 39 2 ov' (out.length + 1) (cs ++ [kv, vv])) (hq : ∀ q, ov'.ownBlock = some q -> ov.ownBlock = some q ∨ q = w1.heap.size) :
  Wst H wS g bc bn bs bw D c fv tv low up most (out ++ [e]) ov' (w2.setCell ⟨bw, 4, none⟩ ov') /\ WFr bc bw ov w1 ov' (w2.setCell ⟨bw, 4, none⟩ ov') := by
 have hz := hf.size; have hz1 := h.hz; have hlt := h.lt; have hbl := h.bwk.lt; have hcl := h.ch.lts; have hf3 : Fr [bw] w2 (w2.setCell ⟨bw, 4, none⟩ ov') := (Fr.refl [bw] w2).setCell (.inl (by simp)) _; have hz3 := hf3.size; obtain ⟨D2, hD2⟩ : ∃ D2 : Nat -> Prop, D2 = fun q => Dv D ov q /\ ov'.ownBlock ≠ some q := ⟨_, rfl⟩
 have d1 : ∀ q, Dv D ov q -> q < w1.heap.size -> D2 q := fun q hq' hl => by
  rw [hD2]; refine ⟨hq', fun e => ?_⟩; rcases hq _ e with h1 | h1
  ·exact hq'.2 h1
  ·omega
 have d0 : ∃ q, D2 q /\ w1.heap.size <= q := ⟨w1.heap.size + 1, by
  rw [hD2]; refine ⟨h.topv _ (by omega), fun e => ?_⟩; rcases hq _ e with h1 | h1
  ·have := (hlt _ h1).2; omega
  ·omega, by omega⟩
 have d0' : ∃ q, D2 q := d0.imp fun q hq => hq.1
 have dS : ∀ q, D2 q -> q ∈ ov.ownBlock.toList -> w1.heap.size <= q := fun q hq' hm => by
  rw [hD2] at hq'; exact absurd (by simpa using hm) hq'.1.2
 have dV : ∀ q, D2 q -> Dv D ov' q := fun q hq' => by
  rw [hD2] at hq'; exact ⟨hq'.1.1, hq'.2⟩
 have dB : ∀ q, Dv D ov' q -> q ∈ [bw] -> w2.heap.size <= q := fun q hq' hm => absurd (List.mem_singleton.1 hm) (h.nb q hq'.1).1; have dom2 : ∀ q, D2 q -> q ≠ bc /\ q ≠ bn /\ q ≠ bs := fun q hq' => (h.nb q (dV q hq').1).2
 have hown' : ∀ q, ov'.ownBlock = some q -> q ≠ bw /\ q ≠ bc /\ q ≠ bn /\ q ≠ bs := fun q e => by
  rcases hq _ e with h1 | h1
  ·exact h.own q h1
  ·omega
 have c1 : ChAt wS w2 g bc bn bs D2 c := (h.ch.re d1 d0 dom2).frS hf fun q hm => by
  have hm' : ov.ownBlock = some q := by simpa using hm
  have := (hlt q hm').1; have h5 := h.own q hm'; refine .inr ⟨by have := h.hH; omega, fun hq' => ?_, h5.2⟩; rw [hD2] at hq'; exact hq'.1.2 hm'
 have c2 : ChAt wS (w2.setCell ⟨bw, 4, none⟩ ov') g bc bn bs (Dv D ov') c := (c1.weak dV fun q hq' => (h.nb q hq'.1).2).frS hf3 fun q hm => by
  obtain rfl := List.mem_singleton.1 hm; exact .inr ⟨h.hw, fun hq' => (h.nb _ hq'.1).1 rfl, h.hb⟩
 obtain ⟨ql, l1, l2⟩ := BytesAt.re h.low d1 d0'
 have u2 : UpK (Dv D ov') (w2.setCell ⟨bw, 4, none⟩ ov') tv up := by
  have u1 := ((h.up.re d1 d0').fr hf dS)
  have u1' : UpK (Dv D ov') w2 tv up := by
   cases up with
   | none => exact u1
   | some b => obtain ⟨a, n, ca, q, a1, a2, a3⟩ := u1; exact ⟨a, n, ca, q, a1, a2, dV q a3⟩
  exact u1'.fr hf3 dB
 have e1 : EntsC D2 w1 (out ++ [e]) (cs ++ [kv, vv]) := (hents.snoc he).re d1 d0'
 have e2 : EntsC (Dv D ov') w2 (out ++ [e]) (cs ++ [kv, vv]) := by
  have := e1.fr hf dS; exact this.re (fun q hq' _ => dV q hq') (d0'.imp fun q hq' => dV q hq')
 refine ⟨⟨c2, ?_, ⟨ql, (l1.frD hf (dS _ l2)).frD hf3 (dB _ (dV _ l2)), dV _ l2⟩, u2, ⟨cs ++ [kv, vv], ?_, e2.fr hf3 dB⟩, h.nb, fun q hq' => h.top q (by omega), hown', h.hb, h.hH, h.hw, by omega⟩, ?_⟩
 ·have hb := (h.bwk.fr hf (fun hm => (h.own bw (by simpa using hm)).1 rfl)).set_ 4 ov'; exact hb
 ·have hl : (out ++ [e]).length = out.length + 1 := by simp
  rw [hl]; refine own_fr (own_base hrow fun q hq' => ?_) hf3 fun q hq' hm => (hown' q hq').1 (List.mem_singleton.1 hm); rcases hq _ hq' with h1 | h1
  ·exact (hlt q h1).1
  ·omega
 ·refine ⟨(hf.mono fun q hm => .inl (by simp only [List.mem_cons]; exact .inr (.inr hm))).trans hf3 fun q hm => .inl (by simp only [List.mem_cons]; exact .inr (.inl (List.mem_singleton.1 hm))), fun q hq' => ?_⟩; rcases hq _ hq' with h1 | h1
  ·exact .inl h1
  ·exact .inr (by omega)
end
end
end Go.Proofs.YtpjbdpepofnleaaGreat
