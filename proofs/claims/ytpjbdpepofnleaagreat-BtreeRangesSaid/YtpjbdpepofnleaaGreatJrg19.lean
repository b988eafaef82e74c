/-
  Joined by join.py: Qn Qo Qp Qq Qr
-/
import Derived.Test.YtpjbdpepofnleaaGreatJrg18
section
namespace Go.Proofs.YtpjbdpepofnleaaGreat
open Go.RowKit Go.ChangeMaps Go.MapKept Go.Maps Go.Sort Go.Shelf
theorem grow_pre {c c' : CD} {m h k : Nat} {lo hi : Option Ky} {E : En} {u : Ky × Nat} {R : List Nat} (hl : Left c c' m h k lo hi E u R) :
    u.2 ≠ 0 → 1 ≤ u.1.length ∧ u.1.length ≤ 96 ∧ u.2 < 65536 ∧ c'.e = 0 ∧ 0 < c'.n ∧ (c'.head ≠ 0 → c'.head < c'.n ∧ ∃ j, c'.nx c'.head = some j) := fun hu => by
  obtain ⟨_, ⟨e0, P, F, ha, _, hres⟩ | ⟨_, u0, _⟩⟩ := hl
  · rcases hres with ⟨u0, _⟩ | ⟨_, u1, u2, _, _, E1, P1, E2, P2, s1, s2, rfl, rfl⟩
    · exact absurd u0 hu
    · have hm2 := (ha.mem (k := u.2) (.inl (List.mem_append_left _ (List.mem_append_right _ s2.head)))).2
      have := ha.next2; have := ha.few; have := ha.next1
      exact ⟨u1, u2, by omega, e0, by omega, head_ok ha⟩
  · exact absurd u0 hu
def restE (E : Nat → En) (t : Nat) : En := ((List.range 8).erase t).flatMap E
theorem tree_pages {N : Nat → Option Nd} {r : Nat} {E : En} {P : List Nat} (h : Tree N r E P) : P.length ≤ 2 * E.length := by
  rcases h with ⟨_, rfl, rfl⟩ | ⟨_, h, hs⟩
  · simp
  · have := hs.count.1; omega
theorem flat_le {P : Nat → List Nat} {E : Nat → En} : ∀ {l : List Nat}, (∀ s ∈ l, (P s).length ≤ 2 * (E s).length) → (l.flatMap P).length ≤ 2 * (l.flatMap E).length
  | [], _ => by simp
  | s :: l, h => by
    have h1 := h s (List.mem_cons_self ..)
    have h2 := flat_le (l := l) fun q hq => h q (List.mem_cons_of_mem _ hq)
    rw [List.flatMap_cons, List.flatMap_cons, List.length_append, List.length_append]
    omega
theorem rest_pages {c : CD} {E : Nat → En} {P : Nat → List Nat} {F : List Nat} (h : Forest c E P F) (t : Nat) : (restP P t).length ≤ 2 * (restE E t).length :=
  flat_le fun s hs => tree_pages (h.tree s (List.mem_range.1 (List.mem_of_mem_erase hs)))
def Wr (s s' : PS) : Prop := ∃ l : List (Nat × List UInt8), (∀ p ∈ l, p.1 < s.n ∧ p.2.length ≤ 512) ∧ s' = l.foldl (fun s p => s.write p.1 p.2) s
theorem Wr.refl (s : PS) : Wr s s := ⟨[], fun _ h => (by cases h), rfl⟩
theorem foldw_same : ∀ (l : List (Nat × List UInt8)) {s s' : PS}, SameS s s' → SameS s (l.foldl (fun s p => s.write p.1 p.2) s')
  | [], _, _, h => h
  | _ :: l, _, _, h => foldw_same l (h.write _ _)
theorem Wr.same {s s' : PS} (h : Wr s s') : SameS s s' := by
  obtain ⟨l, _, rfl⟩ := h
  exact foldw_same l (SameS.refl s)
theorem Wr.end_ {s : PS} {c : CD} (hwf : WfW c) (hn : c.n = s.n) (h0 : 0 < c.n) : Wr s (endS s c) := by
  refine ⟨(c.M.map fun p => (p.1, p.2.written)) ++ (c.S.map fun p => (p.1, b16 p.2)) ++ [(0, spaceB c)], fun p hp => ?_, ?_⟩
  · rcases List.mem_append.1 hp with hp | hp
    · rcases List.mem_append.1 hp with hp | hp
      · obtain ⟨q, hq, rfl⟩ := List.mem_map.1 hp
        obtain ⟨a, b, d⟩ := hwf.mM q hq
        exact ⟨by show q.1 < s.n; omega, by show q.2.written.length ≤ 512; rw [Nd.written_len]; exact d⟩
      · obtain ⟨q, hq, rfl⟩ := List.mem_map.1 hp
        obtain ⟨a, b⟩ := hwf.mS q hq
        exact ⟨by show q.1 < s.n; omega, by show 2 ≤ 512; omega⟩
    · obtain rfl := List.mem_singleton.1 hp
      exact ⟨by show 0 < s.n; omega, by show (spaceB c).length ≤ 512; rw [spaceB_len]; omega⟩
  · unfold endS endF endM
    rw [List.foldl_append, List.foldl_append, List.foldl_map, List.foldl_map]
    rfl
theorem store_to {s : PS} {c : CD} {E : Nat → En} {P : Nat → List Nat} {F : List Nat} (hF : Forest c E P F) (hp : c.pg = s.page) (hn : c.n = s.n) (hwf : WfW c) : Store (endS s c).page s.n E := by
  have h1 := store_end hF (by exact hwf.pg)
  have e : (endS s c).page = endPg c := by
    funext j
    exact endS_page hwf.rM hwf.rS hp j
  rw [e, ← hn]
  exact h1
structure StX (w0 w : World) (dk g st : Nat) (s : PS) (X : Nat → Prop) (E : Nat → En) : Prop where
  px : PgX w0 w dk g s X
  blk : Blk w st 125 [.pointer (some ⟨g, 0, none⟩)]
  xs : X st
  br : s.br = false
  calm : Calm s
  store : Store s.page s.n E
section
variable {w0 w w' : World} {dk g st : Nat} {s s' : PS} {X : Nat → Prop} {E E' : Nat → En}
theorem StX.fr (h : StX w0 w dk g st s X E) (hf : Fr [] w w') : StX w0 w' dk g st s (More X w w') E := ⟨h.px.fr hf, h.blk.fr hf (by simp), .inl h.xs, h.br, h.calm, h.store⟩
theorem StX.stay (h : StX w0 w dk g st s X E) (hf : Fr [] w w') : StX w0 w' dk g st s X E := ⟨h.px.stay hf, h.blk.fr hf (by simp), h.xs, h.br, h.calm, h.store⟩
theorem StX.kept (h : StX w0 w dk g st s X E) (hp : PgX w0 w' dk g s' X) (hk : Kp X w w') (hs : SameS s s') (hS : Store s'.page s.n E') : StX w0 w' dk g st s' X E' := ⟨hp, hk.blk h.blk h.xs, h.xs, by rw [hs.br]; exact h.br, hs.calm h.calm, by rw [hs.n]; exact hS⟩
theorem StX.pgc (h : StX w0 w dk g st s X E) : PgC w0 w dk g s X (beginC s.page s.n) := ⟨h.px, h.br, h.calm, (begin_pg _ _).1, (begin_pg _ _).2.1⟩
theorem StX.begin (h : StX w0 w dk g st s X E) :
    Calls Tryz.prog 31 #[.pointer (some ⟨st, 0, none⟩)] w fun e w' => ∃ bc bn bs, e = .returned (.tuple #[.pointer (some ⟨bc, 0, none⟩), .int .i64 0]) ∧ ChAt w w' g bc bn bs (Dm_ X w bc bn bs) (beginC s.page s.n) :=
  begin_st h.px h.br h.calm (h.blk.at_ (i := 0) rfl) h.store
theorem ChAt.top {wS : World} {bc bn bs : Nat} {c : CD} (h : ChAt wS w g bc bn bs (Dm_ X wS bc bn bs) c) : ∀ q, w.heap.size ≤ q → Dm_ X wS bc bn bs q := fun q hq => by
  have h1 := h.blk.lt
  obtain ⟨vs, v1, _⟩ := h.nodes
  obtain ⟨ss, s1, _⟩ := h.spare
  have h2 := v1.lt; have h3 := s1.lt; have h4 := h.fr.size
  exact ⟨.inr (by omega), by omega, by omega, by omega⟩
theorem StX.key {bc bn bs gk : Nat} {kv : Value} {key : Ky} (h : StX w0 w dk g st s X E) (hk : BytesAt w kv key gk) (hX : X gk) (h1 : w.heap.size ≤ bc) (h2 : w.heap.size ≤ bn) (h3 : w.heap.size ≤ bs) (hf : Fr [] w w') : ∃ q, BytesAt w' kv key q ∧ Dm_ X w bc bn bs q := by
  have hlt : gk < w.heap.size := by obtain ⟨_, _, _, _, _, _, _, h4⟩ := h.px; exact h4 gk hX
  exact ⟨gk, hk.fr hf (by simp), .inl hX, by omega, by omega, by omega⟩
set_option maxRecDepth 100000 in
set_option maxHeartbeats 1000000 in
/-- The store of a pager. -/
theorem Open_X (hp : PgX w0 w dk g s X) (hbr : s.br = false) (hcalm : Calm s) (hS : Store s.page s.n E) :
    Calls Tryz.prog 25 #[.pointer (some ⟨g, 0, none⟩)] w fun e w' => ∃ st, e = .returned (.tuple #[.pointer (some ⟨st, 0, none⟩), .int .i64 0]) ∧ StX w0 w' dk g st s (More X w w') E ∧ Fr [] w w' := by
  obtain ⟨wb, hwb⟩ : ∃ wb, wb = w.alloc (.cells #[.pointer (some ⟨g, 0, none⟩)] 125) := ⟨_, rfl⟩
  have hf : Fr [] w wb := by rw [hwb]; exact (Fr.refl [] w).alloc _
  have hb : Blk wb w.heap.size 125 [.pointer (some ⟨g, 0, none⟩)] := by rw [hwb]; exact Blk.new w _ [.pointer (some ⟨g, 0, none⟩)]
  have hbg := begin_st (hp.stay hf) hbr hcalm (hb.at_ (i := 0) rfl) hS
  refine calls_post fun R HQ => ?_
  have HB := Lib.hid hb; have HF := Lib.hid hf; have HBG := Lib.hid hbg; have HP := Lib.hid hp; have HS := Lib.hid hS; have HC := Lib.hid hcalm; have HBR := Lib.hid hbr
  clear hb hf hbg hp hS hcalm hbr
  go_enter Tryz.func25, Tryz.ntmps25
  go_upto_region 2 with fail
  rw [← hwb]
  clear hwb
  go_wp2_with fail
  refine HBG.out.mono ?_
  rintro e w2 ⟨bc, bn, bs, rfl, hch⟩
  have hf2 : Fr [] w w2 := HF.out.trans hch.fr (by simp)
  have HX := Lib.hid (HQ.out _ _ ⟨w.heap.size, rfl, ⟨HP.out.fr hf2, HB.out.fr hch.fr (by simp), .inr ⟨Nat.le_refl _, by have := HB.out.lt; have := hch.fr.size; omega⟩, HBR.out, HC.out, HS.out⟩, hf2⟩)
  clear hf2 hch
  go_wp2_with fail
  exact HX.out
end
end Go.Proofs.YtpjbdpepofnleaaGreat
end
section
namespace Go.Proofs.YtpjbdpepofnleaaGreat
open Go.RowKit Go.ChangeMaps Go.MapKept Go.Maps Go.Sort Go.Shelf
def mayB (t : Int) (key : Ky) : Bool := decide (0 ≤ t) && decide (t < 8) && decide (0 < key.length) && decide (key.length ≤ 96)
set_option maxRecDepth 100000 in
set_option maxHeartbeats 1000000 in
/-- May a tree, and a key, be? -/
theorem may_any {w : World} {kv : Value} {key : Ky} {gk : Nat} (t : Int) (hk : BytesAt w kv key gk) : Calls Tryz.prog 30 #[.int .i64 t, kv] w fun e w' => e = .returned (.bool (mayB t key)) ∧ w = w' := by
  obtain ⟨A, c, _, rfl, _, _⟩ := hk
  refine calls_post fun R HQ => ?_
  have HX := Lib.hid (HQ.out _ _ ⟨rfl, rfl⟩)
  by_cases h1 : 0 ≤ t
  · by_cases h2 : t < 8
    · by_cases h3 : 0 < key.length
      · have h3' : (0 : Int) < (key.length : Int) := by omega
        by_cases h4 : key.length ≤ 96
        · have h4' : (key.length : Int) ≤ 96 := by omega
          have e : mayB t key = true := by unfold mayB; simp [h1, h2, h3, h4]
          rw [e] at HX
          go_enter Tryz.func30, Tryz.ntmps30
          go_wp2_with fail
          exact HX.out
        · have h4' : ¬ (key.length : Int) ≤ 96 := by omega
          have e : mayB t key = false := by unfold mayB; simp [h4]
          rw [e] at HX
          go_enter Tryz.func30, Tryz.ntmps30
          go_wp2_with fail
          exact HX.out
      · have h3' : ¬ (0 : Int) < (key.length : Int) := by omega
        have e : mayB t key = false := by unfold mayB; simp [h3]
        rw [e] at HX
        go_enter Tryz.func30, Tryz.ntmps30
        go_wp2_with fail
        exact HX.out
    · have e : mayB t key = false := by unfold mayB; simp [h2]
      rw [e] at HX
      go_enter Tryz.func30, Tryz.ntmps30
      go_wp2_with fail
      exact HX.out
  · have e : mayB t key = false := by unfold mayB; simp [h1]
    rw [e] at HX
    go_enter Tryz.func30, Tryz.ntmps30
    go_wp2_with fail
    exact HX.out
theorem putC_parts {c : CD} {E : Nat → En} {P : Nat → List Nat} {F : List Nat} {t : Nat} {x : It} (h : Forest c E P F) (ht : t < 8) (hx : x.ok true) (hE : (E t).length < 1099511627776) (hr : c.roots t ≠ 0) :
    ∃ c1 u, PutW 40 c (c.roots t) x c1 u ∧ putC c t x = some (growC c1 t u) ∧ (c1.pg = c.pg ∧ c1.n = c.n) ∧ c1.roots t = c.roots t ∧ (u.2 ≠ 0 → 1 ≤ u.1.length ∧ u.1.length ≤ 96 ∧ u.2 < 65536 ∧ c1.e = 0 ∧ 0 < c1.n ∧ (c1.head ≠ 0 → c1.head < c1.n ∧ ∃ j, c1.nx c1.head = some j)) := by
  have ha := h.acc.swap (allP_perm ht).symm
  rcases h.tree t ht with ⟨r0, _, _⟩ | ⟨_, hh, hs⟩
  · exact absurd r0 hr
  · obtain ⟨c1, u, e1, hl⟩ := put_ok hh (f := 40) (height_lt hs hE) hs ha h.e hx (fun _ h => by cases h) (fun _ h => by cases h)
    refine ⟨c1, u, putW_ok hh (height_lt hs hE) hs ha h.e hx (fun _ h => by cases h) (fun _ h => by cases h) _ _ e1, ?_, ⟨hl.1.pg, hl.1.n⟩, by rw [hl.1.roots], grow_pre hl⟩
    unfold putC
    rw [if_neg hr, e1]
    rfl
theorem enter_grow (vs : Array Value) (w : World) : (callFunc 36 vs).run Tryz.prog w = .ok (.enter 36 vs) w := by kernel_rfl
def PutEnd (w0 : World) (dk g st : Nat) (s : PS) (X : Nat → Prop) (E : Nat → En) (t : Nat) (key v : Ky) (w : World) (e : Ending) (w' : World) : Prop :=
  ∃ s', Wr s s' ∧ Kp X w w' ∧ ((e = .returned (.int .i64 0) ∧ StX w0 w' dk g st s' X (setR E t (putE (E t) key v))) ∨ (e = .returned (.int .i64 5) ∧ s' = s ∧ StX w0 w' dk g st s X E ∧ s.n ≤ 2 * (putE (E t) key v).length + 2 * (restE E t).length))
section
variable {w0 w : World} {dk g st : Nat} {s : PS} {X : Nat → Prop} {E : Nat → En}
set_option maxRecDepth 100000 in
set_option maxHeartbeats 8000000 in
/-- Put. -/
theorem Put_X (h : StX w0 w dk g st s X E) {t : Nat} (ht : t < 8) {kv vv : Value} {key v : Ky} {gk gv : Nat} (hk : BytesAt w kv key gk) (hkX : X gk) (hv : BytesAt w vv v gv) (hvX : X gv) (h1 : 1 ≤ key.length) (h2 : key.length ≤ 96) (h3 : v.length ≤ 64) (hE : (E t).length < 1099511627776) :
    Calls Tryz.prog 10 #[.pointer (some ⟨st, 0, none⟩), .int .i64 (t : Int), kv, vv] w (PutEnd w0 dk g st s X E t key v w) := by
  have hlt : ∀ q, X q → q < w.heap.size := by obtain ⟨_, _, _, _, _, _, _, h4⟩ := h.px; exact h4
  obtain ⟨_, _, P, F, hF⟩ := h.store
  obtain ⟨c, hc⟩ : ∃ c, c = beginC s.page s.n := ⟨_, rfl⟩
  rw [← hc] at hF
  obtain ⟨x, hx⟩ : ∃ x : It, x = ⟨key, v, 0⟩ := ⟨_, rfl⟩
  have hxo : x.ok true := by rw [hx]; exact ⟨h1, h2, h3, by show 0 < 65536; omega, rfl⟩
  obtain ⟨c', hput, hsame, hres⟩ := put_forest (x := x) hF ht hxo hE
  have hpc := h.pgc
  rw [← hc] at hpc
  have hrp := rest_pages hF t
  have hmay : mayB (t : Int) key = true := by
    unfold mayB
    have a1 : (0 : Int) ≤ (t : Int) := by omega
    have a2 : (t : Int) < 8 := by omega
    simp [a1, a2, h2]
    omega
  obtain ⟨Av, cv, _, rfl, hcv, hcellv⟩ := id hv
  have hl64 : ¬ (64 : Int) < (v.length : Int) := by omega
  have H := Lib.hid h; have HC := Lib.hid hc; have HXX := Lib.hid hx; have HXO := Lib.hid hxo; have HPUT := Lib.hid hput; have HRES := Lib.hid hres; have HPC := Lib.hid hpc; have HRP := Lib.hid hrp; have HF := Lib.hid hF
  have HPC2 : Hid (PgC w0 w dk g s X c') := Lib.hid (hpc.to ⟨hsame.pg, hsame.n⟩)
  have HMAY := Lib.hid (may_any (t : Int) hk)
  rw [hmay] at HMAY
  have HK := Lib.hid hk; have HV := Lib.hid hv; have HKX := Lib.hid hkX; have HVX := Lib.hid hvX; have HLT := Lib.hid hlt
  have HK2 := Lib.hid h2; have HV3 := Lib.hid h3; have HEE := Lib.hid hE
  have HBG := Lib.hid h.begin
  have hxk : x.key = key := by rw [hx]
  have hxv : x.v = v := by rw [hx]
  rw [hxk, hxv] at HRES
  clear h hc hx hxo hput hres hpc hrp hF hsame hk hv hkX hvX hlt h1 h2 h3 hE hmay hcv hcellv
  have ht8 : ((t : Nat) : Int) < 8 := by omega
  refine calls_post fun R HQ => ?_
  go_enter Tryz.func10, Tryz.ntmps10
  go_wp2_with fail
  refine HMAY.out.mono ?_
  rintro e w1 ⟨rfl, rfl⟩
  go_wp2_with fail
  refine HBG.out.mono ?_
  rintro e w1 ⟨bc, bn, bs, rfl, hch⟩
  rw [← HC.out] at hch
  have S0 := Lib.hid (Sx.start hch hch.top)
  have HCL := Lib.hid (bytes_clone (HK.out.fr hch.fr (by simp)) (by have := HK2.out; omega))
  have HBC := Lib.hid hch.l1
  clear hch HBG HMAY
  go_wp2_with fail
  refine HCL.out.mono ?_
  rintro e w2 ⟨kv2, rfl, ⟨gk2, hk2, hgk2⟩, hf2⟩
  obtain ⟨Ak, ck, _, rfl, _, _⟩ := id hk2
  have S1 := Lib.hid ((S0.out.quiet hf2).key ⟨gk2, hk2, S0.out.offD _ hgk2⟩)
  have HCL2 := Lib.hid (bytes_clone (HV.out.fr S1.out.fin.1.fr (by simp)) (by have := HV3.out; omega))
  clear hk2 hgk2 hf2 S0 HCL
  go_wp2_with fail
  refine HCL2.out.mono ?_
  rintro e w3 ⟨vv2, rfl, ⟨gv2, hv2, hgv2⟩, hf3⟩
  obtain ⟨Aw, cw, _, rfl, _, _⟩ := id hv2
  have S2 := Lib.hid ((S1.out.quiet hf3).key ⟨gv2, hv2, S1.out.offD _ hgv2⟩)
  clear hv2 hgv2 hf3 S1 HCL2
  go_wp2_with (first
    | (with_reducible refine wpList_alloc_z rfl 77 rfl (.agg #[.slice none 0 0, .slice none 0 0, .int .i64 0]) zit.toArray zero_it rfl ?_)
    | (refine wpList_store_z (W := w3) rfl 77 (.tmp 11) (.tmp 38) rfl [.slice Ak key.length ck, .slice Aw v.length cw, .int .i64 0] rfl rfl rfl size_it rfl three_item ?_))
  intro w4 hb4 hf4 hz4
  obtain ⟨p11, hp11⟩ : ∃ p11, p11 = w3.heap.size := ⟨_, rfl⟩
  rw [← hp11] at hb4 ⊢
  have S3 := Lib.hid (S2.out.new1 hf4 hb4 (by omega))
  clear hf4 hb4 hz4 hp11 S2
  have cr := (S3.out.ch.blk).at_ (chC_root c g bn bs ht)
  by_cases hr : c.roots t = 0
  · have hcc : c' = (c.alloc.1.root t c.alloc.2).write c.alloc.2 ⟨true, 0, [x]⟩ := by
      have := HPUT.out
      unfold putC at this
      rw [if_pos hr] at this
      exact (Option.some.inj this).symm
    subst hcc
    rw [hr] at cr
    have HR0 := Lib.hid hr
    obtain ⟨nr, hnr⟩ : ∃ nr : Nd, nr = ⟨true, 0, [x]⟩ := ⟨_, rfl⟩
    rw [← hnr] at HRES HPC2
    have hn0 : 0 < c.n := by have := HF.out.acc.next1; have := HF.out.acc.next2; omega
    have hh := head_ok HF.out.acc
    have ha2 : c.alloc.2 < c.n := by
      unfold CD.alloc
      split
      · rename_i h; exact (hh h).1
      · split
        · assumption
        · exact hn0
    have ha1 : c.alloc.1.n = c.n := alloc_n c
    have hnok := one_ok HXO.out
    rw [← hnr] at hnok
    have HA2 := Lib.hid ha2; have HA1 := Lib.hid ha1; have HHH := Lib.hid hh; have HNOK := Lib.hid hnok; have HNR := Lib.hid hnr; have HN4 := Lib.hid S3.out.fin.1.wf.n
    clear hr hnr hn0 hh ha2 ha1 hnok
    go_upto_region 8 with fail
    have S4 := Lib.hid (S3.out.quiet ((Fr.refl [] w4).drew))
    clear S3 cr
    have HAL := Lib.hid (alloc_ch HPC.out S4.out.ch HF.out.e HHH.out)
    apply tail1 (H := fun W => Hid (Sx w w1 g bc bn bs (Dm_ X w bc bn bs) ((p11, 77, [.slice Ak key.length ck, .slice Aw v.length cw, .int .i64 0]) :: []) [] (.by_ (.slice Aw v.length cw) v :: .by_ (.slice Ak key.length ck) key :: []) (c.alloc.1.root t c.alloc.2) W))
    case main =>
      intro TAIL
      refine wp_region_K (fun _ => True) [0, 1, 2, 4, 5, 6, 7] (by kernel_rfl) ?_
      refine wpAnyK_take (i := 0) (some 47) ?vq1_0 rfl rfl (by kernel_rfl) (fun _ _ _ h => h) trivial (.inl ⟨rfl, fun W hW => ?yq1_0⟩) ?_
      case yq1_0 => go_simp <;> with_reducible rfl
      simp only [nrm]
      refine wpAnyK_take (i := 1) (some 48) ?vq1_1 rfl rfl (by kernel_rfl) (fun _ _ _ h => h) trivial (.inl ⟨rfl, fun W hW => ?yq1_1⟩) ?_
      case yq1_1 => go_simp <;> with_reducible rfl
      simp only [nrm]
      refine wpAnyK_take (i := 2) (some 49) ?vq1_2 rfl rfl (by kernel_rfl) (fun _ _ _ h => h) trivial (.inl ⟨rfl, fun W hW => ?yq1_2⟩) ?_
      case yq1_2 => go_simp <;> with_reducible rfl
      simp only [nrm]
      refine wpAnyK_take (i := 4) (some 51) ?vq1_4 rfl rfl (by kernel_rfl) (fun _ _ _ h => h) trivial (.inl ⟨rfl, fun W hW => ?yq1_4⟩) ?_
      case yq1_4 => go_simp <;> with_reducible rfl
      simp only [nrm]
      refine wpAnyK_take (i := 5) (some 52) ?vq1_5 rfl rfl (by kernel_rfl) (fun _ _ _ h => h) trivial (.inl ⟨rfl, fun W hW => ?yq1_5⟩) ?_
      case yq1_5 => go_simp <;> with_reducible rfl
      simp only [nrm]
      refine wpAnyK_take (i := 6) (some 53) ?vq1_6 rfl rfl (by kernel_rfl) (fun _ _ _ h => h) trivial (.inl ⟨rfl, fun W hW => ?yq1_6⟩) ?_
      case yq1_6 => go_simp <;> with_reducible rfl
      simp only [nrm]
      refine wpAnyK_step (j := 3) (some 50) rfl rfl (by kernel_rfl) rfl fun K hK => ?_
      refine wp_call_f (l := [.tmp 49]) rfl [.pointer (some ⟨bc, 0, none⟩)] rfl (enter_alloc _) (HAL.out.mono ?_)
      rintro e w5 ⟨rfl, hc5, hf5⟩
      refine ⟨_, rfl, hK _ _ (fun _ => trivial) ?_⟩
      simp only [nrm]
      have S5 := Lib.hid (S4.out.call hf5 (by simp) hc5)
      clear hK hc5 hf5
      have hroot := S5.out.ch.root ht (v := c.alloc.2) (by have := HA2.out; have := HN4.out; omega)
      have hfz := S5.out.ch.blk.free (2 + t)
      have hcl := S5.out.ch.blk.at_ (chC_root _ g bn bs ht)
      refine wpAnyK_take (i := 7) (some 54) ?vq1_7 rfl rfl (by kernel_rfl) (fun _ _ _ h => h) trivial (.inl ⟨rfl, fun W hW => ?yq1_7⟩) ?_
      case yq1_7 => go_simp <;> with_reducible rfl
      simp only [nrm]
      refine wpAnyK_step (j := 8) none rfl rfl (by kernel_rfl) rfl fun K hK => ?_
      refine wp_run_skip (w' := w5.setCell ⟨bc, 2 + t, none⟩ (.int .i64 ((c.alloc.2 : Nat) : Int))) (by go_simp) (hK _ _ (fun _ => trivial) ?_)
      simp only [Act.put]
      clear hK
      refine wpAnyK_done (by kernel_rfl) ?_ _
      exact TAIL _ (Lib.hid (S5.out.call hroot.2 (by simp) hroot.1))
    intro w5 S5
    clear S4 HAL
    have S6 := Lib.hid (S5.out.quiet ((Fr.refl [] w5).drew))
    clear S5
    have i0 := (S6.out.loc _ (.head _)).1.at_ (i := 0) rfl
    have i1 := (S6.out.loc _ (.head _)).1.at_ (i := 1) rfl
    have i2 := (S6.out.loc _ (.head _)).1.at_ (i := 2) rfl
    have cr := S6.out.ch.blk.at_ (chC_root _ g bn bs ht)
    rw [show (c.alloc.1.root t c.alloc.2).roots t = c.alloc.2 by show (if t = t then _ else _) = _; rw [if_pos rfl]] at cr
    obtain ⟨wx, hwx⟩ : ∃ wx, wx = w5.drew.alloc (.cells ([.slice Ak key.length ck, .slice Aw v.length cw, .int .i64 0] : List Value).toArray 77) := ⟨_, rfl⟩
    have hfx : Fr [] w5.drew wx := by rw [hwx]; exact (Fr.refl [] _).alloc _
    have hbx : Blk wx w5.drew.heap.size 77 [.slice Ak key.length ck, .slice Aw v.length cw, .int .i64 0] := by rw [hwx]; exact Blk.new w5.drew _ [.slice Ak key.length ck, .slice Aw v.length cw, .int .i64 0]
    have HND0 := S6.out.row1 (n := nr) (x := x) (kv := .slice Ak key.length ck) (vv := .slice Aw v.length cw) (av := .int .i64 0) (by rw [HXX.out]; exact ⟨S6.out.kb (.tail _ (.head _)), S6.out.kb (.head _), rfl⟩) hfx hbx (Nat.le_refl _) (by rw [HNR.out])
    rw [show kindOf nr = 1 by rw [HNR.out]; rfl, show nr.first = 0 by rw [HNR.out]] at HND0
    have S7 := Lib.hid ((S6.out.quiet hfx).nd HND0)
    have HWR := Lib.hid (write_ch S7.out.ch (S7.out.kn (n := nr) (.head _)) (k := c.alloc.2) (by have := HA2.out; have := HA1.out; show _ < c.alloc.1.n; omega) HNOK.out.1 HNOK.out.2)
    have j0 := fr_keep hfx i0
    have j1 := fr_keep hfx i1
    have j2 := fr_keep hfx i2
    have jr := fr_keep hfx cr
    go_upto_region 9 with fail
    apply tail1 (H := fun W => Hid (Sx w w1 g bc bn bs (Dm_ X w bc bn bs) [] [] [] ((c.alloc.1.root t c.alloc.2).write c.alloc.2 nr) W))
    case main =>
      intro TAIL
      refine wp_region_K (fun W => W.cell? ⟨bc, 2 + t, none⟩ = some (.int .i64 ((c.alloc.2 : Nat) : Int)) ∧ W.cell? ⟨p11, 0, none⟩ = some (.slice Ak key.length ck) ∧ W.cell? ⟨p11, 1, none⟩ = some (.slice Aw v.length cw) ∧ W.cell? ⟨p11, 2, none⟩ = some (.int .i64 0)) [0, 1, 2, 3, 4, 5, 6, 7, 8, 10] (by kernel_rfl) ?_
      refine wpAnyK_take (i := 0) (some 55) ?vq2_0 rfl rfl (by kernel_rfl) (fun _ _ _ h => h) ⟨cr, i0, i1, i2⟩ (.inl ⟨rfl, fun W hW => ?yq2_0⟩) ?_
      case yq2_0 => (obtain ⟨q0, q1, q2, q3⟩ := hW; go_simp) <;> with_reducible rfl
      simp only [nrm]
      refine wpAnyK_take (i := 1) (some 56) ?vq2_1 rfl rfl (by kernel_rfl) (fun _ _ _ h => h) ⟨cr, i0, i1, i2⟩ (.inl ⟨rfl, fun W hW => ?yq2_1⟩) ?_
      case yq2_1 => (obtain ⟨q0, q1, q2, q3⟩ := hW; go_simp) <;> with_reducible rfl
      simp only [nrm]
      refine wpAnyK_take (i := 2) (some 57) ?vq2_2 rfl rfl (by kernel_rfl) (fun _ _ _ h => h) ⟨cr, i0, i1, i2⟩ (.inl ⟨rfl, fun W hW => ?yq2_2⟩) ?_
      case yq2_2 => (obtain ⟨q0, q1, q2, q3⟩ := hW; go_simp) <;> with_reducible rfl
      simp only [nrm]
      refine wpAnyK_take (i := 3) (some 58) ?vq2_3 rfl rfl (by kernel_rfl) (fun _ _ _ h => h) ⟨cr, i0, i1, i2⟩ (.inl ⟨rfl, fun W hW => ?yq2_3⟩) ?_
      case yq2_3 => (obtain ⟨q0, q1, q2, q3⟩ := hW; go_simp) <;> with_reducible rfl
      simp only [nrm]
      refine wpAnyK_take (i := 4) (some 59) ?vq2_4 rfl rfl (by kernel_rfl) (fun _ _ _ h => h) ⟨cr, i0, i1, i2⟩ (.inl ⟨rfl, fun W hW => ?yq2_4⟩) ?_
      case yq2_4 => (obtain ⟨q0, q1, q2, q3⟩ := hW; go_simp) <;> with_reducible rfl
      simp only [nrm]
      refine wpAnyK_take (i := 5) (some 60) ?vq2_5 rfl rfl (by kernel_rfl) (fun _ _ _ h => h) ⟨cr, i0, i1, i2⟩ (.inl ⟨rfl, fun W hW => ?yq2_5⟩) ?_
      case yq2_5 => (obtain ⟨q0, q1, q2, q3⟩ := hW; go_simp) <;> with_reducible rfl
      simp only [nrm]
      refine wpAnyK_take (i := 6) (some 61) ?vq2_6 rfl rfl (by kernel_rfl) (fun _ _ _ h => h) ⟨cr, i0, i1, i2⟩ (.inl ⟨rfl, fun W hW => ?yq2_6⟩) ?_
      case yq2_6 => (obtain ⟨q0, q1, q2, q3⟩ := hW; go_simp) <;> with_reducible rfl
      simp only [nrm]
      refine wpAnyK_take (i := 7) (some 62) ?vq2_7 rfl rfl (by kernel_rfl) (fun _ _ _ h => h) ⟨cr, i0, i1, i2⟩ (.inl ⟨rfl, fun W hW => ?yq2_7⟩) ?_
      case yq2_7 => (obtain ⟨q0, q1, q2, q3⟩ := hW; go_simp) <;> with_reducible rfl
      simp only [nrm]
      refine wpAnyK_take (i := 8) (some 63) ?vq2_8 rfl rfl (by kernel_rfl) (fun _ _ _ h => h) ⟨cr, i0, i1, i2⟩ (.inl ⟨rfl, fun W hW => ?yq2_8⟩) ?_
      case yq2_8 => (obtain ⟨q0, q1, q2, q3⟩ := hW; go_simp) <;> with_reducible rfl
      simp only [nrm]
      obtain ⟨ti, hti, hz', hsz', hby⟩ := info_get info_it
      refine wpAnyK_step (j := 9) (some 64) rfl rfl (by kernel_rfl) rfl fun K hK => ?_
      refine wp_build_one (.tmp 63) rfl Tryz.underlying86 hti hz' [.slice Ak key.length ck, .slice Aw v.length cw, .int .i64 0] rfl hsz' rfl (by simp) (by simp) (hK _ _ (fun _ => by rw [← hwx]; exact ⟨jr, j0, j1, j2⟩) ?_)
      simp only [nrm]
      rw [← hwx]
      clear hK hti hz' hsz' hby
      refine wpAnyK_take (i := 10) (some 65) (.agg #[.int .i64 1, .int .i64 ((0 : Nat) : Int), .slice (some ⟨w5.drew.heap.size, 0, none⟩) 1 1]) rfl rfl (by kernel_rfl) (fun _ _ _ h => h) ⟨jr, j0, j1, j2⟩ (.inl ⟨rfl, fun W hW => by go_simp⟩) ?_
      simp only [nrm]
      refine wpAnyK_step (j := 11) (some 66) rfl rfl (by kernel_rfl) rfl fun K hK => ?_
      refine wp_call_f (l := [.tmp 55, .tmp 62, .tmp 65]) rfl [.pointer (some ⟨bc, 0, none⟩), .int .i64 ((c.alloc.2 : Nat) : Int), .agg #[.int .i64 1, .int .i64 ((0 : Nat) : Int), .slice (some ⟨w5.drew.heap.size, 0, none⟩) 1 1]] rfl (enter_write _) (HWR.out.mono ?_)
      rintro e w6 ⟨rfl, hc6, hf6⟩
      have S8 := Lib.hid (S7.out.call hf6 (by simp) hc6)
      have cr' := S8.out.ch.blk.at_ (chC_root _ g bn bs ht)
      rw [show ((c.alloc.1.root t c.alloc.2).write c.alloc.2 nr).roots t = c.alloc.2 by show (if t = t then _ else _) = _; rw [if_pos rfl]] at cr'
      refine ⟨_, rfl, hK _ _ (fun _ => ⟨cr', (S8.out.loc _ (.head _)).1.at_ (i := 0) rfl, (S8.out.loc _ (.head _)).1.at_ (i := 1) rfl, (S8.out.loc _ (.head _)).1.at_ (i := 2) rfl⟩) ?_⟩
      simp only [nrm]
      clear hK hc6 hf6
      refine wpAnyK_done (by kernel_rfl) ?_ _
      exact TAIL _ (Lib.hid (S8.out.less (L' := []) (N' := []) (K' := []) (List.nil_sublist _) (List.Sublist.refl _) (by simp)))
    intro w6 S8
    clear S6 S7 i0 i1 i2 j0 j1 j2 cr jr hfx hbx HND0 HWR hwx
    -- S8: the state at last
    rcases HRES.out with ⟨P2, F2, hF2⟩ | ⟨e5, hful⟩
    ·
      have HEN := Lib.hid (end_ch HPC2.out S8.out.fin.1 (fun q hq => hq.1) hF2.e (by have := hF2.acc.next1; have := hF2.acc.next2; omega))
      have HST := Lib.hid (store_to hF2 HPC2.out.pg HPC2.out.n S8.out.fin.1.wf)
      have HWR := Lib.hid (Wr.end_ S8.out.fin.1.wf HPC2.out.n (by have := hF2.acc.next1; have := hF2.acc.next2; omega))
      clear hF2
      go_wp2_with fail
      refine HEN.out.mono ?_
      rintro e we ⟨rfl, hpx, hkp⟩
      have hkk : Kp X w we := (Kp.of S8.out.fin.1.fr).more hkp
      have HX := Lib.hid (HQ.out _ _ ⟨_, HWR.out, hkk, .inl ⟨rfl, H.out.kept hpx hkk HWR.out.same HST.out⟩⟩)
      clear hpx hkp hkk HEN
      go_wp2_with fail
      exact HX.out
    ·
      have HEN := Lib.hid (end_err S8.out.fin.1 (by rw [e5]; omega))
      rw [e5] at HEN
      have HFU := Lib.hid hful
      clear e5 hful
      go_wp2_with fail
      refine HEN.out.mono ?_
      rintro e we ⟨rfl, rfl⟩
      have HX := Lib.hid (HQ.out _ _ ⟨s, Wr.refl s, Kp.of S8.out.fin.1.fr, .inr ⟨rfl, rfl, H.out.stay S8.out.fin.1.fr, by
        have h1 := HFU.out
        have h2 := HRP.out
        have h3 := (begin_pg s.page s.n).2.1
        rw [HC.out, h3] at h1
        omega⟩⟩)
      clear HEN
      go_wp2_with fail
      exact HX.out
  · obtain ⟨c1, u, hPW, hpe, hs1, hrt, hgp⟩ := putC_parts HF.out ht HXO.out HEE.out hr
    have hcc : c' = growC c1 t u := by rw [HPUT.out] at hpe; exact Option.some.inj hpe
    subst hcc
    have hrI : ¬ ((c.roots t : Nat) : Int) = 0 := by omega
    have HPW := Lib.hid hPW; have HGP := Lib.hid hgp; have HR0 := Lib.hid hr; have HRT := Lib.hid hrt
    have HPC1 := Lib.hid (HPC.out.to hs1)
    clear hPW hpe hs1 hgp hr hrt
    go_upto_region 11 with fail
    have S4 := Lib.hid (S3.out.quiet ((Fr.refl [] w4).drew))
    clear S3
    have i0 := (S4.out.loc _ (.head _)).1.at_ (i := 0) rfl
    have i1 := (S4.out.loc _ (.head _)).1.at_ (i := 1) rfl
    have i2 := (S4.out.loc _ (.head _)).1.at_ (i := 2) rfl
    have cr := S4.out.ch.blk.at_ (chC_root c g bn bs ht)
    have HPT := Lib.hid ((put_ch 40).go (deep := 0) (kv := .slice Ak key.length ck) (vv := .slice Aw v.length cw) (av := .int .i64 0) rfl HPW.out HPC.out S4.out.ch (by
      rw [HXX.out]
      exact ⟨S4.out.kb (.tail _ (.head _)), S4.out.kb (.head _), rfl⟩) HXO.out S4.out.offD)
    apply tail3 (H := fun (_ : Option Addr) (_ : Nat) W => Hid (Sx w w1 g bc bn bs (Dm_ X w bc bn bs) [] [] [] (growC c1 t u) W))
    case main =>
      intro TAIL
      refine wp_region_K (fun _ => True) [0, 1, 2, 3, 4, 5, 6, 7, 8] (by kernel_rfl) ?_
      refine wpAnyK_take (i := 0) (some 69) ?vq3_0 rfl rfl (by kernel_rfl) (fun _ _ _ h => h) trivial (.inl ⟨rfl, fun W hW => ?yq3_0⟩) ?_
      case yq3_0 => go_simp <;> with_reducible rfl
      simp only [nrm]
      refine wpAnyK_take (i := 1) (some 70) ?vq3_1 rfl rfl (by kernel_rfl) (fun _ _ _ h => h) trivial (.inl ⟨rfl, fun W hW => ?yq3_1⟩) ?_
      case yq3_1 => go_simp <;> with_reducible rfl
      simp only [nrm]
      refine wpAnyK_take (i := 2) (some 71) ?vq3_2 rfl rfl (by kernel_rfl) (fun _ _ _ h => h) trivial (.inl ⟨rfl, fun W hW => ?yq3_2⟩) ?_
      case yq3_2 => go_simp <;> with_reducible rfl
      simp only [nrm]
      refine wpAnyK_take (i := 3) (some 72) ?vq3_3 rfl rfl (by kernel_rfl) (fun _ _ _ h => h) trivial (.inl ⟨rfl, fun W hW => ?yq3_3⟩) ?_
      case yq3_3 => go_simp <;> with_reducible rfl
      simp only [nrm]
      refine wpAnyK_take (i := 4) (some 73) ?vq3_4 rfl rfl (by kernel_rfl) (fun _ _ _ h => h) trivial (.inl ⟨rfl, fun W hW => ?yq3_4⟩) ?_
      case yq3_4 => go_simp <;> with_reducible rfl
      simp only [nrm]
      refine wpAnyK_take (i := 5) (some 74) ?vq3_5 rfl rfl (by kernel_rfl) (fun _ _ _ h => h) trivial (.inl ⟨rfl, fun W hW => ?yq3_5⟩) ?_
      case yq3_5 => go_simp <;> with_reducible rfl
      simp only [nrm]
      refine wpAnyK_take (i := 6) (some 75) ?vq3_6 rfl rfl (by kernel_rfl) (fun _ _ _ h => h) trivial (.inl ⟨rfl, fun W hW => ?yq3_6⟩) ?_
      case yq3_6 => go_simp <;> with_reducible rfl
      simp only [nrm]
      refine wpAnyK_take (i := 7) (some 76) ?vq3_7 rfl rfl (by kernel_rfl) (fun _ _ _ h => h) trivial (.inl ⟨rfl, fun W hW => ?yq3_7⟩) ?_
      case yq3_7 => go_simp <;> with_reducible rfl
      simp only [nrm]
      refine wpAnyK_take (i := 8) (some 77) ?vq3_8 rfl rfl (by kernel_rfl) (fun _ _ _ h => h) trivial (.inl ⟨rfl, fun W hW => ?yq3_8⟩) ?_
      case yq3_8 => go_simp <;> with_reducible rfl
      simp only [nrm]
      refine wpAnyK_two (i := 9) (j := 10) (some 78) (some 79) rfl rfl rfl rfl (by kernel_rfl) rfl rfl (fun K hK => ?_) (fun K hK => ?_)
      ·
        refine wp_run_same (v := .int .i64 ((c.roots t : Nat) : Int)) (by go_simp) (hK _ _ (fun _ => trivial) ?_)
        simp only [nrm]
        clear hK
        refine wpAnyK_step (j := 10) (some 79) rfl rfl (by kernel_rfl) rfl fun K hK => ?_
        refine wp_run_same (v := .agg #[.slice Ak key.length ck, .slice Aw v.length cw, .int .i64 0]) (by go_simp) (hK _ _ (fun _ => trivial) ?_)
        simp only [nrm]
        clear hK
        refine wpAnyK_step (j := 11) (some 80) rfl rfl (by kernel_rfl) rfl fun K hK => ?_
        refine wp_call_f (l := [.tmp 71, .tmp 78, .tmp 79, .const (.int .i64 0)]) rfl [.pointer (some ⟨bc, 0, none⟩), .int .i64 ((c.roots t : Nat) : Int), .agg #[.slice Ak key.length ck, .slice Aw v.length cw, .int .i64 0], .int .i64 ((0 : Nat) : Int)] rfl (enter_put _) (HPT.out.mono ?_)
        rintro e w5 ⟨uv, rfl, huv, hc5, hf5⟩
        obtain ⟨Au, cu, rfl, hbu⟩ := huv.open_
        have S5 := Lib.hid ((S4.out.call hf5 (by simp) hc5).key hbu)
        refine ⟨_, rfl, hK _ _ (fun _ => trivial) ?_⟩
        simp only [nrm]
        clear hK huv hc5 hf5
        have HGR := Lib.hid (grow_ch (u := u) HPC1.out S5.out.ch ⟨_, rfl, S5.out.kb (.head _)⟩ S5.out.offD ht HGP.out)
        refine wpAnyK_step (j := 12) (some 81) rfl rfl (by kernel_rfl) rfl fun K hK => ?_
        refine wp_call_f (l := [.tmp 69, .tmp 70, .tmp 80]) rfl [.pointer (some ⟨bc, 0, none⟩), .int .i64 (t : Int), .agg #[.slice Au u.1.length cu, .int .i64 ((u.2 : Nat) : Int)]] rfl (enter_grow _) (HGR.out.mono ?_)
        rintro e w6 ⟨rfl, hc6, hf6⟩
        have S6 := Lib.hid (S5.out.call hf6 (by simp) hc6)
        refine ⟨_, rfl, hK _ _ (fun _ => trivial) ?_⟩
        simp only [nrm]
        clear hK hc6 hf6
        refine wpAnyK_done (by kernel_rfl) ?_ _
        exact TAIL Au cu w6 (Lib.hid (S6.out.less (L' := []) (N' := []) (K' := []) (List.nil_sublist _) (List.Sublist.refl _) (by simp)))
      ·
        refine wp_run_same (v := .agg #[.slice Ak key.length ck, .slice Aw v.length cw, .int .i64 0]) (by go_simp) (hK _ _ (fun _ => trivial) ?_)
        simp only [nrm]
        clear hK
        refine wpAnyK_step (j := 9) (some 78) rfl rfl (by kernel_rfl) rfl fun K hK => ?_
        refine wp_run_same (v := .int .i64 ((c.roots t : Nat) : Int)) (by go_simp) (hK _ _ (fun _ => trivial) ?_)
        simp only [nrm]
        clear hK
        refine wpAnyK_step (j := 11) (some 80) rfl rfl (by kernel_rfl) rfl fun K hK => ?_
        refine wp_call_f (l := [.tmp 71, .tmp 78, .tmp 79, .const (.int .i64 0)]) rfl [.pointer (some ⟨bc, 0, none⟩), .int .i64 ((c.roots t : Nat) : Int), .agg #[.slice Ak key.length ck, .slice Aw v.length cw, .int .i64 0], .int .i64 ((0 : Nat) : Int)] rfl (enter_put _) (HPT.out.mono ?_)
        rintro e w5 ⟨uv, rfl, huv, hc5, hf5⟩
        obtain ⟨Au, cu, rfl, hbu⟩ := huv.open_
        have S5 := Lib.hid ((S4.out.call hf5 (by simp) hc5).key hbu)
        refine ⟨_, rfl, hK _ _ (fun _ => trivial) ?_⟩
        simp only [nrm]
        clear hK huv hc5 hf5
        have HGR := Lib.hid (grow_ch (u := u) HPC1.out S5.out.ch ⟨_, rfl, S5.out.kb (.head _)⟩ S5.out.offD ht HGP.out)
        refine wpAnyK_step (j := 12) (some 81) rfl rfl (by kernel_rfl) rfl fun K hK => ?_
        refine wp_call_f (l := [.tmp 69, .tmp 70, .tmp 80]) rfl [.pointer (some ⟨bc, 0, none⟩), .int .i64 (t : Int), .agg #[.slice Au u.1.length cu, .int .i64 ((u.2 : Nat) : Int)]] rfl (enter_grow _) (HGR.out.mono ?_)
        rintro e w6 ⟨rfl, hc6, hf6⟩
        have S6 := Lib.hid (S5.out.call hf6 (by simp) hc6)
        refine ⟨_, rfl, hK _ _ (fun _ => trivial) ?_⟩
        simp only [nrm]
        clear hK hc6 hf6
        refine wpAnyK_done (by kernel_rfl) ?_ _
        exact TAIL Au cu w6 (Lib.hid (S6.out.less (L' := []) (N' := []) (K' := []) (List.nil_sublist _) (List.Sublist.refl _) (by simp)))
    intro Au cu w6 S8
    clear S4 HPT i0 i1 i2 cr
    -- S8: the state at last
    rcases HRES.out with ⟨P2, F2, hF2⟩ | ⟨e5, hful⟩
    ·
      have HEN := Lib.hid (end_ch HPC2.out S8.out.fin.1 (fun q hq => hq.1) hF2.e (by have := hF2.acc.next1; have := hF2.acc.next2; omega))
      have HST := Lib.hid (store_to hF2 HPC2.out.pg HPC2.out.n S8.out.fin.1.wf)
      have HWR := Lib.hid (Wr.end_ S8.out.fin.1.wf HPC2.out.n (by have := hF2.acc.next1; have := hF2.acc.next2; omega))
      clear hF2
      go_wp2_with fail
      refine HEN.out.mono ?_
      rintro e we ⟨rfl, hpx, hkp⟩
      have hkk : Kp X w we := (Kp.of S8.out.fin.1.fr).more hkp
      have HX := Lib.hid (HQ.out _ _ ⟨_, HWR.out, hkk, .inl ⟨rfl, H.out.kept hpx hkk HWR.out.same HST.out⟩⟩)
      clear hpx hkp hkk HEN
      go_wp2_with fail
      exact HX.out
    ·
      have HEN := Lib.hid (end_err S8.out.fin.1 (by rw [e5]; omega))
      rw [e5] at HEN
      have HFU := Lib.hid hful
      clear e5 hful
      go_wp2_with fail
      refine HEN.out.mono ?_
      rintro e we ⟨rfl, rfl⟩
      have HX := Lib.hid (HQ.out _ _ ⟨s, Wr.refl s, Kp.of S8.out.fin.1.fr, .inr ⟨rfl, rfl, H.out.stay S8.out.fin.1.fr, by
        have h1 := HFU.out
        have h2 := HRP.out
        have h3 := (begin_pg s.page s.n).2.1
        rw [HC.out, h3] at h1
        omega⟩⟩)
      clear HEN
      go_wp2_with fail
      exact HX.out
end
end Go.Proofs.YtpjbdpepofnleaaGreat
end
section
namespace Go.Proofs.YtpjbdpepofnleaaGreat
open Go.RowKit Go.ChangeMaps Go.MapKept Go.Maps Go.Sort Go.Shelf
def hasE (E : En) (key : Ky) : Bool := E.any fun e => decide (e.1 = key)
theorem hasE_iff (E : En) (key : Ky) : hasE E key = true ↔ ∃ e ∈ E, e.1 = key := by
  unfold hasE
  rw [List.any_eq_true]
  simp
theorem growC_same (c : CD) (t : Nat) (u : Ky × Nat) : (growC c t u).pg = c.pg ∧ (growC c t u).n = c.n := by
  unfold growC
  split
  · exact ⟨rfl, rfl⟩
  · unfold CD.alloc
    split
    · exact ⟨rfl, rfl⟩
    · split
      · exact ⟨rfl, rfl⟩
      · unfold CD.full; split <;> exact ⟨rfl, rfl⟩
theorem setR_same (E : Nat → En) (t : Nat) : setR E t (E t) = E := by
  funext j
  unfold setR
  split
  · rename_i h; rw [h]
  · rfl
theorem delC_parts {c : CD} {E : Nat → En} {P : Nat → List Nat} {F : List Nat} {t : Nat} {key : Ky} (h : Forest c E P F) (ht : t < 8) (hE : (E t).length < 1099511627776) (hr : c.roots t ≠ 0) :
    ∃ c1 is u, CutW 40 c (c.roots t) key c1 is u ∧ (c1.pg = c.pg ∧ c1.n = c.n) ∧ (u.2 ≠ 0 → 1 ≤ u.1.length ∧ u.1.length ≤ 96 ∧ u.2 < 65536 ∧ c1.e = 0 ∧ 0 < c1.n ∧ (c1.head ≠ 0 → c1.head < c1.n ∧ ∃ j, c1.nx c1.head = some j)) ∧
      (is = false → growC c1 t u = c ∧ delC c t key = some (c, false)) ∧ (is = true → delC c t key = (lowerC (growC c1 t u) t).map fun d => (d, true)) := by
  have ha := h.acc.swap (allP_perm ht).symm
  rcases h.tree t ht with ⟨r0, _, _⟩ | ⟨_, hh, hs⟩
  · exact absurd r0 hr
  · obtain ⟨c1, is, u, e1, _, hno, hyes⟩ := cut_ok hh (f := 40) (key := key) (height_lt hs hE) hs ha h.e (fun _ h => by cases h) (fun _ h => by cases h)
    have hW := cutW_ok hh (height_lt hs hE) hs ha h.e (fun _ h => by cases h) (fun _ h => by cases h) _ _ _ e1
    have hd : delC c t key = if is then (lowerC (growC c1 t u) t).map fun d => (d, true) else some (c1, false) := by
      unfold delC
      rw [if_neg hr, e1]
    refine ⟨c1, is, u, hW, hW.same, fun hu => ?_, fun hi => ?_, fun hi => by rw [hd, if_pos hi]⟩
    · cases is with
      | false => exact absurd (hno rfl).2 hu
      | true => exact grow_pre (hyes rfl) hu
    · obtain ⟨a, b⟩ := hno hi
      subst a
      refine ⟨by unfold growC; rw [if_pos b], by rw [hd, hi]; rfl⟩
def DelEnd (w0 : World) (dk g st : Nat) (s : PS) (X : Nat → Prop) (E : Nat → En) (t : Nat) (key : Ky) (w : World) (e : Ending) (w' : World) : Prop :=
  ∃ s', Wr s s' ∧ Kp X w w' ∧ ((e = .returned (.tuple #[.bool (hasE (E t) key), .int .i64 0]) ∧ StX w0 w' dk g st s' X (setR E t (delE (E t) key))) ∨ (e = .returned (.tuple #[.bool false, .int .i64 5]) ∧ s' = s ∧ StX w0 w' dk g st s X E ∧ s.n ≤ 2 * (delE (E t) key).length + 2 * (restE E t).length))
section
variable {w0 w : World} {dk g st : Nat} {s : PS} {X : Nat → Prop} {E : Nat → En}
set_option maxRecDepth 100000 in
set_option maxHeartbeats 8000000 in
/-- Delete. -/
theorem Delete_X (h : StX w0 w dk g st s X E) {t : Nat} (ht : t < 8) {kv : Value} {key : Ky} {gk : Nat} (hk : BytesAt w kv key gk) (hkX : X gk) (h1 : 1 ≤ key.length) (h2 : key.length ≤ 96) (hE : (E t).length < 1099511627776) :
    Calls Tryz.prog 15 #[.pointer (some ⟨st, 0, none⟩), .int .i64 (t : Int), kv] w (DelEnd w0 dk g st s X E t key w) := by
  have hlt : ∀ q, X q → q < w.heap.size := by obtain ⟨_, _, _, _, _, _, _, h4⟩ := h.px; exact h4
  obtain ⟨_, _, P, F, hF⟩ := h.store
  obtain ⟨c, hc⟩ : ∃ c, c = beginC s.page s.n := ⟨_, rfl⟩
  rw [← hc] at hF
  obtain ⟨c', is, hdel, hsame, his, hno, hres⟩ := del_forest (key := key) hF ht hE
  have hhas : hasE (E t) key = is := by
    rw [Bool.eq_iff_iff, hasE_iff]
    exact his.symm
  have hpc := h.pgc
  rw [← hc] at hpc
  have hrp := rest_pages hF t
  have hmay : mayB (t : Int) key = true := by
    unfold mayB
    have a1 : (0 : Int) ≤ (t : Int) := by omega
    have a2 : (t : Int) < 8 := by omega
    simp [a1, a2, h2]
    omega
  have H := Lib.hid h; have HC := Lib.hid hc; have HDEL := Lib.hid hdel; have HRES := Lib.hid hres; have HPC := Lib.hid hpc; have HRP := Lib.hid hrp; have HF := Lib.hid hF; have HHAS := Lib.hid hhas
  have HPC2 : Hid (PgC w0 w dk g s X c') := Lib.hid (hpc.to ⟨hsame.pg, hsame.n⟩)
  have HMAY := Lib.hid (may_any (t : Int) hk)
  rw [hmay] at HMAY
  have HK := Lib.hid hk; have HKX := Lib.hid hkX; have HLT := Lib.hid hlt
  have HEE := Lib.hid hE; have HNO := Lib.hid hno
  have HBG := Lib.hid h.begin
  clear h hc hdel hres hpc hrp hF hsame hk hkX hlt h1 h2 hE hmay hhas his hno
  have ht8 : ((t : Nat) : Int) < 8 := by omega
  refine calls_post fun R HQ => ?_
  go_enter Tryz.func15, Tryz.ntmps15
  go_wp2_with fail
  refine HMAY.out.mono ?_
  rintro e w1 ⟨rfl, rfl⟩
  go_wp2_with fail
  refine HBG.out.mono ?_
  rintro e w1 ⟨bc, bn, bs, rfl, hch⟩
  rw [← HC.out] at hch
  have S0 := Lib.hid (Sx.start hch hch.top)
  have HKD := Lib.hid (H.out.key HK.out HKX.out hch.l1 hch.l2 hch.l3 hch.fr)
  clear hch HBG HMAY
  have cr := (S0.out.ch.blk).at_ (chC_root c g bn bs ht)
  by_cases hr : c.roots t = 0
  · rw [hr] at cr
    have hEt : E t = [] := by
      rcases HF.out.tree t ht with ⟨_, h, _⟩ | ⟨h, _⟩
      · exact h
      · exact absurd hr h
    have HX := Lib.hid (HQ.out _ _ ⟨s, Wr.refl s, Kp.of S0.out.fin.1.fr, .inl ⟨by rw [hEt]; first | done | rfl, by
      have e : setR E t (delE (E t) key) = E := by
        rw [show delE (E t) key = E t by rw [hEt]; rfl, setR_same]
      rw [e]
      exact H.out.stay S0.out.fin.1.fr⟩⟩)
    have HR0 := Lib.hid hr
    clear hr hEt
    go_wp2_with fail
    exact HX.out
  · obtain ⟨c1, is1, u, hCW, hs1, hgp, hf, htr⟩ := delC_parts (key := key) HF.out ht HEE.out hr
    have hrI : ¬ ((c.roots t : Nat) : Int) = 0 := by omega
    have HCW := Lib.hid hCW; have HGP := Lib.hid hgp; have HR0 := Lib.hid hr; have HFF := Lib.hid hf; have HTR := Lib.hid htr
    have HPC1 := Lib.hid (HPC.out.to hs1)
    clear hCW hs1 hgp hr hf htr
    have HCT := Lib.hid ((cut_ch 40).go (deep := 0) rfl HCW.out HPC.out S0.out.fin.1 HKD.out S0.out.fin.1.top)
    go_wp2_with fail
    refine HCT.out.mono ?_
    rintro e w2 ⟨uv, rfl, huv, hc2, hf2⟩
    obtain ⟨Au, cu, rfl, hbu⟩ := huv.open_
    have S1 := Lib.hid ((Sx.start hc2 hc2.top).key (hbu.imp fun q hq => ⟨hq.1, hq.2, fun _ h => by simp at h, fun _ h => by simp at h⟩))
    clear huv hc2 hf2 HCT S0 cr hbu
    go_wp2_with (first
      | (with_reducible refine wpList_alloc_z rfl 91 rfl (.agg #[.slice none 0 0, .int .i64 0]) zup.toArray zero_up rfl ?_)
      | (refine wpList_store_z (W := w2) rfl 91 (.tmp 11) (.tmp 51) rfl [.slice Au u.1.length cu, .int .i64 ((u.2 : Nat) : Int)] rfl rfl rfl size_up rfl two_cells ?_))
    intro w3 hb3 hf3 hz3
    obtain ⟨p11, hp11⟩ : ∃ p11, p11 = w2.heap.size := ⟨_, rfl⟩
    rw [← hp11] at hb3 ⊢
    have S2 := Lib.hid (S1.out.new1 hf3 hb3 (by omega))
    clear hf3 hb3 hz3 hp11 S1
    have i0 := (S2.out.loc _ (.head _)).1.at_ (i := 0) rfl
    have i1 := (S2.out.loc _ (.head _)).1.at_ (i := 1) rfl
    have HGR := Lib.hid (grow_ch (u := u) HPC1.out S2.out.ch ⟨_, rfl, S2.out.kb (.head _)⟩ S2.out.offD ht HGP.out)
    go_wp2_with fail
    refine HGR.out.mono ?_
    rintro e w4 ⟨rfl, hc4, hf4⟩
    have S3 := Lib.hid ((S2.out.call hf4 (by simp) hc4).less (L' := []) (N' := []) (K' := []) (List.nil_sublist _) (List.Sublist.refl _) (by simp))
    clear hc4 hf4 HGR S2 i0 i1
    cases is1 with
    | false =>
      obtain ⟨hg1, hd1⟩ := HFF.out rfl
      rw [hg1] at S3
      have hcc : c' = c ∧ is = false := by
        rw [HDEL.out] at hd1
        have := Option.some.inj hd1
        exact ⟨congrArg Prod.fst this, congrArg Prod.snd this⟩
      obtain ⟨hcc1, hcc2⟩ := hcc
      subst hcc2
      rw [← hcc1] at S3
      clear hg1 hd1 hcc1
      have hdf : True := trivial
      -- S3: the state at last
      rcases HRES.out with ⟨P2, F2, hF2⟩ | ⟨e5, hist, hful⟩
      ·
        have HEN := Lib.hid (end_ch HPC2.out S3.out.fin.1 (fun q hq => hq.1) hF2.e (by have := hF2.acc.next1; have := hF2.acc.next2; omega))
        have HST := Lib.hid (store_to hF2 HPC2.out.pg HPC2.out.n S3.out.fin.1.wf)
        have HWR := Lib.hid (Wr.end_ S3.out.fin.1.wf HPC2.out.n (by have := hF2.acc.next1; have := hF2.acc.next2; omega))
        clear hF2
        go_wp2_with fail
        refine HEN.out.mono ?_
        rintro e we ⟨rfl, hpx, hkp⟩
        have hkk : Kp X w we := (Kp.of S3.out.fin.1.fr).more hkp
        have HX := Lib.hid (HQ.out _ _ ⟨_, HWR.out, hkk, .inl ⟨by rw [HHAS.out], H.out.kept hpx hkk HWR.out.same HST.out⟩⟩)
        clear hpx hkp hkk HEN
        go_wp2_with fail
        exact HX.out
      ·
        have HEN := Lib.hid (end_err S3.out.fin.1 (by rw [e5]; omega))
        rw [e5] at HEN
        have HFU := Lib.hid hful
        have HIST := Lib.hid hist
        clear e5 hful hist
        go_wp2_with fail
        refine HEN.out.mono ?_
        rintro e we ⟨rfl, rfl⟩
        have HX := Lib.hid (HQ.out _ _ ⟨s, Wr.refl s, Kp.of S3.out.fin.1.fr, .inr ⟨rfl, rfl, H.out.stay S3.out.fin.1.fr, by
          have h1 := HFU.out
          have h2 := HRP.out
          have h3 := (begin_pg s.page s.n).2.1
          rw [HC.out, h3] at h1
          omega⟩⟩)
        clear HEN
        go_wp2_with fail
        exact HX.out
    | true =>
      have hl := HTR.out rfl
      rw [HDEL.out] at hl
      cases hlc : lowerC (growC c1 t u) t with
      | none => rw [hlc] at hl; cases hl
      | some d =>
        rw [hlc] at hl
        have hcc : c' = d ∧ is = true := by
          have := Option.some.inj hl
          exact ⟨congrArg Prod.fst this, congrArg Prod.snd this⟩
        obtain ⟨rfl, rfl⟩ := hcc
        obtain ⟨n, hn⟩ : ∃ n, (growC c1 t u).N ((growC c1 t u).roots t) = some n := by
          cases hN : (growC c1 t u).N ((growC c1 t u).roots t) with
          | some n => exact ⟨n, rfl⟩
          | none => unfold lowerC at hlc; rw [hN] at hlc; cases hlc
        have HLW := Lib.hid (lower_ch (HPC1.out.to (growC_same c1 t u)) S3.out.fin.1 S3.out.fin.1.top ht hn hlc)
        clear hl hlc hn
        go_wp2_with fail
        refine HLW.out.mono ?_
        rintro e w5 ⟨rfl, hc5, hf5⟩
        have S4 := Lib.hid (Sx.start hc5 hc5.top)
        clear hc5 hf5 HLW S3
        -- S4: the state at last
        rcases HRES.out with ⟨P2, F2, hF2⟩ | ⟨e5, hist, hful⟩
        ·
          have HEN := Lib.hid (end_ch HPC2.out S4.out.fin.1 (fun q hq => hq.1) hF2.e (by have := hF2.acc.next1; have := hF2.acc.next2; omega))
          have HST := Lib.hid (store_to hF2 HPC2.out.pg HPC2.out.n S4.out.fin.1.wf)
          have HWR := Lib.hid (Wr.end_ S4.out.fin.1.wf HPC2.out.n (by have := hF2.acc.next1; have := hF2.acc.next2; omega))
          clear hF2
          go_wp2_with fail
          refine HEN.out.mono ?_
          rintro e we ⟨rfl, hpx, hkp⟩
          have hkk : Kp X w we := (Kp.of S4.out.fin.1.fr).more hkp
          have HX := Lib.hid (HQ.out _ _ ⟨_, HWR.out, hkk, .inl ⟨by rw [HHAS.out], H.out.kept hpx hkk HWR.out.same HST.out⟩⟩)
          clear hpx hkp hkk HEN
          go_wp2_with fail
          exact HX.out
        ·
          have HEN := Lib.hid (end_err S4.out.fin.1 (by rw [e5]; omega))
          rw [e5] at HEN
          have HFU := Lib.hid hful
          have HIST := Lib.hid hist
          clear e5 hful hist
          go_wp2_with fail
          refine HEN.out.mono ?_
          rintro e we ⟨rfl, rfl⟩
          have HX := Lib.hid (HQ.out _ _ ⟨s, Wr.refl s, Kp.of S4.out.fin.1.fr, .inr ⟨rfl, rfl, H.out.stay S4.out.fin.1.fr, by
            have h1 := HFU.out
            have h2 := HRP.out
            have h3 := (begin_pg s.page s.n).2.1
            rw [HC.out, h3] at h1
            omega⟩⟩)
          clear HEN
          go_wp2_with fail
          exact HX.out
end
end Go.Proofs.YtpjbdpepofnleaaGreat
end
section
namespace Go.Proofs.YtpjbdpepofnleaaGreat
open Go.RowKit Go.ChangeMaps Go.MapKept Go.Maps Go.Sort Go.Shelf
def FindW : Nat → CD → Nat → Ky → Nd → Prop
  | 0, _, _, _, _ => False
  | f + 1, c, k, key, nf => ∃ n, c.N k = some n ∧ KRise n.l ∧ ((n.lf = true ∧ nf = n) ∨ (n.lf = false ∧ FindW f c (n.child (n.way key)) key nf))
theorem findW_ok : ∀ (h : Nat) {f : Nat} {c : CD} {k : Nat} {lo hi : Option Ky} {E : En} {P : List Nat} {key : Ky}, h < f → Sub c.N 1 h k lo hi E P → geLo lo key → ltHi hi key →
    ∃ n, FindW f c k key n ∧ n.lf = true ∧ n.ok ∧ KRise n.l ∧ n.l.length ≤ 509 ∧ Rise (entOf n.l) ∧ getE (entOf n.l) key = getE E key
  | 0, f, c, k, lo, hi, E, P, key, hf, hs, h1, h2 => by
    obtain ⟨f, rfl⟩ : ∃ g, f = g + 1 := ⟨f - 1, by omega⟩
    obtain ⟨n, P', e1, hok, hsz, hm, rfl, hlf, rfl, rfl, hr, hw⟩ := hs
    exact ⟨n, ⟨n, e1, rise_keys hr, .inl ⟨hlf, rfl⟩⟩, hlf, hok, rise_keys hr, items_few hsz, hr, rfl⟩
  | h + 1, f, c, k, lo, hi, E, P, key, hf, hs, h1, h2 => by
    obtain ⟨f, rfl⟩ : ∃ g, f = g + 1 := ⟨f - 1, by omega⟩
    obtain ⟨n, P', e1, hok, hsz, hm, rfl, hlf, hK⟩ := hs
    obtain ⟨A, B, hl, hAl, hAt, hBd, g1, g2⟩ := way_split (n := n) h1 h2
    have hkeys0 := (Kids.keys Sub.fine hK).1
    have hkeys := hkeys0
    rw [hl] at hK hkeys
    have hpA := (List.pairwise_append.1 hkeys).1
    obtain ⟨EA, PA, E0, P0, EB, PB, kL, k0, kR, rfl, rfl⟩ := Kids.focus.1 hK
    obtain ⟨q1, q2⟩ := putE_focus Sub.fine kL kR (_E0 := E0) hpA g1 g2
    have hch : n.child (n.way key) = chOf n.first A := by unfold Nd.child; rw [hAt]
    obtain ⟨n', a1, a2, a0, a3, a4, a5, a6⟩ := findW_ok h (f := f) (by omega) k0 g1 g2
    refine ⟨n', ⟨n, e1, hkeys0, .inr ⟨hlf, by rw [hch]; exact a1⟩⟩, a2, a0, a3, a4, a5, ?_⟩
    rw [a6, getE_append (fun e he hk => klt_irrefl key (by have := q1 e he; rwa [hk] at this)), getE_left (fun e he hk => klt_irrefl key (by have := q2 e he; rwa [hk] at this))]
theorem enter_way (vs : Array Value) (w : World) : (callFunc 73 vs).run Tryz.prog w = .ok (.enter 73 vs) w := by kernel_rfl
section
variable {w0 wS w : World} {dk g bc bn bs : Nat} {s : PS} {X D : Nat → Prop} {c : CD}
set_option maxRecDepth 100000 in
set_option maxHeartbeats 8000000 in
/-- The leaf of a key. -/
theorem find_ch {t : Nat} {kv : Value} {key : Ky} {nf : Nd} (hp : PgC w0 wS dk g s X c) (h : ChAt wS w g bc bn bs D c) (hk : ∃ q, BytesAt w kv key q ∧ D q) (hD : ∀ q, w.heap.size ≤ q → D q) (ht : t < 8) (hF : FindW 40 c (c.roots t) key nf) :
    Calls Tryz.prog 39 #[.pointer (some ⟨bc, 0, none⟩), .int .i64 (t : Int), kv] w fun e w' => ∃ nv, e = .returned (.tuple #[nv, .int .i64 0]) ∧ NdV D w' 0 nv nf ∧ ChAt wS w' g bc bn bs D c ∧ Fr [bc, bn, bs] w w' := by
  obtain ⟨wb, hwb⟩ : ∃ wb, wb = w.alloc (.cells znd.toArray 88) := ⟨_, rfl⟩
  have hf0 : Fr [] w wb := by rw [hwb]; exact (Fr.refl [] w).alloc _
  have hb6 : Blk wb w.heap.size 88 znd := by rw [hwb]; exact Blk.new w _ znd
  have hO : ∀ q, D q → Off D [] [] q := fun q hq => ⟨hq, fun _ h => by simp at h, fun _ h => by simp at h⟩
  have S1 := Lib.hid (((Sx.start h hD).key (hk.imp fun q hq => ⟨hq.1, hO q hq.2⟩)).new1 hf0 hb6 (Nat.le_refl _))
  have ht8 : ((t : Nat) : Int) < 8 := by omega
  have HP := Lib.hid hp; have HFW := Lib.hid hF
  clear h hk hD hp hF hf0 hb6 hO
  have cr := (S1.out.ch.blk).at_ (chC_root c g bn bs ht)
  refine calls_post fun R HQ => ?_
  go_enter Tryz.func39, Tryz.ntmps39
  go_upto_region 1 with (with_reducible refine wpList_alloc_z rfl 88 rfl (.agg #[.int .i64 0, .int .i64 0, .slice none 0 0]) znd.toArray zero_nd rfl ?_)
  rw [← hwb]
  clear hwb
  go_wp2_with fail
  go_loopw [8, 18] (fun v8 v18 wr => ∃ k kk : Nat, k ≤ 40 ∧ v8 = .int .i64 (kk : Int) ∧ v18 = .int .i64 (k : Int) ∧ FindW (40 - k) c kk key nf ∧ Sx wS w g bc bn bs D [(w.heap.size, 88, znd)] [] [.by_ kv key] c wr) (fun _ v _ => 40 - (intOf v).toNat)
  case atStart => exact ⟨0, c.roots t, by omega, rfl, rfl, HFW.out, S1.out⟩
  case round =>
    obtain ⟨k, kk, hk, rfl, rfl, hfw, hS⟩ := hrel
    have S2 := Lib.hid hS
    clear hS cr
    by_cases hk40 : k < 40
    · obtain ⟨f, hfk⟩ : ∃ f, 40 - k = f + 1 := ⟨40 - k - 1, by omega⟩
      rw [hfk] at hfw
      obtain ⟨n, hN, hKR, hW⟩ := hfw
      obtain ⟨hkn, hok, hsz⟩ := S2.out.ch.wf.N_ok hN
      have hfew := items_few hsz
      have HNC := Lib.hid (node_ch HP.out S2.out.ch hN S2.out.offD)
      have HKR := Lib.hid hKR; have HFEW := Lib.hid hfew; have HW := Lib.hid hW; have HFK := Lib.hid hfk
      clear hN hKR hW hok hsz hfew hkn hfk
      go_wp2_with fail
      refine HNC.out.mono ?_
      rintro e w3 ⟨nv, rfl, hnv, hf3⟩
      obtain ⟨A, ca, rfl, S3'⟩ := S2.out.node_r hf3 hnv
      have S3 := Lib.hid S3'
      clear hnv hf3 S3' S2 HNC
      go_wp2_with (first
        | (with_reducible refine wpList_alloc_z rfl 88 rfl (.agg #[.int .i64 0, .int .i64 0, .slice none 0 0]) znd.toArray zero_nd rfl ?_)
        | (refine wpList_store_z (W := w3) rfl 88 (.tmp 9) (.tmp 24) rfl [.int .i64 (kindOf n), .int .i64 (n.first : Int), .slice A n.l.length ca] rfl rfl rfl size_nd rfl three_cells ?_))
      intro w4 hb4 hf4 hz4
      obtain ⟨p9, hp9⟩ : ∃ p9, p9 = w3.heap.size := ⟨_, rfl⟩
      rw [← hp9] at hb4 ⊢
      have S4 := Lib.hid (S3.out.new1 hf4 hb4 (by omega))
      clear hf4 hb4 hz4 hp9 S3
      have d0 := (S4.out.loc _ (.head _)).1.at_ (i := 0) rfl
      have d1 := (S4.out.loc _ (.head _)).1.at_ (i := 1) rfl
      have d2 := (S4.out.loc _ (.head _)).1.at_ (i := 2) rfl
      go_wp2_with fail
      refine (leaf_nd n).mono ?_
      rintro e w5 ⟨rfl, hf5⟩
      have S5 := Lib.hid (S4.out.quiet hf5)
      clear hf5 S4 d0 d1 d2
      have d0 := (S5.out.loc _ (.head _)).1.at_ (i := 0) rfl
      have d1 := (S5.out.loc _ (.head _)).1.at_ (i := 1) rfl
      have d2 := (S5.out.loc _ (.head _)).1.at_ (i := 2) rfl
      cases hlf : n.lf with
      | true =>
        have hnf : nf = n := by
          rcases HW.out with ⟨_, h⟩ | ⟨h, _⟩
          · exact h
          · rw [hlf] at h; cases h
        have HNF := Lib.hid hnf
        clear hlf hnf
        have S6 := Lib.hid (S5.out.perm (List.Perm.swap _ _ _))
        have HBR := Lib.hid (S6.out.loc _ (.head _)).1
        go_wp2_with (refine wpL_store rfl 88 (.tmp 6) (.tmp 32) rfl [.int .i64 (kindOf n), .int .i64 (n.first : Int), .slice A n.l.length ca] rfl rfl HBR.out size_nd rfl three_cells ?_)
        intro we hbe hfe hze
        have S7 := Lib.hid (S6.out.set_ hfe hbe)
        have HBE := Lib.hid hbe
        have HX := Lib.hid (HQ.out _ _ ⟨_, rfl, by rw [HNF.out]; exact (S7.out.kn (n := n) (.head _)).weak Off.d, S7.out.fin⟩)
        clear hbe hfe hze S5 S6 d0 d1 d2
        go_wp2_with fail
        exact bodyPost_ret (results_ct2 (g := w.heap.size) (t' := 88) (cs := [.int .i64 (kindOf n), .int .i64 (n.first : Int), .slice A n.l.length ca]) (d := _) rfl rfl HBE.out Tryz.underlying88 rfl size_nd) rfl HX.out
      | false =>
        have hnf : FindW f c (n.child (n.way key)) key nf := by
          rcases HW.out with ⟨h, _⟩ | ⟨_, h⟩
          · rw [hlf] at h; cases h
          · exact h
        have HNF := Lib.hid hnf
        clear hlf hnf
        obtain ⟨gk, hgk, _⟩ := S5.out.kb (b := key) (.tail _ (.head _))
        have HGK := Lib.hid hgk
        clear hgk
        go_upto_region 7 with fail
        have S6 := Lib.hid (S5.out.quiet ((Fr.refl [] w5).drew))
        have d0 := (S6.out.loc _ (.head _)).1.at_ (i := 0) rfl
        have d1 := (S6.out.loc _ (.head _)).1.at_ (i := 1) rfl
        have d2 := (S6.out.loc _ (.head _)).1.at_ (i := 2) rfl
        refine wp_region_K (fun W => W.cell? ⟨p9, 0, none⟩ = some (.int .i64 (kindOf n)) ∧ W.cell? ⟨p9, 1, none⟩ = some (.int .i64 (n.first : Int)) ∧ W.cell? ⟨p9, 2, none⟩ = some (.slice A n.l.length ca)) [0, 1, 2] (by kernel_rfl) ?_
        refine wpAnyK_take (i := 0) (some 34) ?vq1_0 rfl rfl (by kernel_rfl) (fun _ _ _ h => h) ⟨d0, d1, d2⟩ (.inl ⟨rfl, fun W hW => ?yq1_0⟩) ?_
        case yq1_0 => (obtain ⟨q0, q1, q2⟩ := hW; go_simp) <;> with_reducible rfl
        simp only [nrm]
        refine wpAnyK_take (i := 1) (some 35) ?vq1_1 rfl rfl (by kernel_rfl) (fun _ _ _ h => h) ⟨d0, d1, d2⟩ (.inl ⟨rfl, fun W hW => ?yq1_1⟩) ?_
        case yq1_1 => (obtain ⟨q0, q1, q2⟩ := hW; go_simp) <;> with_reducible rfl
        simp only [nrm]
        refine wpAnyK_take (i := 2) (some 36) ?vq1_2 rfl rfl (by kernel_rfl) (fun _ _ _ h => h) ⟨d0, d1, d2⟩ (.inl ⟨rfl, fun W hW => ?yq1_2⟩) ?_
        case yq1_2 => (obtain ⟨q0, q1, q2⟩ := hW; go_simp) <;> with_reducible rfl
        simp only [nrm]
        refine wpAnyK_step (j := 3) (some 37) rfl rfl (by kernel_rfl) rfl fun K hK => ?_
        refine wp_call_f (l := [.tmp 35, .tmp 36]) rfl [.agg #[.int .i64 (kindOf n), .int .i64 (n.first : Int), .slice A n.l.length ca], kv] rfl (enter_way _) ((way_nd (S6.out.kn (n := n) (.head _)) (HGK.out.fr ((Fr.refl [] w5).drew) (by simp)) HKR.out (by have := HFEW.out; omega)).mono ?_)
        rintro e w6 ⟨rfl, hf6⟩
        refine ⟨_, rfl, hK _ _ (fun _ => ⟨fr_keep hf6 d0, fr_keep hf6 d1, fr_keep hf6 d2⟩) ?_⟩
        simp only [nrm]
        have S7 := Lib.hid (S6.out.quiet hf6)
        clear hK hf6
        refine wpAnyK_step (j := 4) (some 38) rfl rfl (by kernel_rfl) rfl fun K hK => ?_
        refine wp_call_f (l := [.tmp 34, .tmp 37]) rfl [.agg #[.int .i64 (kindOf n), .int .i64 (n.first : Int), .slice A n.l.length ca], .int .i64 ((n.way key : Nat) : Int)] rfl (enter_child _) ((child_nd (S7.out.kn (n := n) (.head _)) (way_le n key) (by have := HFEW.out; omega)).mono ?_)
        rintro e w7 ⟨rfl, hf7⟩
        have S8 := Lib.hid (S7.out.quiet hf7)
        refine ⟨_, rfl, hK _ _ (fun _ => ⟨(S8.out.loc _ (.head _)).1.at_ (i := 0) rfl, (S8.out.loc _ (.head _)).1.at_ (i := 1) rfl, (S8.out.loc _ (.head _)).1.at_ (i := 2) rfl⟩) ?_⟩
        simp only [nrm]
        clear hK hf7
        refine wpAnyK_step (j := 5) (some 8) rfl rfl (by kernel_rfl) rfl fun K hK => ?_
        refine wp_run_same (v := ?aq1_5) ?yq1_5 (hK _ _ (fun _ => ⟨(S8.out.loc _ (.head _)).1.at_ (i := 0) rfl, (S8.out.loc _ (.head _)).1.at_ (i := 1) rfl, (S8.out.loc _ (.head _)).1.at_ (i := 2) rfl⟩) ?_)
        case yq1_5 => go_simp <;> with_reducible rfl
        simp only [nrm]
        refine wpAnyK_done (by kernel_rfl) ?_ _
        have HX : Hid (∃ j kk : Nat, j ≤ 40 ∧ Value.int .i64 ((n.child (n.way key) : Nat) : Int) = .int .i64 (kk : Int) ∧ Value.int .i64 ((k : Int) + 1) = .int .i64 (j : Int) ∧ FindW (40 - j) c kk key nf ∧ Sx wS w g bc bn bs D [(w.heap.size, 88, znd)] [] [.by_ kv key] c w7) := Lib.hid ⟨k + 1, n.child (n.way key), hk40, rfl, rfl, by rw [show 40 - (k + 1) = f by have := HFK.out; omega]; exact HNF.out, S8.out.less (.cons _ (List.Sublist.refl _)) (List.Sublist.refl _) fun k hk => by simp only [List.mem_cons, List.not_mem_nil, or_false] at hk ⊢; simp [hk]⟩
        clear S5 S6 S7 S8 d0 d1 d2
        have hw1 : IntKind.i64.wrap ((k : Int) + 1) = (k : Int) + 1 := by rw [IntKind.wrap_i64]; omega
        go_wp2_with fail
        go_roundw
        case rel => exact HX.out
        case measure => simp [intOf]; omega
    · obtain rfl : k = 40 := by omega
      exact hfw.elim
end
end Go.Proofs.YtpjbdpepofnleaaGreat
end
section
namespace Go.Proofs.YtpjbdpepofnleaaGreat
open Go.RowKit Go.ChangeMaps Go.MapKept Go.Maps Go.Sort Go.Shelf
theorem results_ttt {P : Program} {fn : Func} {tmps : Array Value} {w : World} {k k2 k3 : Tmp} (hr : fn.results = #[.tmp k, .tmp k2, .tmp k3]) : (results fn tmps).run P w = .ok (.tuple #[tmps.getD k undef, tmps.getD k2 undef, tmps.getD k3 undef]) w := by
  simp [results, hr, go_sem]
def GetEnd (E : Nat → En) (t : Nat) (key : Ky) (w : World) (e : Ending) (w' : World) : Prop :=
  ∃ v, e = .returned (.tuple #[v, .bool (getE (E t) key).isSome, .int .i64 0]) ∧ (∃ q, BytesAt w' v ((getE (E t) key).getD []) q ∧ w.heap.size ≤ q) ∧ Fr [] w w'
theorem find_parts {c : CD} {E : Nat → En} {P : Nat → List Nat} {F : List Nat} {t : Nat} (key : Ky) (h : Forest c E P F) (ht : t < 8) (hE : (E t).length < 1099511627776) (hr : c.roots t ≠ 0) :
    ∃ n, FindW 40 c (c.roots t) key n ∧ n.lf = true ∧ n.ok ∧ KRise n.l ∧ n.l.length ≤ 509 ∧ Rise (entOf n.l) ∧ getE (entOf n.l) key = getE (E t) key := by
  rcases h.tree t ht with ⟨r0, _, _⟩ | ⟨_, hh, hs⟩
  · exact absurd r0 hr
  · exact findW_ok hh (f := 40) (height_lt hs hE) hs (fun _ h => by cases h) (fun _ h => by cases h)
section
variable {w0 w : World} {dk g st : Nat} {s : PS} {X : Nat → Prop} {E : Nat → En}
set_option maxRecDepth 100000 in
set_option maxHeartbeats 8000000 in
/-- Get. -/
theorem Get_X (h : StX w0 w dk g st s X E) {t : Nat} (ht : t < 8) {kv : Value} {key : Ky} {gk : Nat} (hk : BytesAt w kv key gk) (hkX : X gk) (h1 : 1 ≤ key.length) (h2 : key.length ≤ 96) (hE : (E t).length < 1099511627776) :
    Calls Tryz.prog 14 #[.pointer (some ⟨st, 0, none⟩), .int .i64 (t : Int), kv] w (GetEnd E t key w) := by
  obtain ⟨_, _, P, F, hF⟩ := h.store
  obtain ⟨c, hc⟩ : ∃ c, c = beginC s.page s.n := ⟨_, rfl⟩
  rw [← hc] at hF
  have hpc := h.pgc
  rw [← hc] at hpc
  have hmay : mayB (t : Int) key = true := by
    unfold mayB
    have a1 : (0 : Int) ≤ (t : Int) := by omega
    have a2 : (t : Int) < 8 := by omega
    simp [a1, a2, h2]
    omega
  have H := Lib.hid h; have HC := Lib.hid hc; have HPC := Lib.hid hpc; have HF := Lib.hid hF
  have HMAY := Lib.hid (may_any (t : Int) hk)
  rw [hmay] at HMAY
  have HK := Lib.hid hk; have HKX := Lib.hid hkX
  have HEE := Lib.hid hE
  have HBG := Lib.hid h.begin
  clear h hc hpc hF hk hkX h1 h2 hE hmay
  have ht8 : ((t : Nat) : Int) < 8 := by omega
  refine calls_post fun R HQ => ?_
  go_enter Tryz.func14, Tryz.ntmps14
  go_wp2_with fail
  refine HMAY.out.mono ?_
  rintro e w1 ⟨rfl, rfl⟩
  go_wp2_with fail
  refine HBG.out.mono ?_
  rintro e w1 ⟨bc, bn, bs, rfl, hch⟩
  rw [← HC.out] at hch
  have S0 := Lib.hid (Sx.start hch hch.top)
  have HKD := Lib.hid (H.out.key HK.out HKX.out hch.l1 hch.l2 hch.l3 hch.fr)
  clear hch HBG HMAY
  have cr := (S0.out.ch.blk).at_ (chC_root c g bn bs ht)
  by_cases hr : c.roots t = 0
  · rw [hr] at cr
    have hEt : E t = [] := by
      rcases HF.out.tree t ht with ⟨_, h, _⟩ | ⟨h, _⟩
      · exact h
      · exact absurd hr h
    have HX := Lib.hid (HQ.out (.returned (.tuple #[.slice none 0 0, .bool false, .int .i64 0])) w1 ⟨.slice none 0 0, by rw [hEt]; rfl, ⟨w1.heap.size, by rw [hEt]; exact BytesAt.nil _ _, S0.out.fin.1.fr.size⟩, S0.out.fin.1.fr⟩)
    have HR0 := Lib.hid hr
    clear hr hEt
    go_wp2_with fail
    exact bodyPost_ret (results_ttt rfl) rfl HX.out
  · obtain ⟨n, hFW, hlf, hok, hKR, hfew, hrise, hget⟩ := find_parts key HF.out ht HEE.out hr
    have hrI : ¬ ((c.roots t : Nat) : Int) = 0 := by omega
    have HKR := Lib.hid hKR; have HFEW := Lib.hid hfew; have HOK := Lib.hid hok
    have HG : Hid (getE (E t) key = if isAt n.l key then (n.l[placeOf n.l key]?).map (·.v) else none) := Lib.hid (by rw [← hget]; exact leaf_get hrise)
    have HFI := Lib.hid (find_ch HPC.out S0.out.fin.1 HKD.out S0.out.fin.1.top ht hFW)
    have HR0 := Lib.hid hr
    clear hFW hlf hKR hfew hrise hget hr hok
    go_wp2_with fail
    refine HFI.out.mono ?_
    rintro e w2 ⟨nv, rfl, hnv, hc2, hf2⟩
    have hO : ∀ q, Dm_ X w bc bn bs q → Off (Dm_ X w bc bn bs) [] [] q := fun q hq => ⟨hq, fun _ h => by simp at h, fun _ h => by simp at h⟩
    obtain ⟨A, ca, _, rfl, _⟩ := hnv.open_
    obtain ⟨gk2, hgk2, hgd⟩ := HKD.out
    have S1 := Lib.hid (((Sx.start hc2 hc2.top).nd (hnv.weak hO)).key ⟨gk2, hgk2.fr hf2 (fun hm => by
      have := hgd.2
      simp only [List.mem_cons, List.not_mem_nil, or_false] at hm
      omega), hO _ hgd⟩)
    clear hnv hc2 hf2 hO hgk2 hgd HFI S0 cr
    go_wp2_with (first
      | (with_reducible refine wpList_alloc_z rfl 88 rfl (.agg #[.int .i64 0, .int .i64 0, .slice none 0 0]) znd.toArray zero_nd rfl ?_)
      | (refine wpList_store_z (W := w2) rfl 88 (.tmp 11) (.tmp 45) rfl [.int .i64 (kindOf n), .int .i64 (n.first : Int), .slice A n.l.length ca] rfl rfl rfl size_nd rfl three_cells ?_))
    intro w3 hb3 hf3 hz3
    obtain ⟨p11, hp11⟩ : ∃ p11, p11 = w2.heap.size := ⟨_, rfl⟩
    rw [← hp11] at hb3 ⊢
    have S2 := Lib.hid (S1.out.new1 hf3 hb3 (by omega))
    clear hf3 hb3 hz3 hp11 S1
    have d0 := (S2.out.loc _ (.head _)).1.at_ (i := 0) rfl
    have d1 := (S2.out.loc _ (.head _)).1.at_ (i := 1) rfl
    have d2 := (S2.out.loc _ (.head _)).1.at_ (i := 2) rfl
    obtain ⟨gk3, hgk3, _⟩ := S2.out.kb (.head _)
    have HPL := Lib.hid (place_nd (S2.out.kn (n := n) (.tail _ (.head _))) hgk3 HKR.out (by have := HFEW.out; omega))
    clear hgk3
    go_wp2_with fail
    refine HPL.out.mono ?_
    rintro e w4 ⟨rfl, hf4⟩
    have S3 := Lib.hid (S2.out.quiet hf4)
    clear hf4 HPL S2 d0 d1 d2
    have d2 := (S3.out.loc _ (.head _)).1.at_ (i := 2) rfl
    have hge := HG.out
    cases his : isAt n.l key with
    | true =>
      rw [his, if_pos rfl] at hge
      have hlt := isAt_lt his
      obtain ⟨y, hy⟩ : ∃ y, n.l[placeOf n.l key]? = some y := ⟨_, List.getElem?_eq_getElem hlt⟩
      rw [hy] at hge
      obtain ⟨A2, c2, cs2, hv2, hc2, hown, hits, hcell⟩ := (S3.out.kn (n := n) (.tail _ (.head _))).parts
      obtain ⟨rfl, rfl⟩ : A = A2 ∧ ca = c2 := by injection hv2 with h; simp at h; exact h
      obtain ⟨kv1, vv1, av1, e0, e1, e2, hic⟩ := hits.at_ hy
      obtain ⟨gr, rfl, hcg⟩ := hcell (by omega)
      have cv := hcg _ _ e1
      obtain ⟨gv1, hgv1, _⟩ := hic.2.1
      have hltI : ((placeOf n.l key : Nat) : Int) < ((n.l.length : Nat) : Int) := by omega
      have hyo : y.v.length ≤ 1099511627776 := by have := (HOK.out.item y (List.mem_of_getElem? hy)).v; omega
      have HCL := Lib.hid (bytes_clone hgv1 hyo)
      have HGE := Lib.hid hge; have HHS := Lib.hid hlt
      clear hge hlt hy hv2 hc2 hown hits hcell e0 e1 e2 hic hcg hgv1 hyo his
      go_wp2_with fail
      refine HCL.out.mono ?_
      rintro e w5 ⟨v5, rfl, ⟨g5, hb5, hz5⟩, hf5⟩
      have S4 := Lib.hid (S3.out.quiet hf5)
      have HX := Lib.hid (HQ.out (.returned (.tuple #[v5, .bool true, .int .i64 0])) w5 ⟨v5, by rw [HGE.out]; rfl, ⟨g5, by rw [HGE.out]; exact hb5, by have := S3.out.fin.1.fr.size; omega⟩, S4.out.fin.1.fr⟩)
      clear hb5 hz5 hf5 S3 S4 cv d2
      go_wp2_with fail
      exact bodyPost_ret (results_ttt rfl) rfl HX.out
    | false =>
      rw [his, if_neg (by decide)] at hge
      have HX := Lib.hid (HQ.out (.returned (.tuple #[.slice none 0 0, .bool false, .int .i64 0])) w4 ⟨.slice none 0 0, by rw [hge]; rfl, ⟨w4.heap.size, by rw [hge]; exact BytesAt.nil _ _, S3.out.fin.1.fr.size⟩, S3.out.fin.1.fr⟩)
      have HGE := Lib.hid hge
      clear hge his
      go_wp2_with fail
      exact bodyPost_ret (results_ttt rfl) rfl HX.out
end
end Go.Proofs.YtpjbdpepofnleaaGreat
end
