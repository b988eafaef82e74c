/-
  Joined by join.py: Qn Qo Qp Qq Qs
-/
import Derived.Test.YtpjbdpepofnleaaGreatJla21
section
namespace Go.Proofs.YtpjbdpepofnleaaGreat
open Go.RowKit Go.ChangeMaps Go.MapKept Go.Maps Go.Sort Go.Shelf
theorem grow_pre {c c' : CD} {m h k : Nat} {lo hi : Option Ky} {E : En} {u : Ky × Nat} {R : List Nat} (hl : Left c c' m h k lo hi E u R) :
    u.2 ≠ 0 → 1 ≤ u.1.length ∧ u.1.length ≤ 96 ∧ u.2 < 65536 ∧ c'.e = 0 ∧ 0 < c'.n ∧ (c'.head ≠ 0 → c'.head < c'.n ∧ ∃ j, c'.nx c'.head = some j) := fun hu => by
  obtain ⟨_, ⟨e0, P, F, ha, _, hres⟩ | ⟨_, u0, _⟩⟩ := hl
  · rcases hres with ⟨u0, _⟩ | ⟨_, u1, u2, _, _, E1, P1, E2, P2, s1, s2, rfl, rfl⟩
    · exact absurd u0 hu
    · have hm2 := (ha.mem (k := u.2) (.inl (List.mem_append_left _ (List.mem_append_right _ s2.head)))).2
      have := ha.next2; have := ha.few; have := ha.next1
      exact ⟨u1, u2, by omega, e0, by omega, head_ok ha⟩
  · exact absurd u0 hu
def restE (E : Nat → En) (t : Nat) : En := ((List.range 8).erase t).flatMap E
theorem tree_pages {N : Nat → Option Nd} {r : Nat} {E : En} {P : List Nat} (h : Tree N r E P) : P.length ≤ 2 * E.length := by
  rcases h with ⟨_, rfl, rfl⟩ | ⟨_, h, hs⟩
  · simp
  · have := hs.count.1; omega
theorem flat_le {P : Nat → List Nat} {E : Nat → En} : ∀ {l : List Nat}, (∀ s ∈ l, (P s).length ≤ 2 * (E s).length) → (l.flatMap P).length ≤ 2 * (l.flatMap E).length
  | [], _ => by simp
  | s :: l, h => by
    have h1 := h s (List.mem_cons_self ..)
    have h2 := flat_le (l := l) fun q hq => h q (List.mem_cons_of_mem _ hq)
    rw [List.flatMap_cons, List.flatMap_cons, List.length_append, List.length_append]
    omega
theorem rest_pages {c : CD} {E : Nat → En} {P : Nat → List Nat} {F : List Nat} (h : Forest c E P F) (t : Nat) : (restP P t).length ≤ 2 * (restE E t).length :=
  flat_le fun s hs => tree_pages (h.tree s (List.mem_range.1 (List.mem_of_mem_erase hs)))
def Wr (s s' : PS) : Prop := ∃ l : List (Nat × List UInt8), (∀ p ∈ l, p.1 < s.n ∧ p.2.length ≤ 512) ∧ s' = l.foldl (fun s p => s.write p.1 p.2) s
theorem Wr.refl (s : PS) : Wr s s := ⟨[], fun _ h => (by cases h), rfl⟩
theorem foldw_same : ∀ (l : List (Nat × List UInt8)) {s s' : PS}, SameS s s' → SameS s (l.foldl (fun s p => s.write p.1 p.2) s')
  | [], _, _, h => h
  | _ :: l, _, _, h => foldw_same l (h.write _ _)
theorem Wr.same {s s' : PS} (h : Wr s s') : SameS s s' := by
  obtain ⟨l, _, rfl⟩ := h
  exact foldw_same l (SameS.refl s)
theorem Wr.trans {s s1 s2 : PS} (h : Wr s s1) (h' : Wr s1 s2) : Wr s s2 := by
  have hn := h.same.n
  obtain ⟨l, h1, rfl⟩ := h
  obtain ⟨l', h2, rfl⟩ := h'
  refine ⟨l ++ l', fun p hp => ?_, by rw [List.foldl_append]⟩
  rcases List.mem_append.1 hp with hp | hp
  · exact h1 p hp
  · have := h2 p hp
    rwa [hn] at this
theorem Wr.end_ {s : PS} {c : CD} (hwf : WfW c) (hn : c.n = s.n) (h0 : 0 < c.n) : Wr s (endS s c) := by
  refine ⟨(c.M.map fun p => (p.1, p.2.written)) ++ (c.S.map fun p => (p.1, b16 p.2)) ++ [(0, spaceB c)], fun p hp => ?_, ?_⟩
  · rcases List.mem_append.1 hp with hp | hp
    · rcases List.mem_append.1 hp with hp | hp
      · obtain ⟨q, hq, rfl⟩ := List.mem_map.1 hp
        obtain ⟨a, b, d⟩ := hwf.mM q hq
        exact ⟨by show q.1 < s.n; omega, by show q.2.written.length ≤ 512; rw [Nd.written_len]; exact d⟩
      · obtain ⟨q, hq, rfl⟩ := List.mem_map.1 hp
        obtain ⟨a, b⟩ := hwf.mS q hq
        exact ⟨by show q.1 < s.n; omega, by show 2 ≤ 512; omega⟩
    · obtain rfl := List.mem_singleton.1 hp
      exact ⟨by show 0 < s.n; omega, by show (spaceB c).length ≤ 512; rw [spaceB_len]; omega⟩
  · unfold endS endF endM
    rw [List.foldl_append, List.foldl_append, List.foldl_map, List.foldl_map]
    rfl
theorem store_to {s : PS} {c : CD} {E : Nat → En} {P : Nat → List Nat} {F : List Nat} (hF : Forest c E P F) (hp : c.pg = s.page) (hn : c.n = s.n) (hwf : WfW c) : Store (endS s c).page s.n E := by
  have h1 := store_end hF (by exact hwf.pg)
  have e : (endS s c).page = endPg c := by
    funext j
    exact endS_page hwf.rM hwf.rS hp j
  rw [e, ← hn]
  exact h1
structure StX (w0 w : World) (dk g st : Nat) (s : PS) (X : Nat → Prop) (E : Nat → En) : Prop where
  px : PgX w0 w dk g s X
  blk : Blk w st 125 [.pointer (some ⟨g, 0, none⟩)]
  xs : X st
  br : s.br = false
  calm : Calm s
  store : Store s.page s.n E
section
variable {w0 w w' : World} {dk g st : Nat} {s s' : PS} {X : Nat → Prop} {E E' : Nat → En}
theorem StX.fr (h : StX w0 w dk g st s X E) (hf : Fr [] w w') : StX w0 w' dk g st s (More X w w') E := ⟨h.px.fr hf, h.blk.fr hf (by simp), .inl h.xs, h.br, h.calm, h.store⟩
theorem StX.stay (h : StX w0 w dk g st s X E) (hf : Fr [] w w') : StX w0 w' dk g st s X E := ⟨h.px.stay hf, h.blk.fr hf (by simp), h.xs, h.br, h.calm, h.store⟩
theorem StX.kept (h : StX w0 w dk g st s X E) (hp : PgX w0 w' dk g s' X) (hk : Kp X w w') (hs : SameS s s') (hS : Store s'.page s.n E') : StX w0 w' dk g st s' X E' := ⟨hp, hk.blk h.blk h.xs, h.xs, by rw [hs.br]; exact h.br, hs.calm h.calm, by rw [hs.n]; exact hS⟩
theorem StX.pgc (h : StX w0 w dk g st s X E) : PgC w0 w dk g s X (beginC s.page s.n) := ⟨h.px, h.br, h.calm, (begin_pg _ _).1, (begin_pg _ _).2.1⟩
theorem StX.begin (h : StX w0 w dk g st s X E) :
    Calls Tryz.prog 31 #[.pointer (some ⟨st, 0, none⟩)] w fun e w' => ∃ bc bn bs, e = .returned (.tuple #[.pointer (some ⟨bc, 0, none⟩), .int .i64 0]) ∧ ChAt w w' g bc bn bs (Dm_ X w bc bn bs) (beginC s.page s.n) :=
  begin_st h.px h.br h.calm (h.blk.at_ (i := 0) rfl) h.store
theorem ChAt.top {wS : World} {bc bn bs : Nat} {c : CD} (h : ChAt wS w g bc bn bs (Dm_ X wS bc bn bs) c) : ∀ q, w.heap.size ≤ q → Dm_ X wS bc bn bs q := fun q hq => by
  have h1 := h.blk.lt
  obtain ⟨vs, v1, _⟩ := h.nodes
  obtain ⟨ss, s1, _⟩ := h.spare
  have h2 := v1.lt; have h3 := s1.lt; have h4 := h.fr.size
  exact ⟨.inr (by omega), by omega, by omega, by omega⟩
theorem StX.key {bc bn bs gk : Nat} {kv : Value} {key : Ky} (h : StX w0 w dk g st s X E) (hk : BytesAt w kv key gk) (hX : X gk) (h1 : w.heap.size ≤ bc) (h2 : w.heap.size ≤ bn) (h3 : w.heap.size ≤ bs) (hf : Fr [] w w') : ∃ q, BytesAt w' kv key q ∧ Dm_ X w bc bn bs q := by
  have hlt : gk < w.heap.size := by obtain ⟨_, _, _, _, _, _, _, h4⟩ := h.px; exact h4 gk hX
  exact ⟨gk, hk.fr hf (by simp), .inl hX, by omega, by omega, by omega⟩
set_option maxRecDepth 100000 in
set_option maxHeartbeats 1000000 in
/-- The store of a pager. -/
theorem Open_X (hp : PgX w0 w dk g s X) (hbr : s.br = false) (hcalm : Calm s) (hS : Store s.page s.n E) :
    Calls Tryz.prog 25 #[.pointer (some ⟨g, 0, none⟩)] w fun e w' => ∃ st, e = .returned (.tuple #[.pointer (some ⟨st, 0, none⟩), .int .i64 0]) ∧ StX w0 w' dk g st s (More X w w') E ∧ Fr [] w w' := by
  obtain ⟨wb, hwb⟩ : ∃ wb, wb = w.alloc (.cells #[.pointer (some ⟨g, 0, none⟩)] 125) := ⟨_, rfl⟩
  have hf : Fr [] w wb := by rw [hwb]; exact (Fr.refl [] w).alloc _
  have hb : Blk wb w.heap.size 125 [.pointer (some ⟨g, 0, none⟩)] := by rw [hwb]; exact Blk.new w _ [.pointer (some ⟨g, 0, none⟩)]
  have hbg := begin_st (hp.stay hf) hbr hcalm (hb.at_ (i := 0) rfl) hS
  refine calls_post fun R HQ => ?_
  have HB := Lib.hid hb; have HF := Lib.hid hf; have HBG := Lib.hid hbg; have HP := Lib.hid hp; have HS := Lib.hid hS; have HC := Lib.hid hcalm; have HBR := Lib.hid hbr
  clear hb hf hbg hp hS hcalm hbr
  go_enter Tryz.func25, Tryz.ntmps25
  go_upto_region 2 with fail
  rw [← hwb]
  clear hwb
  go_wp2_with fail
  refine HBG.out.mono ?_
  rintro e w2 ⟨bc, bn, bs, rfl, hch⟩
  have hf2 : Fr [] w w2 := HF.out.trans hch.fr (by simp)
  have HX := Lib.hid (HQ.out _ _ ⟨w.heap.size, rfl, ⟨HP.out.fr hf2, HB.out.fr hch.fr (by simp), .inr ⟨Nat.le_refl _, by have := HB.out.lt; have := hch.fr.size; omega⟩, HBR.out, HC.out, HS.out⟩, hf2⟩)
  clear hf2 hch
  go_wp2_with fail
  exact HX.out
end
end Go.Proofs.YtpjbdpepofnleaaGreat
end
section
namespace Go.Proofs.YtpjbdpepofnleaaGreat
open Go.RowKit Go.ChangeMaps Go.MapKept Go.Maps Go.Sort Go.Shelf
def mayB (t : Int) (key : Ky) : Bool := decide (0 ≤ t) && decide (t < 8) && decide (0 < key.length) && decide (key.length ≤ 96)
set_option maxRecDepth 100000 in
set_option maxHeartbeats 1000000 in
/-- May a tree, and a key, be? -/
theorem may_any {w : World} {kv : Value} {key : Ky} {gk : Nat} (t : Int) (hk : BytesAt w kv key gk) : Calls Tryz.prog 30 #[.int .i64 t, kv] w fun e w' => e = .returned (.bool (mayB t key)) ∧ w = w' := by
  obtain ⟨A, c, _, rfl, _, _⟩ := hk
  refine calls_post fun R HQ => ?_
  have HX := Lib.hid (HQ.out _ _ ⟨rfl, rfl⟩)
  by_cases h1 : 0 ≤ t
  · by_cases h2 : t < 8
    · by_cases h3 : 0 < key.length
      · have h3' : (0 : Int) < (key.length : Int) := by omega
        by_cases h4 : key.length ≤ 96
        · have h4' : (key.length : Int) ≤ 96 := by omega
          have e : mayB t key = true := by unfold mayB; simp [h1, h2, h3, h4]
          rw [e] at HX
          go_enter Tryz.func30, Tryz.ntmps30
          go_wp2_with fail
          exact HX.out
        · have h4' : ¬ (key.length : Int) ≤ 96 := by omega
          have e : mayB t key = false := by unfold mayB; simp [h4]
          rw [e] at HX
          go_enter Tryz.func30, Tryz.ntmps30
          go_wp2_with fail
          exact HX.out
      · have h3' : ¬ (0 : Int) < (key.length : Int) := by omega
        have e : mayB t key = false := by unfold mayB; simp [h3]
        rw [e] at HX
        go_enter Tryz.func30, Tryz.ntmps30
        go_wp2_with fail
        exact HX.out
    · have e : mayB t key = false := by unfold mayB; simp [h2]
      rw [e] at HX
      go_enter Tryz.func30, Tryz.ntmps30
      go_wp2_with fail
      exact HX.out
  · have e : mayB t key = false := by unfold mayB; simp [h1]
    rw [e] at HX
    go_enter Tryz.func30, Tryz.ntmps30
    go_wp2_with fail
    exact HX.out
theorem putC_parts {c : CD} {E : Nat → En} {P : Nat → List Nat} {F : List Nat} {t : Nat} {x : It} (h : Forest c E P F) (ht : t < 8) (hx : x.ok true) (hE : (E t).length < 1099511627776) (hr : c.roots t ≠ 0) :
    ∃ c1 u, PutW 40 c (c.roots t) x c1 u ∧ putC c t x = some (growC c1 t u) ∧ (c1.pg = c.pg ∧ c1.n = c.n) ∧ c1.roots t = c.roots t ∧ (u.2 ≠ 0 → 1 ≤ u.1.length ∧ u.1.length ≤ 96 ∧ u.2 < 65536 ∧ c1.e = 0 ∧ 0 < c1.n ∧ (c1.head ≠ 0 → c1.head < c1.n ∧ ∃ j, c1.nx c1.head = some j)) := by
  have ha := h.acc.swap (allP_perm ht).symm
  rcases h.tree t ht with ⟨r0, _, _⟩ | ⟨_, hh, hs⟩
  · exact absurd r0 hr
  · obtain ⟨c1, u, e1, hl⟩ := put_ok hh (f := 40) (height_lt hs hE) hs ha h.e hx (fun _ h => by cases h) (fun _ h => by cases h)
    refine ⟨c1, u, putW_ok hh (height_lt hs hE) hs ha h.e hx (fun _ h => by cases h) (fun _ h => by cases h) _ _ e1, ?_, ⟨hl.1.pg, hl.1.n⟩, by rw [hl.1.roots], grow_pre hl⟩
    unfold putC
    rw [if_neg hr, e1]
    rfl
theorem enter_grow (vs : Array Value) (w : World) : (callFunc 36 vs).run Tryz.prog w = .ok (.enter 36 vs) w := by kernel_rfl
def PutEnd (w0 : World) (dk g st : Nat) (s : PS) (X : Nat → Prop) (E : Nat → En) (t : Nat) (key v : Ky) (w : World) (e : Ending) (w' : World) : Prop :=
  ∃ s', Wr s s' ∧ Kp X w w' ∧ ((e = .returned (.int .i64 0) ∧ StX w0 w' dk g st s' X (setR E t (putE (E t) key v))) ∨ (e = .returned (.int .i64 5) ∧ s' = s ∧ StX w0 w' dk g st s X E ∧ s.n ≤ 2 * (putE (E t) key v).length + 2 * (restE E t).length))
section
variable {w0 w : World} {dk g st : Nat} {s : PS} {X : Nat → Prop} {E : Nat → En}
set_option maxRecDepth 100000 in
set_option maxHeartbeats 8000000 in
/-- Put. -/
theorem Put_X (h : StX w0 w dk g st s X E) {t : Nat} (ht : t < 8) {kv vv : Value} {key v : Ky} {gk gv : Nat} (hk : BytesAt w kv key gk) (hkX : X gk) (hv : BytesAt w vv v gv) (hvX : X gv) (h1 : 1 ≤ key.length) (h2 : key.length ≤ 96) (h3 : v.length ≤ 64) (hE : (E t).length < 1099511627776) :
    Calls Tryz.prog 10 #[.pointer (some ⟨st, 0, none⟩), .int .i64 (t : Int), kv, vv] w (PutEnd w0 dk g st s X E t key v w) := by
  have hlt : ∀ q, X q → q < w.heap.size := by obtain ⟨_, _, _, _, _, _, _, h4⟩ := h.px; exact h4
  obtain ⟨_, _, P, F, hF⟩ := h.store
  obtain ⟨c, hc⟩ : ∃ c, c = beginC s.page s.n := ⟨_, rfl⟩
  rw [← hc] at hF
  obtain ⟨x, hx⟩ : ∃ x : It, x = ⟨key, v, 0⟩ := ⟨_, rfl⟩
  have hxo : x.ok true := by rw [hx]; exact ⟨h1, h2, h3, by show 0 < 65536; omega, rfl⟩
  obtain ⟨c', hput, hsame, hres⟩ := put_forest (x := x) hF ht hxo hE
  have hpc := h.pgc
  rw [← hc] at hpc
  have hrp := rest_pages hF t
  have hmay : mayB (t : Int) key = true := by
    unfold mayB
    have a1 : (0 : Int) ≤ (t : Int) := by omega
    have a2 : (t : Int) < 8 := by omega
    simp [a1, a2, h2]
    omega
  obtain ⟨Av, cv, _, rfl, hcv, hcellv⟩ := id hv
  have hl64 : ¬ (64 : Int) < (v.length : Int) := by omega
  have H := Lib.hid h; have HC := Lib.hid hc; have HXX := Lib.hid hx; have HXO := Lib.hid hxo; have HPUT := Lib.hid hput; have HRES := Lib.hid hres; have HPC := Lib.hid hpc; have HRP := Lib.hid hrp; have HF := Lib.hid hF
  have HPC2 : Hid (PgC w0 w dk g s X c') := Lib.hid (hpc.to ⟨hsame.pg, hsame.n⟩)
  have HMAY := Lib.hid (may_any (t : Int) hk)
  rw [hmay] at HMAY
  have HK := Lib.hid hk; have HV := Lib.hid hv; have HKX := Lib.hid hkX; have HVX := Lib.hid hvX; have HLT := Lib.hid hlt
  have HK2 := Lib.hid h2; have HV3 := Lib.hid h3; have HEE := Lib.hid hE
  have HBG := Lib.hid h.begin
  have hxk : x.key = key := by rw [hx]
  have hxv : x.v = v := by rw [hx]
  rw [hxk, hxv] at HRES
  clear h hc hx hxo hput hres hpc hrp hF hsame hk hv hkX hvX hlt h1 h2 h3 hE hmay hcv hcellv
  have ht8 : ((t : Nat) : Int) < 8 := by omega
  refine calls_post fun R HQ => ?_
  go_enter Tryz.func10, Tryz.ntmps10
  go_wp2_with fail
  refine HMAY.out.mono ?_
  rintro e w1 ⟨rfl, rfl⟩
  go_wp2_with fail
  refine HBG.out.mono ?_
  rintro e w1 ⟨bc, bn, bs, rfl, hch⟩
  rw [← HC.out] at hch
  have S0 := Lib.hid (Sx.start hch hch.top)
  have HCL := Lib.hid (bytes_clone (HK.out.fr hch.fr (by simp)) (by have := HK2.out; omega))
  have HBC := Lib.hid hch.l1
  clear hch HBG HMAY
  go_wp2_with fail
  refine HCL.out.mono ?_
  rintro e w2 ⟨kv2, rfl, ⟨gk2, hk2, hgk2⟩, hf2⟩
  obtain ⟨Ak, ck, _, rfl, _, _⟩ := id hk2
  have S1 := Lib.hid ((S0.out.quiet hf2).key ⟨gk2, hk2, S0.out.offD _ hgk2⟩)
  have HCL2 := Lib.hid (bytes_clone (HV.out.fr S1.out.fin.1.fr (by simp)) (by have := HV3.out; omega))
  clear hk2 hgk2 hf2 S0 HCL
  go_wp2_with fail
  refine HCL2.out.mono ?_
  rintro e w3 ⟨vv2, rfl, ⟨gv2, hv2, hgv2⟩, hf3⟩
  obtain ⟨Aw, cw, _, rfl, _, _⟩ := id hv2
  have S2 := Lib.hid ((S1.out.quiet hf3).key ⟨gv2, hv2, S1.out.offD _ hgv2⟩)
  clear hv2 hgv2 hf3 S1 HCL2
  go_wp2_with (first
    | (with_reducible refine wpList_alloc_z rfl 77 rfl (.agg #[.slice none 0 0, .slice none 0 0, .int .i64 0]) zit.toArray zero_it rfl ?_)
    | (refine wpList_store_z (W := w3) rfl 77 (.tmp 11) (.tmp 38) rfl [.slice Ak key.length ck, .slice Aw v.length cw, .int .i64 0] rfl rfl rfl size_it rfl three_item ?_))
  intro w4 hb4 hf4 hz4
  obtain ⟨p11, hp11⟩ : ∃ p11, p11 = w3.heap.size := ⟨_, rfl⟩
  rw [← hp11] at hb4 ⊢
  have S3 := Lib.hid (S2.out.new1 hf4 hb4 (by omega))
  clear hf4 hb4 hz4 hp11 S2
  have cr := (S3.out.ch.blk).at_ (chC_root c g bn bs ht)
  by_cases hr : c.roots t = 0
  · have hcc : c' = (c.alloc.1.root t c.alloc.2).write c.alloc.2 ⟨true, 0, [x]⟩ := by
      have := HPUT.out
      unfold putC at this
      rw [if_pos hr] at this
      exact (Option.some.inj this).symm
    subst hcc
    rw [hr] at cr
    have HR0 := Lib.hid hr
    obtain ⟨nr, hnr⟩ : ∃ nr : Nd, nr = ⟨true, 0, [x]⟩ := ⟨_, rfl⟩
    rw [← hnr] at HRES HPC2
    have hn0 : 0 < c.n := by have := HF.out.acc.next1; have := HF.out.acc.next2; omega
    have hh := head_ok HF.out.acc
    have ha2 : c.alloc.2 < c.n := by
      unfold CD.alloc
      split
      · rename_i h; exact (hh h).1
      · split
        · assumption
        · exact hn0
    have ha1 : c.alloc.1.n = c.n := alloc_n c
    have hnok := one_ok HXO.out
    rw [← hnr] at hnok
    have HA2 := Lib.hid ha2; have HA1 := Lib.hid ha1; have HHH := Lib.hid hh; have HNOK := Lib.hid hnok; have HNR := Lib.hid hnr; have HN4 := Lib.hid S3.out.fin.1.wf.n
    clear hr hnr hn0 hh ha2 ha1 hnok
    go_upto_region 8 with fail
    have S4 := Lib.hid (S3.out.quiet ((Fr.refl [] w4).drew))
    clear S3 cr
    have HAL := Lib.hid (alloc_ch HPC.out S4.out.ch HF.out.e HHH.out)
    apply tail1 (H := fun W => Hid (Sx w w1 g bc bn bs (Dm_ X w bc bn bs) ((p11, 77, [.slice Ak key.length ck, .slice Aw v.length cw, .int .i64 0]) :: []) [] (.by_ (.slice Aw v.length cw) v :: .by_ (.slice Ak key.length ck) key :: []) (c.alloc.1.root t c.alloc.2) W))
    case main =>
      intro TAIL
      refine wp_region_K (fun _ => True) [0, 1, 2, 4, 5, 6, 7] (by kernel_rfl) ?_
      refine wpAnyK_take (i := 0) (some 47) ?vq1_0 rfl rfl (by kernel_rfl) (fun _ _ _ h => h) trivial (.inl ⟨rfl, fun W hW => ?yq1_0⟩) ?_
      case yq1_0 => go_simp <;> with_reducible rfl
      simp only [nrm]
      refine wpAnyK_take (i := 1) (some 48) ?vq1_1 rfl rfl (by kernel_rfl) (fun _ _ _ h => h) trivial (.inl ⟨rfl, fun W hW => ?yq1_1⟩) ?_
      case yq1_1 => go_simp <;> with_reducible rfl
      simp only [nrm]
      refine wpAnyK_take (i := 2) (some 49) ?vq1_2 rfl rfl (by kernel_rfl) (fun _ _ _ h => h) trivial (.inl ⟨rfl, fun W hW => ?yq1_2⟩) ?_
      case yq1_2 => go_simp <;> with_reducible rfl
      simp only [nrm]
      refine wpAnyK_take (i := 4) (some 51) ?vq1_4 rfl rfl (by kernel_rfl) (fun _ _ _ h => h) trivial (.inl ⟨rfl, fun W hW => ?yq1_4⟩) ?_
      case yq1_4 => go_simp <;> with_reducible rfl
      simp only [nrm]
      refine wpAnyK_take (i := 5) (some 52) ?vq1_5 rfl rfl (by kernel_rfl) (fun _ _ _ h => h) trivial (.inl ⟨rfl, fun W hW => ?yq1_5⟩) ?_
      case yq1_5 => go_simp <;> with_reducible rfl
      simp only [nrm]
      refine wpAnyK_take (i := 6) (some 53) ?vq1_6 rfl rfl (by kernel_rfl) (fun _ _ _ h => h) trivial (.inl ⟨rfl, fun W hW => ?yq1_6⟩) ?_
      case yq1_6 => go_simp <;> with_reducible rfl
      simp only [nrm]
      refine wpAnyK_step (j := 3) (some 50) rfl rfl (by kernel_rfl) rfl fun K hK => ?_
      refine wp_call_f (l := [.tmp 49]) rfl [.pointer (some ⟨bc, 0, none⟩)] rfl (enter_alloc _) (HAL.out.mono ?_)
      rintro e w5 ⟨rfl, hc5, hf5⟩
      refine ⟨_, rfl, hK _ _ (fun _ => trivial) ?_⟩
      simp only [nrm]
      have S5 := Lib.hid (S4.out.call hf5 (by simp) hc5)
      clear hK hc5 hf5
      have hroot := S5.out.ch.root ht (v := c.alloc.2) (by have := HA2.out; have := HN4.out; omega)
      have hfz := S5.out.ch.blk.free (2 + t)
      have hcl := S5.out.ch.blk.at_ (chC_root _ g bn bs ht)
      refine wpAnyK_take (i := 7) (some 54) ?vq1_7 rfl rfl (by kernel_rfl) (fun _ _ _ h => h) trivial (.inl ⟨rfl, fun W hW => ?yq1_7⟩) ?_
      case yq1_7 => go_simp <;> with_reducible rfl
      simp only [nrm]
      refine wpAnyK_step (j := 8) none rfl rfl (by kernel_rfl) rfl fun K hK => ?_
      refine wp_run_skip (w' := w5.setCell ⟨bc, 2 + t, none⟩ (.int .i64 ((c.alloc.2 : Nat) : Int))) (by go_simp) (hK _ _ (fun _ => trivial) ?_)
      simp only [Act.put]
      clear hK
      refine wpAnyK_done (by kernel_rfl) ?_ _
      exact TAIL _ (Lib.hid (S5.out.call hroot.2 (by simp) hroot.1))
    intro w5 S5
    clear S4 HAL
    have S6 := Lib.hid (S5.out.quiet ((Fr.refl [] w5).drew))
    clear S5
    have i0 := (S6.out.loc _ (.head _)).1.at_ (i := 0) rfl
    have i1 := (S6.out.loc _ (.head _)).1.at_ (i := 1) rfl
    have i2 := (S6.out.loc _ (.head _)).1.at_ (i := 2) rfl
    have cr := S6.out.ch.blk.at_ (chC_root _ g bn bs ht)
    rw [show (c.alloc.1.root t c.alloc.2).roots t = c.alloc.2 by show (if t = t then _ else _) = _; rw [if_pos rfl]] at cr
    obtain ⟨wx, hwx⟩ : ∃ wx, wx = w5.drew.alloc (.cells ([.slice Ak key.length ck, .slice Aw v.length cw, .int .i64 0] : List Value).toArray 77) := ⟨_, rfl⟩
    have hfx : Fr [] w5.drew wx := by rw [hwx]; exact (Fr.refl [] _).alloc _
    have hbx : Blk wx w5.drew.heap.size 77 [.slice Ak key.length ck, .slice Aw v.length cw, .int .i64 0] := by rw [hwx]; exact Blk.new w5.drew _ [.slice Ak key.length ck, .slice Aw v.length cw, .int .i64 0]
    have HND0 := S6.out.row1 (n := nr) (x := x) (kv := .slice Ak key.length ck) (vv := .slice Aw v.length cw) (av := .int .i64 0) (by rw [HXX.out]; exact ⟨S6.out.kb (.tail _ (.head _)), S6.out.kb (.head _), rfl⟩) hfx hbx (Nat.le_refl _) (by rw [HNR.out])
    rw [show kindOf nr = 1 by rw [HNR.out]; rfl, show nr.first = 0 by rw [HNR.out]] at HND0
    have S7 := Lib.hid ((S6.out.quiet hfx).nd HND0)
    have HWR := Lib.hid (write_ch S7.out.ch (S7.out.kn (n := nr) (.head _)) (k := c.alloc.2) (by have := HA2.out; have := HA1.out; show _ < c.alloc.1.n; omega) HNOK.out.1 HNOK.out.2)
    have j0 := fr_keep hfx i0
    have j1 := fr_keep hfx i1
    have j2 := fr_keep hfx i2
    have jr := fr_keep hfx cr
    go_upto_region 9 with fail
    apply tail1 (H := fun W => Hid (Sx w w1 g bc bn bs (Dm_ X w bc bn bs) [] [] [] ((c.alloc.1.root t c.alloc.2).write c.alloc.2 nr) W))
    case main =>
      intro TAIL
      refine wp_region_K (fun W => W.cell? ⟨bc, 2 + t, none⟩ = some (.int .i64 ((c.alloc.2 : Nat) : Int)) ∧ W.cell? ⟨p11, 0, none⟩ = some (.slice Ak key.length ck) ∧ W.cell? ⟨p11, 1, none⟩ = some (.slice Aw v.length cw) ∧ W.cell? ⟨p11, 2, none⟩ = some (.int .i64 0)) [0, 1, 2, 3, 4, 5, 6, 7, 8, 10] (by kernel_rfl) ?_
      refine wpAnyK_take (i := 0) (some 55) ?vq2_0 rfl rfl (by kernel_rfl) (fun _ _ _ h => h) ⟨cr, i0, i1, i2⟩ (.inl ⟨rfl, fun W hW => ?yq2_0⟩) ?_
      case yq2_0 => (obtain ⟨q0, q1, q2, q3⟩ := hW; go_simp) <;> with_reducible rfl
      simp only [nrm]
      refine wpAnyK_take (i := 1) (some 56) ?vq2_1 rfl rfl (by kernel_rfl) (fun _ _ _ h => h) ⟨cr, i0, i1, i2⟩ (.inl ⟨rfl, fun W hW => ?yq2_1⟩) ?_
      case yq2_1 => (obtain ⟨q0, q1, q2, q3⟩ := hW; go_simp) <;> with_reducible rfl
      simp only [nrm]
      refine wpAnyK_take (i := 2) (some 57) ?vq2_2 rfl rfl (by kernel_rfl) (fun _ _ _ h => h) ⟨cr, i0, i1, i2⟩ (.inl ⟨rfl, fun W hW => ?yq2_2⟩) ?_
      case yq2_2 => (obtain ⟨q0, q1, q2, q3⟩ := hW; go_simp) <;> with_reducible rfl
      simp only [nrm]
      refine wpAnyK_take (i := 3) (some 58) ?vq2_3 rfl rfl (by kernel_rfl) (fun _ _ _ h => h) ⟨cr, i0, i1, i2⟩ (.inl ⟨rfl, fun W hW => ?yq2_3⟩) ?_
      case yq2_3 => (obtain ⟨q0, q1, q2, q3⟩ := hW; go_simp) <;> with_reducible rfl
      simp only [nrm]
      refine wpAnyK_take (i := 4) (some 59) ?vq2_4 rfl rfl (by kernel_rfl) (fun _ _ _ h => h) ⟨cr, i0, i1, i2⟩ (.inl ⟨rfl, fun W hW => ?yq2_4⟩) ?_
      case yq2_4 => (obtain ⟨q0, q1, q2, q3⟩ := hW; go_simp) <;> with_reducible rfl
      simp only [nrm]
      refine wpAnyK_take (i := 5) (some 60) ?vq2_5 rfl rfl (by kernel_rfl) (fun _ _ _ h => h) ⟨cr, i0, i1, i2⟩ (.inl ⟨rfl, fun W hW => ?yq2_5⟩) ?_
      case yq2_5 => (obtain ⟨q0, q1, q2, q3⟩ := hW; go_simp) <;> with_reducible rfl
      simp only [nrm]
      refine wpAnyK_take (i := 6) (some 61) ?vq2_6 rfl rfl (by kernel_rfl) (fun _ _ _ h => h) ⟨cr, i0, i1, i2⟩ (.inl ⟨rfl, fun W hW => ?yq2_6⟩) ?_
      case yq2_6 => (obtain ⟨q0, q1, q2, q3⟩ := hW; go_simp) <;> with_reducible rfl
      simp only [nrm]
      refine wpAnyK_take (i := 7) (some 62) ?vq2_7 rfl rfl (by kernel_rfl) (fun _ _ _ h => h) ⟨cr, i0, i1, i2⟩ (.inl ⟨rfl, fun W hW => ?yq2_7⟩) ?_
      case yq2_7 => (obtain ⟨q0, q1, q2, q3⟩ := hW; go_simp) <;> with_reducible rfl
      simp only [nrm]
      refine wpAnyK_take (i := 8) (some 63) ?vq2_8 rfl rfl (by kernel_rfl) (fun _ _ _ h => h) ⟨cr, i0, i1, i2⟩ (.inl ⟨rfl, fun W hW => ?yq2_8⟩) ?_
      case yq2_8 => (obtain ⟨q0, q1, q2, q3⟩ := hW; go_simp) <;> with_reducible rfl
      simp only [nrm]
      obtain ⟨ti, hti, hz', hsz', hby⟩ := info_get info_it
      refine wpAnyK_step (j := 9) (some 64) rfl rfl (by kernel_rfl) rfl fun K hK => ?_
      refine wp_build_one (.tmp 63) rfl Tryz.underlying86 hti hz' [.slice Ak key.length ck, .slice Aw v.length cw, .int .i64 0] rfl hsz' rfl (by simp) (by simp) (hK _ _ (fun _ => by rw [← hwx]; exact ⟨jr, j0, j1, j2⟩) ?_)
      simp only [nrm]
      rw [← hwx]
      clear hK hti hz' hsz' hby
      refine wpAnyK_take (i := 10) (some 65) (.agg #[.int .i64 1, .int .i64 ((0 : Nat) : Int), .slice (some ⟨w5.drew.heap.size, 0, none⟩) 1 1]) rfl rfl (by kernel_rfl) (fun _ _ _ h => h) ⟨jr, j0, j1, j2⟩ (.inl ⟨rfl, fun W hW => by go_simp⟩) ?_
      simp only [nrm]
      refine wpAnyK_step (j := 11) (some 66) rfl rfl (by kernel_rfl) rfl fun K hK => ?_
      refine wp_call_f (l := [.tmp 55, .tmp 62, .tmp 65]) rfl [.pointer (some ⟨bc, 0, none⟩), .int .i64 ((c.alloc.2 : Nat) : Int), .agg #[.int .i64 1, .int .i64 ((0 : Nat) : Int), .slice (some ⟨w5.drew.heap.size, 0, none⟩) 1 1]] rfl (enter_write _) (HWR.out.mono ?_)
      rintro e w6 ⟨rfl, hc6, hf6⟩
      have S8 := Lib.hid (S7.out.call hf6 (by simp) hc6)
      have cr' := S8.out.ch.blk.at_ (chC_root _ g bn bs ht)
      rw [show ((c.alloc.1.root t c.alloc.2).write c.alloc.2 nr).roots t = c.alloc.2 by show (if t = t then _ else _) = _; rw [if_pos rfl]] at cr'
      refine ⟨_, rfl, hK _ _ (fun _ => ⟨cr', (S8.out.loc _ (.head _)).1.at_ (i := 0) rfl, (S8.out.loc _ (.head _)).1.at_ (i := 1) rfl, (S8.out.loc _ (.head _)).1.at_ (i := 2) rfl⟩) ?_⟩
      simp only [nrm]
      clear hK hc6 hf6
      refine wpAnyK_done (by kernel_rfl) ?_ _
      exact TAIL _ (Lib.hid (S8.out.less (L' := []) (N' := []) (K' := []) (List.nil_sublist _) (List.Sublist.refl _) (by simp)))
    intro w6 S8
    clear S6 S7 i0 i1 i2 j0 j1 j2 cr jr hfx hbx HND0 HWR hwx
    -- S8: the state at last
    rcases HRES.out with ⟨P2, F2, hF2⟩ | ⟨e5, hful⟩
    ·
      have HEN := Lib.hid (end_ch HPC2.out S8.out.fin.1 (fun q hq => hq.1) hF2.e (by have := hF2.acc.next1; have := hF2.acc.next2; omega))
      have HST := Lib.hid (store_to hF2 HPC2.out.pg HPC2.out.n S8.out.fin.1.wf)
      have HWR := Lib.hid (Wr.end_ S8.out.fin.1.wf HPC2.out.n (by have := hF2.acc.next1; have := hF2.acc.next2; omega))
      clear hF2
      go_wp2_with fail
      refine HEN.out.mono ?_
      rintro e we ⟨rfl, hpx, hkp⟩
      have hkk : Kp X w we := (Kp.of S8.out.fin.1.fr).more hkp
      have HX := Lib.hid (HQ.out _ _ ⟨_, HWR.out, hkk, .inl ⟨rfl, H.out.kept hpx hkk HWR.out.same HST.out⟩⟩)
      clear hpx hkp hkk HEN
      go_wp2_with fail
      exact HX.out
    ·
      have HEN := Lib.hid (end_err S8.out.fin.1 (by rw [e5]; omega))
      rw [e5] at HEN
      have HFU := Lib.hid hful
      clear e5 hful
      go_wp2_with fail
      refine HEN.out.mono ?_
      rintro e we ⟨rfl, rfl⟩
      have HX := Lib.hid (HQ.out _ _ ⟨s, Wr.refl s, Kp.of S8.out.fin.1.fr, .inr ⟨rfl, rfl, H.out.stay S8.out.fin.1.fr, by
        have h1 := HFU.out
        have h2 := HRP.out
        have h3 := (begin_pg s.page s.n).2.1
        rw [HC.out, h3] at h1
        omega⟩⟩)
      clear HEN
      go_wp2_with fail
      exact HX.out
  · obtain ⟨c1, u, hPW, hpe, hs1, hrt, hgp⟩ := putC_parts HF.out ht HXO.out HEE.out hr
    have hcc : c' = growC c1 t u := by rw [HPUT.out] at hpe; exact Option.some.inj hpe
    subst hcc
    have hrI : ¬ ((c.roots t : Nat) : Int) = 0 := by omega
    have HPW := Lib.hid hPW; have HGP := Lib.hid hgp; have HR0 := Lib.hid hr; have HRT := Lib.hid hrt
    have HPC1 := Lib.hid (HPC.out.to hs1)
    clear hPW hpe hs1 hgp hr hrt
    go_upto_region 11 with fail
    have S4 := Lib.hid (S3.out.quiet ((Fr.refl [] w4).drew))
    clear S3
    have i0 := (S4.out.loc _ (.head _)).1.at_ (i := 0) rfl
    have i1 := (S4.out.loc _ (.head _)).1.at_ (i := 1) rfl
    have i2 := (S4.out.loc _ (.head _)).1.at_ (i := 2) rfl
    have cr := S4.out.ch.blk.at_ (chC_root c g bn bs ht)
    have HPT := Lib.hid ((put_ch 40).go (deep := 0) (kv := .slice Ak key.length ck) (vv := .slice Aw v.length cw) (av := .int .i64 0) rfl HPW.out HPC.out S4.out.ch (by
      rw [HXX.out]
      exact ⟨S4.out.kb (.tail _ (.head _)), S4.out.kb (.head _), rfl⟩) HXO.out S4.out.offD)
    apply tail3 (H := fun (_ : Option Addr) (_ : Nat) W => Hid (Sx w w1 g bc bn bs (Dm_ X w bc bn bs) [] [] [] (growC c1 t u) W))
    case main =>
      intro TAIL
      refine wp_region_K (fun _ => True) [0, 1, 2, 3, 4, 5, 6, 7, 8] (by kernel_rfl) ?_
      refine wpAnyK_take (i := 0) (some 69) ?vq3_0 rfl rfl (by kernel_rfl) (fun _ _ _ h => h) trivial (.inl ⟨rfl, fun W hW => ?yq3_0⟩) ?_
      case yq3_0 => go_simp <;> with_reducible rfl
      simp only [nrm]
      refine wpAnyK_take (i := 1) (some 70) ?vq3_1 rfl rfl (by kernel_rfl) (fun _ _ _ h => h) trivial (.inl ⟨rfl, fun W hW => ?yq3_1⟩) ?_
      case yq3_1 => go_simp <;> with_reducible rfl
      simp only [nrm]
      refine wpAnyK_take (i := 2) (some 71) ?vq3_2 rfl rfl (by kernel_rfl) (fun _ _ _ h => h) trivial (.inl ⟨rfl, fun W hW => ?yq3_2⟩) ?_
      case yq3_2 => go_simp <;> with_reducible rfl
      simp only [nrm]
      refine wpAnyK_take (i := 3) (some 72) ?vq3_3 rfl rfl (by kernel_rfl) (fun _ _ _ h => h) trivial (.inl ⟨rfl, fun W hW => ?yq3_3⟩) ?_
      case yq3_3 => go_simp <;> with_reducible rfl
      simp only [nrm]
      refine wpAnyK_take (i := 4) (some 73) ?vq3_4 rfl rfl (by kernel_rfl) (fun _ _ _ h => h) trivial (.inl ⟨rfl, fun W hW => ?yq3_4⟩) ?_
      case yq3_4 => go_simp <;> with_reducible rfl
      simp only [nrm]
      refine wpAnyK_take (i := 5) (some 74) ?vq3_5 rfl rfl (by kernel_rfl) (fun _ _ _ h => h) trivial (.inl ⟨rfl, fun W hW => ?yq3_5⟩) ?_
      case yq3_5 => go_simp <;> with_reducible rfl
      simp only [nrm]
      refine wpAnyK_take (i := 6) (some 75) ?vq3_6 rfl rfl (by kernel_rfl) (fun _ _ _ h => h) trivial (.inl ⟨rfl, fun W hW => ?yq3_6⟩) ?_
      case yq3_6 => go_simp <;> with_reducible rfl
      simp only [nrm]
      refine wpAnyK_take (i := 7) (some 76) ?vq3_7 rfl rfl (by kernel_rfl) (fun _ _ _ h => h) trivial (.inl ⟨rfl, fun W hW => ?yq3_7⟩) ?_
      case yq3_7 => go_simp <;> with_reducible rfl
      simp only [nrm]
      refine wpAnyK_take (i := 8) (some 77) ?vq3_8 rfl rfl (by kernel_rfl) (fun _ _ _ h => h) trivial (.inl ⟨rfl, fun W hW => ?yq3_8⟩) ?_
      case yq3_8 => go_simp <;> with_reducible rfl
      simp only [nrm]
      refine wpAnyK_two (i := 9) (j := 10) (some 78) (some 79) rfl rfl rfl rfl (by kernel_rfl) rfl rfl (fun K hK => ?_) (fun K hK => ?_)
      ·
        refine wp_run_same (v := .int .i64 ((c.roots t : Nat) : Int)) (by go_simp) (hK _ _ (fun _ => trivial) ?_)
        simp only [nrm]
        clear hK
        refine wpAnyK_step (j := 10) (some 79) rfl rfl (by kernel_rfl) rfl fun K hK => ?_
        refine wp_run_same (v := .agg #[.slice Ak key.length ck, .slice Aw v.length cw, .int .i64 0]) (by go_simp) (hK _ _ (fun _ => trivial) ?_)
        simp only [nrm]
        clear hK
        refine wpAnyK_step (j := 11) (some 80) rfl rfl (by kernel_rfl) rfl fun K hK => ?_
        refine wp_call_f (l := [.tmp 71, .tmp 78, .tmp 79, .const (.int .i64 0)]) rfl [.pointer (some ⟨bc, 0, none⟩), .int .i64 ((c.roots t : Nat) : Int), .agg #[.slice Ak key.length ck, .slice Aw v.length cw, .int .i64 0], .int .i64 ((0 : Nat) : Int)] rfl (enter_put _) (HPT.out.mono ?_)
        rintro e w5 ⟨uv, rfl, huv, hc5, hf5⟩
        obtain ⟨Au, cu, rfl, hbu⟩ := huv.open_
        have S5 := Lib.hid ((S4.out.call hf5 (by simp) hc5).key hbu)
        refine ⟨_, rfl, hK _ _ (fun _ => trivial) ?_⟩
        simp only [nrm]
        clear hK huv hc5 hf5
        have HGR := Lib.hid (grow_ch (u := u) HPC1.out S5.out.ch ⟨_, rfl, S5.out.kb (.head _)⟩ S5.out.offD ht HGP.out)
        refine wpAnyK_step (j := 12) (some 81) rfl rfl (by kernel_rfl) rfl fun K hK => ?_
        refine wp_call_f (l := [.tmp 69, .tmp 70, .tmp 80]) rfl [.pointer (some ⟨bc, 0, none⟩), .int .i64 (t : Int), .agg #[.slice Au u.1.length cu, .int .i64 ((u.2 : Nat) : Int)]] rfl (enter_grow _) (HGR.out.mono ?_)
        rintro e w6 ⟨rfl, hc6, hf6⟩
        have S6 := Lib.hid (S5.out.call hf6 (by simp) hc6)
        refine ⟨_, rfl, hK _ _ (fun _ => trivial) ?_⟩
        simp only [nrm]
        clear hK hc6 hf6
        refine wpAnyK_done (by kernel_rfl) ?_ _
        exact TAIL Au cu w6 (Lib.hid (S6.out.less (L' := []) (N' := []) (K' := []) (List.nil_sublist _) (List.Sublist.refl _) (by simp)))
      ·
        refine wp_run_same (v := .agg #[.slice Ak key.length ck, .slice Aw v.length cw, .int .i64 0]) (by go_simp) (hK _ _ (fun _ => trivial) ?_)
        simp only [nrm]
        clear hK
        refine wpAnyK_step (j := 9) (some 78) rfl rfl (by kernel_rfl) rfl fun K hK => ?_
        refine wp_run_same (v := .int .i64 ((c.roots t : Nat) : Int)) (by go_simp) (hK _ _ (fun _ => trivial) ?_)
        simp only [nrm]
        clear hK
        refine wpAnyK_step (j := 11) (some 80) rfl rfl (by kernel_rfl) rfl fun K hK => ?_
        refine wp_call_f (l := [.tmp 71, .tmp 78, .tmp 79, .const (.int .i64 0)]) rfl [.pointer (some ⟨bc, 0, none⟩), .int .i64 ((c.roots t : Nat) : Int), .agg #[.slice Ak key.length ck, .slice Aw v.length cw, .int .i64 0], .int .i64 ((0 : Nat) : Int)] rfl (enter_put _) (HPT.out.mono ?_)
        rintro e w5 ⟨uv, rfl, huv, hc5, hf5⟩
        obtain ⟨Au, cu, rfl, hbu⟩ := huv.open_
        have S5 := Lib.hid ((S4.out.call hf5 (by simp) hc5).key hbu)
        refine ⟨_, rfl, hK _ _ (fun _ => trivial) ?_⟩
        simp only [nrm]
        clear hK huv hc5 hf5
        have HGR := Lib.hid (grow_ch (u := u) HPC1.out S5.out.ch ⟨_, rfl, S5.out.kb (.head _)⟩ S5.out.offD ht HGP.out)
        refine wpAnyK_step (j := 12) (some 81) rfl rfl (by kernel_rfl) rfl fun K hK => ?_
        refine wp_call_f (l := [.tmp 69, .tmp 70, .tmp 80]) rfl [.pointer (some ⟨bc, 0, none⟩), .int .i64 (t : Int), .agg #[.slice Au u.1.length cu, .int .i64 ((u.2 : Nat) : Int)]] rfl (enter_grow _) (HGR.out.mono ?_)
        rintro e w6 ⟨rfl, hc6, hf6⟩
        have S6 := Lib.hid (S5.out.call hf6 (by simp) hc6)
        refine ⟨_, rfl, hK _ _ (fun _ => trivial) ?_⟩
        simp only [nrm]
        clear hK hc6 hf6
        refine wpAnyK_done (by kernel_rfl) ?_ _
        exact TAIL Au cu w6 (Lib.hid (S6.out.less (L' := []) (N' := []) (K' := []) (List.nil_sublist _) (List.Sublist.refl _) (by simp)))
    intro Au cu w6 S8
    clear S4 HPT i0 i1 i2 cr
    -- S8: the state at last
    rcases HRES.out with ⟨P2, F2, hF2⟩ | ⟨e5, hful⟩
    ·
      have HEN := Lib.hid (end_ch HPC2.out S8.out.fin.1 (fun q hq => hq.1) hF2.e (by have := hF2.acc.next1; have := hF2.acc.next2; omega))
      have HST := Lib.hid (store_to hF2 HPC2.out.pg HPC2.out.n S8.out.fin.1.wf)
      have HWR := Lib.hid (Wr.end_ S8.out.fin.1.wf HPC2.out.n (by have := hF2.acc.next1; have := hF2.acc.next2; omega))
      clear hF2
      go_wp2_with fail
      refine HEN.out.mono ?_
      rintro e we ⟨rfl, hpx, hkp⟩
      have hkk : Kp X w we := (Kp.of S8.out.fin.1.fr).more hkp
      have HX := Lib.hid (HQ.out _ _ ⟨_, HWR.out, hkk, .inl ⟨rfl, H.out.kept hpx hkk HWR.out.same HST.out⟩⟩)
      clear hpx hkp hkk HEN
      go_wp2_with fail
      exact HX.out
    ·
      have HEN := Lib.hid (end_err S8.out.fin.1 (by rw [e5]; omega))
      rw [e5] at HEN
      have HFU := Lib.hid hful
      clear e5 hful
      go_wp2_with fail
      refine HEN.out.mono ?_
      rintro e we ⟨rfl, rfl⟩
      have HX := Lib.hid (HQ.out _ _ ⟨s, Wr.refl s, Kp.of S8.out.fin.1.fr, .inr ⟨rfl, rfl, H.out.stay S8.out.fin.1.fr, by
        have h1 := HFU.out
        have h2 := HRP.out
        have h3 := (begin_pg s.page s.n).2.1
        rw [HC.out, h3] at h1
        omega⟩⟩)
      clear HEN
      go_wp2_with fail
      exact HX.out
end
end Go.Proofs.YtpjbdpepofnleaaGreat
end
section
namespace Go.Proofs.YtpjbdpepofnleaaGreat
open Go.RowKit Go.ChangeMaps Go.MapKept Go.Maps Go.Sort Go.Shelf
def hasE (E : En) (key : Ky) : Bool := E.any fun e => decide (e.1 = key)
theorem hasE_iff (E : En) (key : Ky) : hasE E key = true ↔ ∃ e ∈ E, e.1 = key := by
  unfold hasE
  rw [List.any_eq_true]
  simp
theorem growC_same (c : CD) (t : Nat) (u : Ky × Nat) : (growC c t u).pg = c.pg ∧ (growC c t u).n = c.n := by
  unfold growC
  split
  · exact ⟨rfl, rfl⟩
  · unfold CD.alloc
    split
    · exact ⟨rfl, rfl⟩
    · split
      · exact ⟨rfl, rfl⟩
      · unfold CD.full; split <;> exact ⟨rfl, rfl⟩
theorem setR_same (E : Nat → En) (t : Nat) : setR E t (E t) = E := by
  funext j
  unfold setR
  split
  · rename_i h; rw [h]
  · rfl
theorem delC_parts {c : CD} {E : Nat → En} {P : Nat → List Nat} {F : List Nat} {t : Nat} {key : Ky} (h : Forest c E P F) (ht : t < 8) (hE : (E t).length < 1099511627776) (hr : c.roots t ≠ 0) :
    ∃ c1 is u, CutW 40 c (c.roots t) key c1 is u ∧ (c1.pg = c.pg ∧ c1.n = c.n) ∧ (u.2 ≠ 0 → 1 ≤ u.1.length ∧ u.1.length ≤ 96 ∧ u.2 < 65536 ∧ c1.e = 0 ∧ 0 < c1.n ∧ (c1.head ≠ 0 → c1.head < c1.n ∧ ∃ j, c1.nx c1.head = some j)) ∧
      (is = false → growC c1 t u = c ∧ delC c t key = some (c, false)) ∧ (is = true → delC c t key = (lowerC (growC c1 t u) t).map fun d => (d, true)) := by
  have ha := h.acc.swap (allP_perm ht).symm
  rcases h.tree t ht with ⟨r0, _, _⟩ | ⟨_, hh, hs⟩
  · exact absurd r0 hr
  · obtain ⟨c1, is, u, e1, _, hno, hyes⟩ := cut_ok hh (f := 40) (key := key) (height_lt hs hE) hs ha h.e (fun _ h => by cases h) (fun _ h => by cases h)
    have hW := cutW_ok hh (height_lt hs hE) hs ha h.e (fun _ h => by cases h) (fun _ h => by cases h) _ _ _ e1
    have hd : delC c t key = if is then (lowerC (growC c1 t u) t).map fun d => (d, true) else some (c1, false) := by
      unfold delC
      rw [if_neg hr, e1]
    refine ⟨c1, is, u, hW, hW.same, fun hu => ?_, fun hi => ?_, fun hi => by rw [hd, if_pos hi]⟩
    · cases is with
      | false => exact absurd (hno rfl).2 hu
      | true => exact grow_pre (hyes rfl) hu
    · obtain ⟨a, b⟩ := hno hi
      subst a
      refine ⟨by unfold growC; rw [if_pos b], by rw [hd, hi]; rfl⟩
def DelEnd (w0 : World) (dk g st : Nat) (s : PS) (X : Nat → Prop) (E : Nat → En) (t : Nat) (key : Ky) (w : World) (e : Ending) (w' : World) : Prop :=
  ∃ s', Wr s s' ∧ Kp X w w' ∧ ((e = .returned (.tuple #[.bool (hasE (E t) key), .int .i64 0]) ∧ StX w0 w' dk g st s' X (setR E t (delE (E t) key))) ∨ (e = .returned (.tuple #[.bool false, .int .i64 5]) ∧ s' = s ∧ StX w0 w' dk g st s X E ∧ s.n ≤ 2 * (delE (E t) key).length + 2 * (restE E t).length))
section
variable {w0 w : World} {dk g st : Nat} {s : PS} {X : Nat → Prop} {E : Nat → En}
set_option maxRecDepth 100000 in
set_option maxHeartbeats 8000000 in
/-- Delete. -/
theorem Delete_X (h : StX w0 w dk g st s X E) {t : Nat} (ht : t < 8) {kv : Value} {key : Ky} {gk : Nat} (hk : BytesAt w kv key gk) (hkX : X gk) (h1 : 1 ≤ key.length) (h2 : key.length ≤ 96) (hE : (E t).length < 1099511627776) :
    Calls Tryz.prog 15 #[.pointer (some ⟨st, 0, none⟩), .int .i64 (t : Int), kv] w (DelEnd w0 dk g st s X E t key w) := by
  have hlt : ∀ q, X q → q < w.heap.size := by obtain ⟨_, _, _, _, _, _, _, h4⟩ := h.px; exact h4
  obtain ⟨_, _, P, F, hF⟩ := h.store
  obtain ⟨c, hc⟩ : ∃ c, c = beginC s.page s.n := ⟨_, rfl⟩
  rw [← hc] at hF
  obtain ⟨c', is, hdel, hsame, his, hno, hres⟩ := del_forest (key := key) hF ht hE
  have hhas : hasE (E t) key = is := by
    rw [Bool.eq_iff_iff, hasE_iff]
    exact his.symm
  have hpc := h.pgc
  rw [← hc] at hpc
  have hrp := rest_pages hF t
  have hmay : mayB (t : Int) key = true := by
    unfold mayB
    have a1 : (0 : Int) ≤ (t : Int) := by omega
    have a2 : (t : Int) < 8 := by omega
    simp [a1, a2, h2]
    omega
  have H := Lib.hid h; have HC := Lib.hid hc; have HDEL := Lib.hid hdel; have HRES := Lib.hid hres; have HPC := Lib.hid hpc; have HRP := Lib.hid hrp; have HF := Lib.hid hF; have HHAS := Lib.hid hhas
  have HPC2 : Hid (PgC w0 w dk g s X c') := Lib.hid (hpc.to ⟨hsame.pg, hsame.n⟩)
  have HMAY := Lib.hid (may_any (t : Int) hk)
  rw [hmay] at HMAY
  have HK := Lib.hid hk; have HKX := Lib.hid hkX; have HLT := Lib.hid hlt
  have HEE := Lib.hid hE; have HNO := Lib.hid hno
  have HBG := Lib.hid h.begin
  clear h hc hdel hres hpc hrp hF hsame hk hkX hlt h1 h2 hE hmay hhas his hno
  have ht8 : ((t : Nat) : Int) < 8 := by omega
  refine calls_post fun R HQ => ?_
  go_enter Tryz.func15, Tryz.ntmps15
  go_wp2_with fail
  refine HMAY.out.mono ?_
  rintro e w1 ⟨rfl, rfl⟩
  go_wp2_with fail
  refine HBG.out.mono ?_
  rintro e w1 ⟨bc, bn, bs, rfl, hch⟩
  rw [← HC.out] at hch
  have S0 := Lib.hid (Sx.start hch hch.top)
  have HKD := Lib.hid (H.out.key HK.out HKX.out hch.l1 hch.l2 hch.l3 hch.fr)
  clear hch HBG HMAY
  have cr := (S0.out.ch.blk).at_ (chC_root c g bn bs ht)
  by_cases hr : c.roots t = 0
  · rw [hr] at cr
    have hEt : E t = [] := by
      rcases HF.out.tree t ht with ⟨_, h, _⟩ | ⟨h, _⟩
      · exact h
      · exact absurd hr h
    have HX := Lib.hid (HQ.out _ _ ⟨s, Wr.refl s, Kp.of S0.out.fin.1.fr, .inl ⟨by rw [hEt]; first | done | rfl, by
      have e : setR E t (delE (E t) key) = E := by
        rw [show delE (E t) key = E t by rw [hEt]; rfl, setR_same]
      rw [e]
      exact H.out.stay S0.out.fin.1.fr⟩⟩)
    have HR0 := Lib.hid hr
    clear hr hEt
    go_wp2_with fail
    exact HX.out
  · obtain ⟨c1, is1, u, hCW, hs1, hgp, hf, htr⟩ := delC_parts (key := key) HF.out ht HEE.out hr
    have hrI : ¬ ((c.roots t : Nat) : Int) = 0 := by omega
    have HCW := Lib.hid hCW; have HGP := Lib.hid hgp; have HR0 := Lib.hid hr; have HFF := Lib.hid hf; have HTR := Lib.hid htr
    have HPC1 := Lib.hid (HPC.out.to hs1)
    clear hCW hs1 hgp hr hf htr
    have HCT := Lib.hid ((cut_ch 40).go (deep := 0) rfl HCW.out HPC.out S0.out.fin.1 HKD.out S0.out.fin.1.top)
    go_wp2_with fail
    refine HCT.out.mono ?_
    rintro e w2 ⟨uv, rfl, huv, hc2, hf2⟩
    obtain ⟨Au, cu, rfl, hbu⟩ := huv.open_
    have S1 := Lib.hid ((Sx.start hc2 hc2.top).key (hbu.imp fun q hq => ⟨hq.1, hq.2, fun _ h => by simp at h, fun _ h => by simp at h⟩))
    clear huv hc2 hf2 HCT S0 cr hbu
    go_wp2_with (first
      | (with_reducible refine wpList_alloc_z rfl 91 rfl (.agg #[.slice none 0 0, .int .i64 0]) zup.toArray zero_up rfl ?_)
      | (refine wpList_store_z (W := w2) rfl 91 (.tmp 11) (.tmp 51) rfl [.slice Au u.1.length cu, .int .i64 ((u.2 : Nat) : Int)] rfl rfl rfl size_up rfl two_cells ?_))
    intro w3 hb3 hf3 hz3
    obtain ⟨p11, hp11⟩ : ∃ p11, p11 = w2.heap.size := ⟨_, rfl⟩
    rw [← hp11] at hb3 ⊢
    have S2 := Lib.hid (S1.out.new1 hf3 hb3 (by omega))
    clear hf3 hb3 hz3 hp11 S1
    have i0 := (S2.out.loc _ (.head _)).1.at_ (i := 0) rfl
    have i1 := (S2.out.loc _ (.head _)).1.at_ (i := 1) rfl
    have HGR := Lib.hid (grow_ch (u := u) HPC1.out S2.out.ch ⟨_, rfl, S2.out.kb (.head _)⟩ S2.out.offD ht HGP.out)
    go_wp2_with fail
    refine HGR.out.mono ?_
    rintro e w4 ⟨rfl, hc4, hf4⟩
    have S3 := Lib.hid ((S2.out.call hf4 (by simp) hc4).less (L' := []) (N' := []) (K' := []) (List.nil_sublist _) (List.Sublist.refl _) (by simp))
    clear hc4 hf4 HGR S2 i0 i1
    cases is1 with
    | false =>
      obtain ⟨hg1, hd1⟩ := HFF.out rfl
      rw [hg1] at S3
      have hcc : c' = c ∧ is = false := by
        rw [HDEL.out] at hd1
        have := Option.some.inj hd1
        exact ⟨congrArg Prod.fst this, congrArg Prod.snd this⟩
      obtain ⟨hcc1, hcc2⟩ := hcc
      subst hcc2
      rw [← hcc1] at S3
      clear hg1 hd1 hcc1
      have hdf : True := trivial
      -- S3: the state at last
      rcases HRES.out with ⟨P2, F2, hF2⟩ | ⟨e5, hist, hful⟩
      ·
        have HEN := Lib.hid (end_ch HPC2.out S3.out.fin.1 (fun q hq => hq.1) hF2.e (by have := hF2.acc.next1; have := hF2.acc.next2; omega))
        have HST := Lib.hid (store_to hF2 HPC2.out.pg HPC2.out.n S3.out.fin.1.wf)
        have HWR := Lib.hid (Wr.end_ S3.out.fin.1.wf HPC2.out.n (by have := hF2.acc.next1; have := hF2.acc.next2; omega))
        clear hF2
        go_wp2_with fail
        refine HEN.out.mono ?_
        rintro e we ⟨rfl, hpx, hkp⟩
        have hkk : Kp X w we := (Kp.of S3.out.fin.1.fr).more hkp
        have HX := Lib.hid (HQ.out _ _ ⟨_, HWR.out, hkk, .inl ⟨by rw [HHAS.out], H.out.kept hpx hkk HWR.out.same HST.out⟩⟩)
        clear hpx hkp hkk HEN
        go_wp2_with fail
        exact HX.out
      ·
        have HEN := Lib.hid (end_err S3.out.fin.1 (by rw [e5]; omega))
        rw [e5] at HEN
        have HFU := Lib.hid hful
        have HIST := Lib.hid hist
        clear e5 hful hist
        go_wp2_with fail
        refine HEN.out.mono ?_
        rintro e we ⟨rfl, rfl⟩
        have HX := Lib.hid (HQ.out _ _ ⟨s, Wr.refl s, Kp.of S3.out.fin.1.fr, .inr ⟨rfl, rfl, H.out.stay S3.out.fin.1.fr, by
          have h1 := HFU.out
          have h2 := HRP.out
          have h3 := (begin_pg s.page s.n).2.1
          rw [HC.out, h3] at h1
          omega⟩⟩)
        clear HEN
        go_wp2_with fail
        exact HX.out
    | true =>
      have hl := HTR.out rfl
      rw [HDEL.out] at hl
      cases hlc : lowerC (growC c1 t u) t with
      | none => rw [hlc] at hl; cases hl
      | some d =>
        rw [hlc] at hl
        have hcc : c' = d ∧ is = true := by
          have := Option.some.inj hl
          exact ⟨congrArg Prod.fst this, congrArg Prod.snd this⟩
        obtain ⟨rfl, rfl⟩ := hcc
        obtain ⟨n, hn⟩ : ∃ n, (growC c1 t u).N ((growC c1 t u).roots t) = some n := by
          cases hN : (growC c1 t u).N ((growC c1 t u).roots t) with
          | some n => exact ⟨n, rfl⟩
          | none => unfold lowerC at hlc; rw [hN] at hlc; cases hlc
        have HLW := Lib.hid (lower_ch (HPC1.out.to (growC_same c1 t u)) S3.out.fin.1 S3.out.fin.1.top ht hn hlc)
        clear hl hlc hn
        go_wp2_with fail
        refine HLW.out.mono ?_
        rintro e w5 ⟨rfl, hc5, hf5⟩
        have S4 := Lib.hid (Sx.start hc5 hc5.top)
        clear hc5 hf5 HLW S3
        -- S4: the state at last
        rcases HRES.out with ⟨P2, F2, hF2⟩ | ⟨e5, hist, hful⟩
        ·
          have HEN := Lib.hid (end_ch HPC2.out S4.out.fin.1 (fun q hq => hq.1) hF2.e (by have := hF2.acc.next1; have := hF2.acc.next2; omega))
          have HST := Lib.hid (store_to hF2 HPC2.out.pg HPC2.out.n S4.out.fin.1.wf)
          have HWR := Lib.hid (Wr.end_ S4.out.fin.1.wf HPC2.out.n (by have := hF2.acc.next1; have := hF2.acc.next2; omega))
          clear hF2
          go_wp2_with fail
          refine HEN.out.mono ?_
          rintro e we ⟨rfl, hpx, hkp⟩
          have hkk : Kp X w we := (Kp.of S4.out.fin.1.fr).more hkp
          have HX := Lib.hid (HQ.out _ _ ⟨_, HWR.out, hkk, .inl ⟨by rw [HHAS.out], H.out.kept hpx hkk HWR.out.same HST.out⟩⟩)
          clear hpx hkp hkk HEN
          go_wp2_with fail
          exact HX.out
        ·
          have HEN := Lib.hid (end_err S4.out.fin.1 (by rw [e5]; omega))
          rw [e5] at HEN
          have HFU := Lib.hid hful
          have HIST := Lib.hid hist
          clear e5 hful hist
          go_wp2_with fail
          refine HEN.out.mono ?_
          rintro e we ⟨rfl, rfl⟩
          have HX := Lib.hid (HQ.out _ _ ⟨s, Wr.refl s, Kp.of S4.out.fin.1.fr, .inr ⟨rfl, rfl, H.out.stay S4.out.fin.1.fr, by
            have h1 := HFU.out
            have h2 := HRP.out
            have h3 := (begin_pg s.page s.n).2.1
            rw [HC.out, h3] at h1
            omega⟩⟩)
          clear HEN
          go_wp2_with fail
          exact HX.out
end
end Go.Proofs.YtpjbdpepofnleaaGreat
end
section
namespace Go.Proofs.YtpjbdpepofnleaaGreat
open Go.RowKit Go.ChangeMaps Go.MapKept Go.Maps Go.Sort Go.Shelf
theorem enter_way (vs : Array Value) (w : World) : (callFunc 73 vs).run Tryz.prog w = .ok (.enter 73 vs) w := by kernel_rfl
section
variable {w0 wS w : World} {dk g bc bn bs : Nat} {s : PS} {X D : Nat → Prop} {c : CD}
end
end Go.Proofs.YtpjbdpepofnleaaGreat
end
section
namespace Go.Proofs.YtpjbdpepofnleaaGreat
open Go.RowKit Go.ChangeMaps Go.MapKept Go.Maps Go.Sort Go.Shelf
theorem kids_drop {S : SubT} (hS : Fine S) {hi : Option Ky} {B : List It} : ∀ {A : List It} {lo : Option Ky} {c : Nat} {E : En} {P : List Nat}, Kids S lo c (A ++ B) hi E P →
    ∃ lo' EA ER PA PR, E = EA ++ ER ∧ P = PA ++ PR ∧ Kids S lo' (chOf c A) B hi ER PR ∧ ∀ e ∈ EA, ∃ x ∈ A, klt e.1 x.key
  | [], lo, c, E, P, h => ⟨lo, [], E, [], P, rfl, rfl, h, fun e he => (by cases he)⟩
  | x :: A, lo, c, _, _, ⟨E1, P1, E2, P2, h1, h2, rfl, rfl⟩ => by
    obtain ⟨lo', EA, ER, PA, PR, rfl, rfl, h3, h4⟩ := kids_drop hS (A := A) h2
    refine ⟨lo', E1 ++ EA, ER, P1 ++ PA, PR, by rw [List.append_assoc], by rw [List.append_assoc], h3, fun e he => ?_⟩
    rcases List.mem_append.1 he with he | he
    · exact ⟨x, List.mem_cons_self .., ((hS.all _ _ _ _ _ h1).2.1 e he).2 _ rfl⟩
    · obtain ⟨y, hy, hk⟩ := h4 e he
      exact ⟨y, List.mem_cons_of_mem _ hy, hk⟩
theorem klt_le_trans {a b d : Ky} (h1 : klt a b) (h2 : ¬ klt d b) : klt a d := by
  by_cases h : klt a d
  · exact h
  · by_cases hd : klt d a
    · exact absurd (klt_trans hd h1) h2
    · rw [klt_tri h hd] at h1
      exact absurd h1 h2
theorem way_rest {n : Nd} (low : Ky) : ∃ A B, n.l = A ++ B ∧ A.length = n.way low ∧ n.l.take (n.way low) = A ∧ n.l.drop (n.way low) = B ∧ ∀ x ∈ A, ¬ klt low x.key := by
  obtain ⟨A, hA⟩ : ∃ A, A = n.l.takeWhile fun x => !decide (klt low x.key) := ⟨_, rfl⟩
  obtain ⟨B, hB⟩ : ∃ B, B = n.l.dropWhile fun x => !decide (klt low x.key) := ⟨_, rfl⟩
  have hl : n.l = A ++ B := by rw [hA, hB, List.takeWhile_append_dropWhile]
  have hw : A.length = n.way low := by rw [hA]; rfl
  refine ⟨A, B, hl, hw, by rw [← hw, hl, List.take_left' rfl], by rw [← hw, hl, List.drop_left' rfl], fun x hx => ?_⟩
  rw [hA] at hx
  simpa using takeWhile_all x hx
theorem goE_len (low : Ky) (up : Option Ky) (most : Nat) : ∀ (E out : En), (goE low up most out E).1.length ≤ out.length + E.length
  | [], out => by simp [goE]
  | e :: E, out => by
    rw [goE_cons]
    have h1 := goE_len low up most E out
    have h2 := goE_len low up most E (out ++ [e])
    rw [List.length_append, List.length_singleton] at h2
    simp only [List.length_cons]
    split
    · omega
    · split
      · show out.length ≤ _; omega
      · omega
def EntC (D : Nat → Prop) (w : World) (e : Ky × List UInt8) (kv vv : Value) : Prop := (∃ g, BytesAt w kv e.1 g ∧ D g) ∧ ∃ g, BytesAt w vv e.2 g ∧ D g
def EntsC (D : Nat → Prop) (w : World) : En → List Value → Prop
  | [], [] => True
  | e :: E, kv :: vv :: cs => EntC D w e kv vv ∧ EntsC D w E cs
  | _, _ => False
theorem EntsC.len {D : Nat → Prop} {w : World} : ∀ {E : En} {cs : List Value}, EntsC D w E cs → cs.length = 2 * E.length
  | [], [], _ => rfl
  | _ :: E, _ :: _ :: cs, h => by
    have := EntsC.len h.2
    simp only [List.length_cons]
    omega
theorem EntsC.fr {D : Nat → Prop} {w w' : World} {S : List Nat} (hf : Fr S w w') (hS : ∀ q, D q → q ∈ S → w.heap.size ≤ q) : ∀ {E : En} {cs : List Value}, EntsC D w E cs → EntsC D w' E cs
  | [], [], _ => trivial
  | _ :: _E, _ :: _ :: _cs, ⟨⟨⟨g1, a1, b1⟩, ⟨g2, a2, b2⟩⟩, h⟩ => ⟨⟨⟨g1, a1.frD hf (hS _ b1), b1⟩, ⟨g2, a2.frD hf (hS _ b2), b2⟩⟩, EntsC.fr hf hS h⟩
theorem EntsC.re {D D' : Nat → Prop} {w : World} (hD : ∀ q, D q → q < w.heap.size → D' q) (h0 : ∃ q, D' q) : ∀ {E : En} {cs : List Value}, EntsC D w E cs → EntsC D' w E cs
  | [], [], _ => trivial
  | _ :: _E, _ :: _ :: _cs, h => ⟨⟨BytesAt.re h.1.1 hD h0, BytesAt.re h.1.2 hD h0⟩, EntsC.re hD h0 h.2⟩
theorem EntsC.snoc {D : Nat → Prop} {w : World} {e : Ky × List UInt8} {kv vv : Value} (he : EntC D w e kv vv) : ∀ {E : En} {cs : List Value}, EntsC D w E cs → EntsC D w (E ++ [e]) (cs ++ [kv, vv])
  | [], [], _ => ⟨he, trivial⟩
  | _ :: _E, _ :: _ :: _cs, h => ⟨h.1, EntsC.snoc he h.2⟩
theorem EntsC.at_ {D : Nat → Prop} {w : World} : ∀ {E : En} {cs : List Value} {i : Nat} {e : Ky × List UInt8}, EntsC D w E cs → E[i]? = some e → ∃ kv vv, cs[i * 2]? = some kv ∧ cs[i * 2 + 1]? = some vv ∧ EntC D w e kv vv
  | [], [], i, e, _, h => by simp at h
  | a :: E, kv :: vv :: cs, 0, e, h, he => by
    simp only [List.getElem?_cons_zero, Option.some.injEq] at he
    subst he
    exact ⟨kv, vv, rfl, rfl, h.1⟩
  | a :: E, kv :: vv :: cs, i + 1, e, h, he => by
    simp only [List.getElem?_cons_succ] at he
    obtain ⟨k1, v1, h1, h2, h3⟩ := EntsC.at_ h.2 he
    refine ⟨k1, v1, ?_, ?_, h3⟩
    · rw [show (i + 1) * 2 = i * 2 + 1 + 1 by omega]; simpa using h1
    · rw [show (i + 1) * 2 + 1 = i * 2 + 1 + 1 + 1 by omega]; simpa using h2
def Dv (D : Nat → Prop) (ov : Value) : Nat → Prop := fun q => D q ∧ ov.ownBlock ≠ some q
def UpK (D : Nat → Prop) (w : World) (tv : Value) : Option Ky → Prop
  | none => tv = .slice none 0 0
  | some b => ∃ a n c q, tv = .slice (some a) n c ∧ BytesAt w tv b q ∧ D q
def walkC (bc : Nat) (fv tv ov : Value) (most : Nat) : List Value := [.pointer (some ⟨bc, 0, none⟩), fv, tv, .int .i64 (most : Int), ov]
structure Wst (H : Nat) (wS : World) (g bc bn bs bw : Nat) (D : Nat → Prop) (c : CD) (fv tv : Value) (low : Ky) (up : Option Ky) (most : Nat) (out : En) (ov : Value) (w : World) : Prop where
  ch : ChAt wS w g bc bn bs (Dv D ov) c
  bwk : Blk w bw 95 (walkC bc fv tv ov most)
  low : ∃ q, BytesAt w fv low q ∧ Dv D ov q
  up : UpK (Dv D ov) w tv up
  row : ∃ cs, w.ownsRow H 39 2 ov out.length cs ∧ EntsC (Dv D ov) w out cs
  nb : ∀ q, D q → q ≠ bw ∧ q ≠ bc ∧ q ≠ bn ∧ q ≠ bs
  top : ∀ q, w.heap.size ≤ q → D q
  own : ∀ q, ov.ownBlock = some q → q ≠ bw ∧ q ≠ bc ∧ q ≠ bn ∧ q ≠ bs
  hb : bw ≠ bc ∧ bw ≠ bn ∧ bw ≠ bs
  hH : wS.heap.size ≤ H
  hw : wS.heap.size ≤ bw
  hz : H ≤ w.heap.size
structure WFr (bc bw : Nat) (ov : Value) (w : World) (ov' : Value) (w' : World) : Prop where
  fr : Fr (bc :: bw :: ov.ownBlock.toList) w w'
  own : ∀ q, ov'.ownBlock = some q → ov.ownBlock = some q ∨ w.heap.size ≤ q
section
variable {H g bc bn bs bw : Nat} {wS w w1 w2 w3 : World} {D : Nat → Prop} {c c' : CD} {fv tv ov ov' ov1 ov2 : Value} {low : Ky} {up : Option Ky} {most : Nat} {out : En}
theorem WFr.refl : WFr bc bw ov w ov w := ⟨Fr.refl _ _, fun _ h => .inl h⟩
theorem WFr.trans (h : WFr bc bw ov w ov1 w1) (h' : WFr bc bw ov1 w1 ov2 w2) : WFr bc bw ov w ov2 w2 := by
  have hz := h.fr.size
  refine ⟨h.fr.trans h'.fr fun q hq => ?_, fun q hq => ?_⟩
  · simp only [List.mem_cons] at hq ⊢
    rcases hq with rfl | rfl | hq
    · exact .inl (.inl rfl)
    · exact .inl (.inr (.inl rfl))
    · rcases h.own q (by simpa using hq) with h1 | h1
      · exact .inl (.inr (.inr (by simpa using h1)))
      · exact .inr h1
  · rcases h'.own q hq with h1 | h1
    · exact h.own q h1
    · exact .inr (by omega)
theorem WFr.quiet (h : WFr bc bw ov w ov1 w1) (hf : Fr [] w1 w2) : WFr bc bw ov w ov1 w2 := ⟨h.fr.trans hf (by simp), h.own⟩
theorem WFr.pre (hf : Fr [] w w1) (h : WFr bc bw ov w1 ov1 w2) : WFr bc bw ov w ov1 w2 := ⟨(hf.mono (by simp)).trans h.fr (fun q hq => .inl hq), fun q hq => by
  rcases h.own q hq with h1 | h1
  · exact .inl h1
  · exact .inr (by have := hf.size; omega)⟩
theorem WFr.keep (h : WFr bc bw ov w ov1 w1) {p : Nat} {t : TypeId} {cs : List Value} (hb : Blk w p t cs) (h1 : p ≠ bc) (h2 : p ≠ bw) (h3 : ov.ownBlock ≠ some p) : Blk w1 p t cs :=
  hb.fr h.fr (by simp only [List.mem_cons, Option.mem_toList]; rintro (h | h | h); exact h1 h; exact h2 h; exact h3 h)
theorem Wst.shape (h : Wst H wS g bc bn bs bw D c fv tv low up most out ov w) : ∃ A ca, ov = .slice A out.length ca := by
  obtain ⟨cs, h1, _⟩ := h.row
  obtain ⟨A, ca, e, _⟩ := own_shape h1
  exact ⟨A, ca, e⟩
theorem Wst.lt (h : Wst H wS g bc bn bs bw D c fv tv low up most out ov w) : ∀ q, ov.ownBlock = some q → H ≤ q ∧ q < w.heap.size := by
  obtain ⟨cs, h1, _⟩ := h.row
  exact fun q hq => ⟨(h1.lt q hq).1, own_lt h1 q hq⟩
theorem Wst.topv (h : Wst H wS g bc bn bs bw D c fv tv low up most out ov w) : ∀ q, w.heap.size ≤ q → Dv D ov q := fun q hq => ⟨h.top q hq, fun e => by have := (h.lt q e).2; omega⟩
theorem UpK.fr {S : List Nat} (h : UpK D w tv up) (hf : Fr S w w1) (hS : ∀ q, D q → q ∈ S → w.heap.size ≤ q) : UpK D w1 tv up := by
  cases up with
  | none => exact h
  | some b =>
    obtain ⟨a, n, ca, q, h1, h2, h3⟩ := h
    exact ⟨a, n, ca, q, h1, h2.frD hf (hS _ h3), h3⟩
theorem UpK.re {D' : Nat → Prop} (h : UpK D w tv up) (hD : ∀ q, D q → q < w.heap.size → D' q) (h0 : ∃ q, D' q) : UpK D' w tv up := by
  cases up with
  | none => exact h
  | some b =>
    obtain ⟨a, n, ca, q, h1, h2, h3⟩ := h
    obtain ⟨q', h4, h5⟩ := BytesAt.re ⟨q, h2, h3⟩ hD h0
    exact ⟨a, n, ca, q', h1, h4, h5⟩
theorem Wst.quiet (h : Wst H wS g bc bn bs bw D c fv tv low up most out ov w1) (hf : Fr [] w1 w2) : Wst H wS g bc bn bs bw D c fv tv low up most out ov w2 := by
  have hz := hf.size
  have hz1 := h.hz
  obtain ⟨q, l1, l2⟩ := h.low
  obtain ⟨cs, r1, r2⟩ := h.row
  exact ⟨h.ch.frame hf, h.bwk.fr hf (by simp), ⟨q, l1.fr hf (by simp), l2⟩, h.up.fr hf (by simp), ⟨cs, own_fr r1 hf (by simp), r2.fr hf (by simp)⟩, h.nb, fun q hq => h.top q (by omega), h.own, h.hb, h.hH, h.hw, by omega⟩
theorem Wst.failed (h : Wst H wS g bc bn bs bw D c fv tv low up most out ov w1) (hf : Fr [bc] w1 w2) (hc : ChAt wS w2 g bc bn bs (Dv D ov) c') : Wst H wS g bc bn bs bw D c' fv tv low up most out ov w2 := by
  have hz := hf.size
  have hz1 := h.hz
  obtain ⟨q, l1, l2⟩ := h.low
  obtain ⟨cs, r1, r2⟩ := h.row
  have hn : ∀ q, Dv D ov q → q ∈ [bc] → w1.heap.size ≤ q := fun q hq hm => absurd (List.mem_singleton.1 hm) (h.nb q hq.1).2.1
  exact ⟨hc, h.bwk.fr hf (by simpa using h.hb.1), ⟨q, l1.frD hf (hn _ l2), l2⟩, h.up.fr hf hn, ⟨cs, own_fr r1 hf (fun q hq hm => (h.own q hq).2.1 (List.mem_singleton.1 hm)), r2.fr hf hn⟩, h.nb, fun q hq => h.top q (by omega), h.own, h.hb, h.hH, h.hw, by omega⟩
theorem Wst.push (h : Wst H wS g bc bn bs bw D c fv tv low up most out ov w1) {cs : List Value} (hents : EntsC (Dv D ov) w1 out cs) {e : Ky × List UInt8} {kv vv : Value} (he : EntC (Dv D ov) w1 e kv vv) (hf : Fr ov.ownBlock.toList w1 w2)
    (hrow : w2.ownsRow 0 39 2 ov' (out.length + 1) (cs ++ [kv, vv])) (hq : ∀ q, ov'.ownBlock = some q → ov.ownBlock = some q ∨ q = w1.heap.size) :
    Wst H wS g bc bn bs bw D c fv tv low up most (out ++ [e]) ov' (w2.setCell ⟨bw, 4, none⟩ ov') ∧ WFr bc bw ov w1 ov' (w2.setCell ⟨bw, 4, none⟩ ov') := by
  have hz := hf.size
  have hz1 := h.hz
  have hlt := h.lt
  have hbl := h.bwk.lt
  have hcl := h.ch.lts
  have hf3 : Fr [bw] w2 (w2.setCell ⟨bw, 4, none⟩ ov') := (Fr.refl [bw] w2).setCell (.inl (by simp)) _
  have hz3 := hf3.size
  obtain ⟨D2, hD2⟩ : ∃ D2 : Nat → Prop, D2 = fun q => Dv D ov q ∧ ov'.ownBlock ≠ some q := ⟨_, rfl⟩
  have d1 : ∀ q, Dv D ov q → q < w1.heap.size → D2 q := fun q hq' hl => by
    rw [hD2]
    refine ⟨hq', fun e => ?_⟩
    rcases hq _ e with h1 | h1
    · exact hq'.2 h1
    · omega
  have d0 : ∃ q, D2 q ∧ w1.heap.size ≤ q := ⟨w1.heap.size + 1, by
    rw [hD2]
    refine ⟨h.topv _ (by omega), fun e => ?_⟩
    rcases hq _ e with h1 | h1
    · have := (hlt _ h1).2; omega
    · omega, by omega⟩
  have d0' : ∃ q, D2 q := d0.imp fun q hq => hq.1
  have dS : ∀ q, D2 q → q ∈ ov.ownBlock.toList → w1.heap.size ≤ q := fun q hq' hm => by
    rw [hD2] at hq'
    exact absurd (by simpa using hm) hq'.1.2
  have dV : ∀ q, D2 q → Dv D ov' q := fun q hq' => by
    rw [hD2] at hq'
    exact ⟨hq'.1.1, hq'.2⟩
  have dB : ∀ q, Dv D ov' q → q ∈ [bw] → w2.heap.size ≤ q := fun q hq' hm => absurd (List.mem_singleton.1 hm) (h.nb q hq'.1).1
  have dom2 : ∀ q, D2 q → q ≠ bc ∧ q ≠ bn ∧ q ≠ bs := fun q hq' => (h.nb q (dV q hq').1).2
  have hown' : ∀ q, ov'.ownBlock = some q → q ≠ bw ∧ q ≠ bc ∧ q ≠ bn ∧ q ≠ bs := fun q e => by
    rcases hq _ e with h1 | h1
    · exact h.own q h1
    · omega
  have c1 : ChAt wS w2 g bc bn bs D2 c := (h.ch.re d1 d0 dom2).frS hf fun q hm => by
    have hm' : ov.ownBlock = some q := by simpa using hm
    have := (hlt q hm').1
    have h5 := h.own q hm'
    refine .inr ⟨by have := h.hH; omega, fun hq' => ?_, h5.2⟩
    rw [hD2] at hq'
    exact hq'.1.2 hm'
  have c2 : ChAt wS (w2.setCell ⟨bw, 4, none⟩ ov') g bc bn bs (Dv D ov') c := (c1.weak dV fun q hq' => (h.nb q hq'.1).2).frS hf3 fun q hm => by
    obtain rfl := List.mem_singleton.1 hm
    exact .inr ⟨h.hw, fun hq' => (h.nb _ hq'.1).1 rfl, h.hb⟩
  obtain ⟨ql, l1, l2⟩ := BytesAt.re h.low d1 d0'
  have u2 : UpK (Dv D ov') (w2.setCell ⟨bw, 4, none⟩ ov') tv up := by
    have u1 := ((h.up.re d1 d0').fr hf dS)
    have u1' : UpK (Dv D ov') w2 tv up := by
      cases up with
      | none => exact u1
      | some b => obtain ⟨a, n, ca, q, a1, a2, a3⟩ := u1; exact ⟨a, n, ca, q, a1, a2, dV q a3⟩
    exact u1'.fr hf3 dB
  have e1 : EntsC D2 w1 (out ++ [e]) (cs ++ [kv, vv]) := (hents.snoc he).re d1 d0'
  have e2 : EntsC (Dv D ov') w2 (out ++ [e]) (cs ++ [kv, vv]) := by
    have := e1.fr hf dS
    exact this.re (fun q hq' _ => dV q hq') (d0'.imp fun q hq' => dV q hq')
  refine ⟨⟨c2, ?_, ⟨ql, (l1.frD hf (dS _ l2)).frD hf3 (dB _ (dV _ l2)), dV _ l2⟩, u2, ⟨cs ++ [kv, vv], ?_, e2.fr hf3 dB⟩, h.nb, fun q hq' => h.top q (by omega), hown', h.hb, h.hH, h.hw, by omega⟩, ?_⟩
  · have hb := (h.bwk.fr hf (fun hm => (h.own bw (by simpa using hm)).1 rfl)).set_ 4 ov'
    exact hb
  · have hl : (out ++ [e]).length = out.length + 1 := by simp
    rw [hl]
    refine own_fr (own_base hrow fun q hq' => ?_) hf3 fun q hq' hm => (hown' q hq').1 (List.mem_singleton.1 hm)
    rcases hq _ hq' with h1 | h1
    · exact (hlt q h1).1
    · omega
  · refine ⟨(hf.mono fun q hm => .inl (by simp only [List.mem_cons]; exact .inr (.inr hm))).trans hf3 fun q hm => .inl (by simp only [List.mem_cons]; exact .inr (.inl (List.mem_singleton.1 hm))), fun q hq' => ?_⟩
    rcases hq _ hq' with h1 | h1
    · exact .inl h1
    · exact .inr (by omega)
end
end Go.Proofs.YtpjbdpepofnleaaGreat
end
