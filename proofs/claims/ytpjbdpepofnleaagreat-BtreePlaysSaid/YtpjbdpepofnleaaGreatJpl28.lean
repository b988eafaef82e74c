/-
  Joined by join.py: Zi Zj Zk Yg Zl Zm
-/
import Derived.Test.YtpjbdpepofnleaaGreatJpl27
set_option maxRecDepth 100000
set_option maxHeartbeats 32000000
namespace Go.Proofs.YtpjbdpepofnleaaGreat
section
open Go.RowKit Go.ChangeMaps Go.MapKept Go.Maps Go.Sort Go.Shelf
theorem Forest.pages {c : CD} {E : Nat -> En} {P : Nat -> List Nat} {F : List Nat} {pg : Nat -> List UInt8} (h : Forest c E P F) (he : ∀ k, k < c.n -> pg k = c.pg k) : Forest { c with pg := pg } E P F := by
 have hN : ({ c with pg := pg } : CD).N = c.N := by
  funext k
  unfold CD.N
  by_cases hk : 1 <= k /\ k < c.n
  ·simp only [hk, and_self, if_true]; rw [he k hk.2]
  ·simp only [hk, if_false]
 refine ⟨h.e, fun t ht => by rw [hN]; exact h.tree t ht, ⟨h.acc.perm, h.acc.next1, h.acc.next2, h.acc.few, ?_, ⟨h.acc.wf.rM, h.acc.wf.rS, h.acc.wf.mM, h.acc.wf.mS⟩⟩⟩; refine Chain.congr h.acc.chain fun k hk => ?_; have h1 := h.acc.perm.mem_iff.1 (List.mem_append_right _ hk); rw [List.mem_range'_1] at h1; have := h.acc.next1; have := h.acc.next2; unfold CD.nx
 simp only
 rw [he k (by omega)]
theorem Store.congr {pg pg' : Nat -> List UInt8} {n : Nat} {E : Nat -> En} (h : Store pg n E) (he : ∀ k, k < n -> pg' k = pg k) : Store pg' n E := by
 obtain ⟨h1, h2, P, F, hF⟩ := h; have hn : (beginC pg n).n = n := (begin_pg pg n).2.1; have h0 : 0 < n := by have := hF.acc.next1; have := hF.acc.next2; omega
 have e0 := he 0 h0
 have hb : beginC pg' n = { beginC pg n with pg := pg' } := by
  unfold beginC; rw [e0]
  split <;> rfl
 refine ⟨by unfold Marked at h1 ⊢; rw [e0]; exact h1, fun k hk => by rw [he k hk]; exact h2 k hk, P, F, ?_⟩; rw [hb]; exact hF.pages fun k hk => by rw [hn] at hk; rw [(begin_pg pg n).1]; exact he k hk
theorem PInv.foldw {c : Nat} {C : Nat -> List UInt8} : ∀ (l : List (Nat × List UInt8)) {s : PS}, PInv c s C -> (∀ p ∈ l, p.1 < s.n /\ p.2.length <= 512) -> PInv c (l.foldl (fun s p => s.write p.1 p.2) s) C
 | [], _, h, _ => h
 | p :: l, s, h, hl => by
  obtain ⟨h1, h2⟩ := hl p (List.mem_cons_self ..); have h3 : PInv c (s.write p.1 p.2) C := h.wrote h1 (pad512_len h2); exact PInv.foldw l h3 fun q hq => hl q (List.mem_cons_of_mem _ hq)
theorem Wr.inv {c : Nat} {s s' : PS} {C : Nat -> List UInt8} (h : Wr s s') (hi : PInv c s C) : PInv c s' C := by
 obtain ⟨l, hl, rfl⟩ := h; exact PInv.foldw l hi hl
structure Comm (c : Nat) (s : PS) (K : Nat -> En) : Prop where
 inv : ∃ C, PInv c s C /\ Store C s.n K
 lim : s.D.limit = -1
 done : s.D.done <= 300000 * c
theorem Wr.comm {c : Nat} {s s' : PS} {K : Nat -> En} (h : Wr s s') (hc : Comm c s K) : Comm c s' K := by
 obtain ⟨C, h1, h2⟩ := hc.inv; exact ⟨⟨C, h.inv h1, by rw [h.same.n]; exact h2⟩, by rw [h.same.D]; exact hc.lim, by rw [h.same.D]; exact hc.done⟩
theorem held_few {c : Nat} {s : PS} {C : Nat -> List UInt8} (h : PInv c s C) : s.held.length <= s.n := by
 exact h.held.few
theorem Comm.commit {c : Nat} {s : PS} {K E : Nat -> En} (h : Comm c s K) (hc : c + 4 < 4294967296) (hS : Store s.page s.n E) :
  s.commit.1.n = s.n /\ s.commit.1.br = false /\ Calm s.commit.1 /\ Store s.commit.1.page s.n E /\ (s.commit.2 = 0 /\ Comm (c + 3) s.commit.1 E ∨ (s.commit.2 = 4 ∨ s.commit.2 = 5) /\ Comm (c + 3) s.commit.1 K) := by
 obtain ⟨C, h1, h2⟩ := h.inv; have hd := commit_done s (held_few h1) h1.n2; have hdn : s.commit.1.D.done <= 300000 * (c + 3) := by have := h.done; omega
 rcases h1.committed hc with ⟨a1, a2, a3, a4, a5, a6⟩ | ⟨a1, a2, a3, a4, a5, a6, _⟩ | ⟨_, _, a3, _⟩
 ·have hp : ∀ k, k < s.n -> s.commit.1.page k = s.page k := fun k hk => by
   rw [a2.page_eq (by rw [a4]; exact hk), a3, h1.page_eq hk]
   rfl
  have hS2 : Store s.commit.1.page s.n E := hS.congr hp; refine ⟨a4, a2.br, a2.calm, hS2, .inl ⟨a1, ⟨s.commit.1.page, a2.congr fun k hk => ?_, by rw [a4]; exact hS2⟩, a6 h.lim, hdn⟩⟩; rw [a2.page_eq hk, a3]
  rfl
 ·have hp : ∀ k, k < s.n -> s.commit.1.page k = s.page k := fun k hk => by
   rw [a2.page_eq (by rw [a4]; exact hk), a3, h1.page_eq hk]
  exact ⟨a4, a2.br, a2.calm, hS.congr hp, .inr ⟨a1, ⟨C, a2, by rw [a4]; exact h2⟩, a6 h.lim, hdn⟩⟩
 ·exact absurd h.lim a3
theorem Comm.rolled {c : Nat} {s : PS} {K : Nat -> En} (h : Comm c s K) : Comm c { s with late := [] } K /\ ({ s with late := [] } : PS).br = false /\ Calm { s with late := [] } /\ Store ({ s with late := [] } : PS).page s.n K := by
 obtain ⟨C, h1, h2⟩ := h.inv; have h3 := h1.rolled; refine ⟨⟨⟨C, h3, h2⟩, h.lim, h.done⟩, h3.br, h3.calm, h2.congr fun k hk => ?_⟩; rw [h3.page_eq hk]
 rfl
structure EFew (N : Nat) (E : Nat -> En) : Prop where
 rise : ∀ t, Rise (E t)
 few : ∀ t, (E t).length <= N
 keys : ∀ t, KFew (E t)
theorem EFew.nil : EFew 0 fun _ => [] := ⟨fun _ => List.Pairwise.nil, fun _ => Nat.le_refl _, fun _ e h => by cases h⟩
theorem EFew.mono {N M : Nat} {E : Nat -> En} (h : EFew N E) (hm : N <= M) : EFew M E := ⟨h.rise, fun t => Nat.le_trans (h.few t) hm, h.keys⟩
theorem EFew.set {N : Nat} {E : Nat -> En} (h : EFew N E) (t : Nat) {F : En} (h1 : Rise F) (h2 : F.length <= N) (h3 : KFew F) : EFew N (setR E t F) := by
 refine ⟨fun j => ?_, fun j => ?_, fun j => ?_⟩ <;> by_cases hj : j = t
 ·subst hj; rw [setR_at]; exact h1
 ·rw [setR_off _ _ hj]; exact h.rise j
 ·subst hj; rw [setR_at]; exact h2
 ·rw [setR_off _ _ hj]; exact h.few j
 ·subst hj; rw [setR_at]; exact h3
 ·rw [setR_off _ _ hj]; exact h.keys j
theorem EFew.put {N : Nat} {E : Nat -> En} (h : EFew N E) (t : Nat) {key : Ky} (hk : key.length <= 600) (v : List UInt8) : EFew (N + 1) (setR E t (putE (E t) key v)) := by
 refine (h.mono (Nat.le_succ N)).set t (putE_rise (h.rise t)) (by have := putE_len (E t) key v; have := h.few t; omega) fun e he => ?_; rcases putE_mem.1 he with rfl | ⟨he, _⟩
 ·exact hk
 ·exact h.keys t e he
theorem EFew.del {N : Nat} {E : Nat -> En} (h : EFew N E) (t : Nat) (key : Ky) : EFew (N + 1) (setR E t (delE (E t) key)) :=
 (h.mono (Nat.le_succ N)).set t ((h.rise t).filter _) (by have := delE_len (E t) key; have := h.few t; omega) fun e he => h.keys t e (List.mem_filter.1 he).1
theorem PgX.others {w0 w w' : World} {d g : Nat} {s : PS} {X : Nat -> Prop} {S : List Nat} (h : PgX w0 w d g s X) (hf : Fr S w w') (hS : ∀ x ∈ S, X x) (h0 : ∀ x ∈ S, w0.heap.size <= x) : PgX w0 w' d g s (More X w w') := by
 obtain ⟨lg, bl, bh, fp, h1, h2, h3, h4⟩ := h; refine ⟨lg, bl, bh, fp, h1.fr hf (fun k hk hm => (h2 k hk).2 (hS k hm)), fun k hk => ⟨(h2 k hk).1, fun hx => ?_⟩, h3.trans hf (fun x hx => .inr (h0 x hx)), fun k hk => ?_⟩
 ·have := h1.lt k hk; rcases hx with hx | hx
  ·exact (h2 k hk).2 hx
  ·omega
 ·have := hf.size; rcases hk with hk | hk
  ·have := h4 k hk; omega
  ·exact hk.2
structure PSt (p : Nat) (w1 w : World) (dk g st m : Nat) (vs : List Value) (s : PS) (X : Nat -> Prop) (E F : Nat -> En) : Prop where
 st : StX w1 w dk g st s X E
 old : ∀ k, k < w1.heap.size -> X k
 ref : RefAt p w1.heap.size w m vs F
 foot : ∀ q ∈ fl m vs, X q
section
variable {p dk g st m : Nat} {w1 w w' : World} {vs vs' : List Value} {s s' : PS} {X : Nat -> Prop} {E E' F F' : Nat -> En}
theorem PSt.off (h : PSt p w1 w dk g st m vs s X E F) : st ∉ fl m vs := fun hq => by
 rcases fl_mem.1 hq with rfl | ⟨v, hv, hvq⟩
 ·exact h.ref.blk.ne_ h.st.blk (by decide) rfl
 ·obtain ⟨t, ht⟩ := List.mem_iff_getElem?.1 hv; obtain ⟨cs, h1, _⟩ := h.ref.row t v ht; exact own_ne h1 h.st.blk (by decide) hvq
theorem PSt.stay (h : PSt p w1 w dk g st m vs s X E F) (hf : Fr [] w w') : PSt p w1 w' dk g st m vs s X E F := ⟨h.st.stay hf, h.old, h.ref.fr0 hf, h.foot⟩
theorem PSt.fr (h : PSt p w1 w dk g st m vs s X E F) (hf : Fr [] w w') : PSt p w1 w' dk g st m vs s (More X w w') E F := ⟨h.st.fr hf, fun k hk => .inl (h.old k hk), h.ref.fr0 hf, fun q hq => .inl (h.foot q hq)⟩
theorem PSt.stored (h : PSt p w1 w dk g st m vs s X E F) (hs : StX w1 w' dk g st s' X E') (hk : Kp X w w') : PSt p w1 w' dk g st m vs s' X E' F := by
 obtain ⟨S, hf, hS⟩ := hk
 exact ⟨hs, h.old, h.ref.fr hf fun q hq => ⟨fun hm => hS q hq (h.foot q hm), by
  rcases Nat.lt_or_ge q w1.heap.size with hl | hl
  ·exact absurd (h.old q hl) (hS q hq)
  ·have := h.ref.pH; omega⟩, h.foot⟩
theorem PSt.reffed (h : PSt p w1 w dk g st m vs s X E F) (hr : RefAt p w1.heap.size w' m vs' F') (hf : Fr (fl m vs) w w') (hn : ∀ q ∈ fl m vs', q ∈ fl m vs ∨ w.heap.size <= q) : PSt p w1 w' dk g st m vs' s (More X w w') E F' := by
 refine ⟨⟨h.st.px.others hf h.foot fun q hq => (h.ref.lt q hq).1, h.st.blk.fr hf h.off, .inl h.st.xs, h.st.br, h.st.calm, h.st.store⟩, fun k hk => .inl (h.old k hk), hr, fun q hq => ?_⟩; rcases hn q hq with h1 | h1
 ·exact .inl (h.foot q h1)
 ·exact .inr ⟨h1, (hr.lt q hq).2⟩
def Oth (w w' : World) (m : Nat) (vs : List Value) (X : Nat -> Prop) : Prop := ∃ S, Fr S w w' /\ ∀ q ∈ S, ¬ X q ∨ q ∈ fl m vs ∨ w.heap.size <= q
theorem Oth.fr (hf : Fr [] w w') : Oth w w' m vs X := ⟨[], hf, by simp⟩
theorem Oth.kp (h : Kp X w w') : Oth w w' m vs X := by
 obtain ⟨S, hf, hS⟩ := h; exact ⟨S, hf, fun q hq => .inl (hS q hq)⟩
theorem Oth.rf (h : Fr (fl m vs) w w') : Oth w w' m vs X := ⟨_, h, fun _ hq => .inr (.inl hq)⟩
theorem Oth.trans {w2 : World} {X' : Nat -> Prop} (h : Oth w w' m vs X) (h' : Oth w' w2 m vs' X') (hX : ∀ q, X q -> X' q) (hv : ∀ q ∈ fl m vs', q ∈ fl m vs ∨ w.heap.size <= q) : Oth w w2 m vs X := by
 obtain ⟨S, hf, hS⟩ := h; obtain ⟨T, hf', hT⟩ := h'; have hz := hf.size; refine ⟨S ++ T, (hf.mono fun q hq => .inl (List.mem_append_left _ hq)).trans (hf'.mono fun q hq => .inl (List.mem_append_right S hq)) (fun q hq => .inl hq), fun q hq => ?_⟩; rcases List.mem_append.1 hq with hq | hq
 ·exact hS q hq
 ·rcases hT q hq with h1 | h1 | h1
  ·exact .inl fun hx => h1 (hX q hx)
  ·exact .inr (hv q h1)
  ·exact .inr (.inr (by omega))
theorem Oth.other {H k : Nat} {vk : List Value} {K : Nat -> En} (h : Oth w w' m vs X) (hr : RefAt p H w k vk K) (hx : ∀ q ∈ fl k vk, X q) (hd : ∀ q ∈ fl k vk, q ∉ fl m vs) (hold : ∀ q, q < p -> X q) (hlow : p <= w.heap.size) (hm : ∀ q ∈ fl m vs, p <= q) : RefAt p H w' k vk K := by
 obtain ⟨S, hf, hS⟩ := h; refine hr.fr hf fun q hq => ?_; rcases hS q hq with h1 | h1 | h1
 ·exact ⟨fun hm => h1 (hx q hm), by
   rcases Nat.lt_or_ge q p with hl | hl
   ·exact absurd (hold q hl) h1
   ·exact hl⟩
 ·exact ⟨fun hk => hd q hk h1, hm q h1⟩
 ·exact ⟨fun hk => by have := (hr.lt q hk).2; omega, by omega⟩
end
def DoEnd (p N : Nat) (w1 : World) (dk g st m : Nat) (vs : List Value) (s : PS) (X : Nat -> Prop) (w w' : World) : Prop :=
 ∃ vs' s' X' E', PSt p w1 w' dk g st m vs' s' X' E' E' /\ EFew (N + 1) E' /\ Wr s s' /\ Oth w w' m vs X /\ (∀ q, X q -> X' q) /\ ∀ q ∈ fl m vs', q ∈ fl m vs ∨ w.heap.size <= q
theorem may_nat {t : Int} {key : Ky} (h : mayB t key = true) : ∃ tn : Nat, t = (tn : Int) /\ tn < 8 /\ 1 <= key.length /\ key.length <= 96 := by
 unfold mayB at h; simp only [Bool.and_eq_true, decide_eq_true_eq] at h; exact ⟨t.toNat, by omega, by omega, by omega, h.2⟩
section
variable {p N dk g st m : Nat} {w1 w w2 w' : World} {vs vs' : List Value} {s s' : PS} {X X' : Nat -> Prop} {E E' F : Nat -> En}
theorem Put_pl (h : PSt p w1 w dk g st m vs s X E F) (hE : EFew N E) (hN : N <= 1000) {t : Int} {kv vv : Value} {key v : Ky} {gk gv : Nat} (hk : BytesAt w kv key gk) (hkX : X gk) (hv : BytesAt w vv v gv) (hvX : X gv) :
  Calls Tryz.prog 10 #[.pointer (some ⟨st, 0, none⟩), .int .i64 t, kv, vv] w fun e w' =>
   ((mayB t key && decide (v.length <= 64)) = false /\ e = .returned (.int .i64 1) /\ w' = w) ∨
   ((mayB t key && decide (v.length <= 64)) = true /\ e = .returned (.int .i64 0) /\ ∃ s', PSt p w1 w' dk g st m vs s' X (setR E t.toNat (putE (E t.toNat) key v)) F /\ Wr s s' /\ Kp X w w') ∨
   (e = .returned (.int .i64 5) /\ ∃ s', PSt p w1 w' dk g st m vs s' X E F /\ Wr s s' /\ Kp X w w') := by
 cases hm : (mayB t key && decide (v.length <= 64)) with
 | false => exact (Put_no hk hv hm).mono fun e w' ⟨he, hw⟩ => .inl ⟨rfl, he, hw.symm⟩
 | true =>
  rw [Bool.and_eq_true, decide_eq_true_eq] at hm; obtain ⟨tn, rfl, ht, h1, h2⟩ := may_nat hm.1; refine (Put_X h.st ht hk hkX hv hvX h1 h2 hm.2 (by have := hE.few tn; omega)).mono fun e w' ⟨s', hw, hkp, hend⟩ => ?_; rw [Int.toNat_natCast]; rcases hend with ⟨he, hs⟩ | ⟨he, hss, hs, _⟩
  ·exact .inr (.inl ⟨rfl, he, s', h.stored hs hkp, hw, hkp⟩)
  ·exact .inr (.inr ⟨he, s, h.stored hs hkp, Wr.refl s, hkp⟩)
theorem Delete_pl (h : PSt p w1 w dk g st m vs s X E F) (hE : EFew N E) (hN : N <= 1000) {t : Int} {kv : Value} {key : Ky} {gk : Nat} (hk : BytesAt w kv key gk) (hkX : X gk) :
  Calls Tryz.prog 15 #[.pointer (some ⟨st, 0, none⟩), .int .i64 t, kv] w fun e w' =>
   (mayB t key = false /\ e = .returned (.tuple #[.bool false, .int .i64 1]) /\ w' = w) ∨
   (mayB t key = true /\ e = .returned (.tuple #[.bool (hasE (E t.toNat) key), .int .i64 0]) /\ ∃ s', PSt p w1 w' dk g st m vs s' X (setR E t.toNat (delE (E t.toNat) key)) F /\ Wr s s' /\ Kp X w w') ∨
   (e = .returned (.tuple #[.bool false, .int .i64 5]) /\ ∃ s', PSt p w1 w' dk g st m vs s' X E F /\ Wr s s' /\ Kp X w w') := by
 cases hm : mayB t key with
 | false => exact (Delete_no hk hm).mono fun e w' ⟨he, hw⟩ => .inl ⟨rfl, he, hw.symm⟩
 | true =>
  obtain ⟨tn, rfl, ht, h1, h2⟩ := may_nat hm; refine (Delete_X h.st ht hk hkX h1 h2 (by have := hE.few tn; omega)).mono fun e w' ⟨s', hw, hkp, hend⟩ => ?_; rw [Int.toNat_natCast]; rcases hend with ⟨he, hs⟩ | ⟨he, hss, hs, _⟩
  ·exact .inr (.inl ⟨rfl, he, s', h.stored hs hkp, hw, hkp⟩)
  ·exact .inr (.inr ⟨he, s, h.stored hs hkp, Wr.refl s, hkp⟩)
theorem Get_pl (h : PSt p w1 w dk g st m vs s X E F) (hE : EFew N E) (hN : N <= 1000) {t : Int} {kv : Value} {key : Ky} {gk : Nat} (hk : BytesAt w kv key gk) (hkX : X gk) :
  Calls Tryz.prog 14 #[.pointer (some ⟨st, 0, none⟩), .int .i64 t, kv] w fun e w' => ∃ v, e = .returned (.tuple #[v, .bool (mayB t key && (getE (E t.toNat) key).isSome), .int .i64 (if mayB t key = true then 0 else 1)]) /\
   (∃ q, BytesAt w' v (if mayB t key = true then (getE (E t.toNat) key).getD [] else []) q) /\ Fr [] w w' := by
 cases hm : mayB t key with
 | false => exact (Get_no hk hm).mono fun e w' ⟨he, hw⟩ => ⟨_, he, ⟨0, BytesAt.nil _ _⟩, by rw [hw]; exact Fr.refl _ _⟩
 | true =>
  obtain ⟨tn, rfl, ht, h1, h2⟩ := may_nat hm; refine (Get_X h.st ht hk hkX h1 h2 (by have := hE.few tn; omega)).mono fun e w' ⟨v, he, ⟨q, hb, _⟩, hf⟩ => ?_; exact ⟨v, he, ⟨q, hb⟩, hf⟩
theorem Range_pl (h : PSt p w1 w dk g st m vs s X E F) (hE : EFew N E) (hN : N <= 1000) {t most : Int} {fv tv : Value} {low : Ky} {up : Option Ky} {gk : Nat} (hk : BytesAt w fv low gk) (hkX : X gk) (hu : UpK X w tv up) (hmost : most < 9223372036854775808) :
  Calls Tryz.prog 11 #[.pointer (some ⟨st, 0, none⟩), .int .i64 t, fv, tv, .int .i64 most] w fun e w' => ∃ v, e = .returned (.tuple #[v, .int .i64 (if rangeOk t most = true then 0 else 1)]) /\
   EnSl w' v (if rangeOk t most = true then ((E t.toNat).filter (inB low up)).take most.toNat else []) /\ Fr [] w w' := by
 cases hm : rangeOk t most with
 | false => exact (Range_no hm).mono fun e w' ⟨he, hw⟩ => ⟨_, he, ⟨none, 0, rfl, Nat.le_refl _, fun h => absurd h (by simp)⟩, by rw [hw]; exact Fr.refl _ _⟩
 | true =>
  unfold rangeOk at hm; simp only [Bool.and_eq_true, decide_eq_true_eq] at hm; obtain ⟨tn, rfl⟩ := Int.eq_ofNat_of_zero_le hm.1.1; obtain ⟨mo, rfl⟩ := Int.eq_ofNat_of_zero_le hm.2; refine (Range_X h.st (by omega) hk hkX hu (by omega) (by have := hE.few tn; omega)).mono fun e w' ⟨ov, cs, he, hown, hents, hf⟩ => ?_; rw [go_take (hE.rise tn)] at hown hents; exact ⟨ov, he, EnSl.of_row hown hents, hf⟩
end
theorem rrange_up {p H m : Nat} {w : World} {vs : List Value} {E : Nat -> En} {all : Bool} {up : Option Ky} {tk : Ky} (hup : up = if all = true then none else some tk) (h : RefAt p H w m vs E) (t most : Int) (all' : Bool) {fv tv : Value} {low : Ky} {gf gt : Nat} (hk : BytesAt w fv low gf) (htv : BytesAt w tv tk gt) (hfl : low.length <= 9223372036854775807) (htl : tk.length <= 9223372036854775807) (hmx : most < 9223372036854775808) (hfew : ∀ t, (E t).length <= 100000) (hel : ∀ t, KFew (E t)) (ha : all' = all) :
  Calls Tryz.prog 49 #[.pointer (some ⟨m, 0, none⟩), .int .i64 t, fv, tv, .bool all', .int .i64 most] w fun e w' => ∃ v, e = .returned (.tuple #[v, .int .i64 (if rangeOk t most = true then 0 else 1)]) /\
   EnSl w' v (if rangeOk t most = true then ((E t.toNat).filter (inB low up)).take most.toNat else []) /\ Fr [] w w' := by
 subst ha; rw [hup]; exact rrange_any h t most _ hk htv hfl htl hmx hfew hel
section
variable {p N dk g st m : Nat} {w1 w : World} {vs : List Value} {s : PS} {X : Nat -> Prop} {E : Nat -> En}
theorem info_u8' : (Tryz.prog.info? 5).map (fun i => (i.zero, i.size, i.bytes)) = some (some (.int .u8 0), 1, 1) := by kernel_rfl
/-- One thing done. -/
theorem do_any (h : PSt p w1 w dk g st m vs s X E E) (hE : EFew N E) (hN : N <= 1000) (hp1 : p <= w1.heap.size) (what t most : Int) {kv vv tv : Value} {key v upto : Ky} (all : Bool) {gk gv ge : Nat} (hk : BytesAt w kv key gk) (hkp : gk < p) (hv : BytesAt w vv v gv) (hvp : gv < p) (he : BytesAt w tv upto ge) (hep : ge < p)
  (hkl : key.length <= 9223372036854775807) (hel : upto.length <= 9223372036854775807) (hmx : most < 9223372036854775808) :
  Calls Tryz.prog 21 #[.pointer (some ⟨st, 0, none⟩), .pointer (some ⟨m, 0, none⟩), .agg #[.int .i64 what, .int .i64 t, .int .i64 most, kv, vv, tv, .bool all]] w fun e w' => e = .returned (.bool true) /\ DoEnd p N w1 dk g st m vs s X w w' := by
 refine calls_post fun R HQ => ?_; have HE := lh hE; have HN := lh hN; have HKP := lh hkp; have HVP := lh hvp; have HEP := lh hep; have HXK : Hid (X gk) := lh (h.old gk (by omega)); have HXV : Hid (X gv) := lh (h.old gv (by omega)); have HXE : Hid (X ge) := lh (h.old ge (by omega))
 go_enter Tryz.func21, Tryz.ntmps21
 go_upto_region 1 with fail
 have hb := Blk.new w 58 [.int .i64 what, .int .i64 t, .int .i64 most, kv, vv, tv, .bool all]; have hf : Fr [] w (w.alloc (.cells ([.int .i64 what, .int .i64 t, .int .i64 most, kv, vv, tv, .bool all] : List Value).toArray 58)) := (Fr.refl _ _).alloc _; have hz : (w.alloc (.cells ([.int .i64 what, .int .i64 t, .int .i64 most, kv, vv, tv, .bool all] : List Value).toArray 58)).heap.size = w.heap.size + 1 := by rw [World.size_alloc]
 generalize w.alloc (.cells ([.int .i64 what, .int .i64 t, .int .i64 most, kv, vv, tv, .bool all] : List Value).toArray 58) = wb at *; obtain ⟨q0, hq0⟩ := nm (w.heap.size); rw [<- hq0] at hb ⊢; have HP := lh (h.fr hf); have HQX : Hid (More X w wb q0) := lh (.inr ⟨by omega, by omega⟩); have HFB := lh hf; have HB := lh hb; have HKB := lh (hk.fr hf (by simp)); have HVB := lh (hv.fr hf (by simp)); have HEB := lh (he.fr hf (by simp)); obtain ⟨Ak, ck, ok, rfl, -, -⟩ := hk; obtain ⟨Av, cv, ov, rfl, -, -⟩ := hv; obtain ⟨Ae, ce, oe, rfl, -, -⟩ := he; have l0 := hb.at_ (i := 0) rfl; have l1 := hb.at_ (i := 1) rfl; have l2 := hb.at_ (i := 2) rfl; have l3 := hb.at_ (i := 3) rfl; have l4 := hb.at_ (i := 4) rfl; have l5 := hb.at_ (i := 5) rfl; have l6 := hb.at_ (i := 6) rfl; clear h hE hN hp1 hkp hvp hep hb hf hz hq0
 by_cases z0 : what = 0 ∨ what = 1 ∨ what = 2
 ·rcases z0 with rfl | rfl | rfl
  all_goals
   have HPT := lh (Put_pl HP.out HE.out HN.out (t := t) HKB.out (.inl HXK.out) HVB.out (.inl HXV.out)); go_wp2_with fail; refine HPT.out.mono ?_; rintro e w2 (⟨hok, rfl, rfl⟩ | ⟨hok, rfl, s2, hp2, hw2, hk2⟩ | ⟨rfl, s2, hp2, hw2, hk2⟩)
   ·have HRP := lh (rput_any HP.out.ref t HE.out.rise HKB.out HKP.out HVB.out HVP.out (by have := HN.out; intro t; have := HE.out.few t; omega) HE.out.keys); have HOK := lh hok; have HX := lh (HQ.out (.returned (.bool true)) w2 ⟨rfl, vs, s, _, E, HP.out, HE.out.mono (Nat.le_succ N), Wr.refl s, Oth.fr HFB.out, fun q hq => .inl hq, fun q hq => .inl hq⟩); clear hok HPT; go_wp2_with fail; refine HRP.out.mono ?_; rintro e w3 (⟨rfl, -, rfl⟩ | ⟨vs', rfl, hok', -⟩)
    ·go_wp2_with fail; exact HX.out
    ·rw [HOK.out] at hok'; cases hok'
   ·have hb2 := hk2.blk HB.out HQX.out; have l1 := hb2.at_ (i := 1) rfl; have l2 := hb2.at_ (i := 2) rfl; have l3 := hb2.at_ (i := 3) rfl; have l4 := hb2.at_ (i := 4) rfl; have l5 := hb2.at_ (i := 5) rfl; have l6 := hb2.at_ (i := 6) rfl; have HRP := lh (rput_any hp2.ref t HE.out.rise (hk2.bytes HKB.out (.inl HXK.out)) HKP.out (hk2.bytes HVB.out (.inl HXV.out)) HVP.out (by have := HN.out; intro t; have := HE.out.few t; omega) HE.out.keys); have HOK := lh hok; have P2 := lh hp2; have W2 := lh hw2; have K2 := lh hk2; clear hok hp2 hw2 hk2 hb2 HPT; go_wp2_with fail; refine HRP.out.mono ?_; rintro e w3 (⟨rfl, hno, -⟩ | ⟨vs', rfl, -, href, hfr, hnew⟩)
    ·rw [HOK.out] at hno; cases hno
    ·have hz2 : w.heap.size <= w2.heap.size := by obtain ⟨S, hS, _⟩ := K2.out; have := hS.size; have := HFB.out.size; omega
     have HX := lh (HQ.out (.returned (.bool true)) w3 ⟨rfl, vs', s2, _, _, P2.out.reffed href hfr hnew, HE.out.put t.toNat (by
      have h := HOK.out; rw [Bool.and_eq_true] at h; obtain ⟨_, _, _, _, h2⟩ := may_nat h.1; omega) v, W2.out, ((Oth.fr HFB.out).trans (Oth.kp K2.out) (fun q hq => .inl hq) (fun q hq => .inl hq)).trans (Oth.rf (X := More X w wb) hfr) (fun q hq => .inl hq) (fun q hq => .inl hq), fun q hq => .inl (.inl hq), fun q hq => (hnew q hq).imp id fun h => by omega⟩)
     clear href hfr hnew hz2; go_wp2_with fail; exact HX.out
   ·have HX := lh (HQ.out (.returned (.bool true)) w2 ⟨rfl, vs, s2, _, E, hp2, HE.out.mono (Nat.le_succ N), hw2, (Oth.fr HFB.out).trans (Oth.kp hk2) (fun q hq => .inl hq) (fun q hq => .inl hq), fun q hq => .inl hq, fun q hq => .inl hq⟩); clear hp2 hw2 hk2 HPT; go_wp2_with fail; exact HX.out
 ·by_cases z3 : what = 3 ∨ what = 4
  ·rcases z3 with rfl | rfl
   all_goals
    have HPT := lh (Delete_pl HP.out HE.out HN.out (t := t) HKB.out (.inl HXK.out)); go_wp2_with fail; refine HPT.out.mono ?_; rintro e w2 (⟨hok, rfl, rfl⟩ | ⟨hok, rfl, s2, hp2, hw2, hk2⟩ | ⟨rfl, s2, hp2, hw2, hk2⟩)
    ·have HRP := lh (rdel_any HP.out.ref t HE.out.rise HKB.out (by have := HN.out; intro t; have := HE.out.few t; omega) HE.out.keys); have HOK := lh hok; have HX := lh (HQ.out (.returned (.bool true)) w2 ⟨rfl, vs, s, _, E, HP.out, HE.out.mono (Nat.le_succ N), Wr.refl s, Oth.fr HFB.out, fun q hq => .inl hq, fun q hq => .inl hq⟩); clear hok HPT; go_wp2_with fail; refine HRP.out.mono ?_; rintro e w3 (⟨rfl, -, rfl⟩ | ⟨vs', rfl, hok', -⟩)
     ·go_wp2_with fail; exact HX.out
     ·rw [HOK.out] at hok'; cases hok'
    ·have hb2 := hk2.blk HB.out HQX.out; have l1 := hb2.at_ (i := 1) rfl; have l2 := hb2.at_ (i := 2) rfl; have l3 := hb2.at_ (i := 3) rfl; have l4 := hb2.at_ (i := 4) rfl; have l5 := hb2.at_ (i := 5) rfl; have l6 := hb2.at_ (i := 6) rfl; have HRP := lh (rdel_any hp2.ref t HE.out.rise (hk2.bytes HKB.out (.inl HXK.out)) (by have := HN.out; intro t; have := HE.out.few t; omega) HE.out.keys); generalize hasE (E t.toNat) key = bb at HRP ⊢; have HOK := lh hok; have P2 := lh hp2; have W2 := lh hw2; have K2 := lh hk2; clear hok hp2 hw2 hk2 hb2 HPT; go_wp2_with fail; refine HRP.out.mono ?_; rintro e w3 (⟨rfl, hno, -⟩ | ⟨vs', rfl, -, href, hfr, hnew⟩)
     ·rw [HOK.out] at hno; cases hno
     ·have hz2 : w.heap.size <= w2.heap.size := by obtain ⟨S, hS, _⟩ := K2.out; have := hS.size; have := HFB.out.size; omega
      have HX := lh (HQ.out (.returned (.bool true)) w3 ⟨rfl, vs', s2, _, _, P2.out.reffed href hfr hnew, HE.out.del t.toNat key, W2.out, ((Oth.fr HFB.out).trans (Oth.kp K2.out) (fun q hq => .inl hq) (fun q hq => .inl hq)).trans (Oth.rf (X := More X w wb) hfr) (fun q hq => .inl hq) (fun q hq => .inl hq), fun q hq => .inl (.inl hq), fun q hq => (hnew q hq).imp id fun h => by omega⟩); clear href hfr hnew hz2; go_wp2_with fail; exact HX.out
    ·have HX := lh (HQ.out (.returned (.bool true)) w2 ⟨rfl, vs, s2, _, E, hp2, HE.out.mono (Nat.le_succ N), hw2, (Oth.fr HFB.out).trans (Oth.kp hk2) (fun q hq => .inl hq) (fun q hq => .inl hq), fun q hq => .inl hq, fun q hq => .inl hq⟩); clear hp2 hw2 hk2 HPT; go_wp2_with fail; exact HX.out
  ·by_cases z5 : what = 5
   ·subst z5
    cases all with
    | true =>
     have HUP : Hid (UpK (More X w wb) wb (.slice none 0 0) none) := lh rfl; have HTO : Hid (BytesAt wb (.slice none 0 0) [] 0) := lh (BytesAt.nil _ _); have HTL : Hid (([] : Ky).length <= 9223372036854775807) := lh (by simp); have HRG := lh (Range_pl HP.out HE.out HN.out (t := t) (most := most) HKB.out (.inl HXK.out) HUP.out hmx); obtain ⟨ec, hec⟩ : ∃ ec : Int, ec = (if rangeOk t most = true then 0 else 1) := ⟨_, rfl⟩; obtain ⟨L, hL⟩ := nm ((if rangeOk t most = true then ((E t.toNat).filter (inB key none)).take most.toNat else [])); rw [<- hec, <- hL] at HRG
     have HLF : Hid (L.length <= 1000000) := lh (by
      rw [hL]
      split
      ·have h1 := List.length_filter_le (inB key none) (E t.toNat); have h2 := HE.out.few t.toNat; have h3 := HN.out; rw [List.length_take]; omega
      ·simp)
     have HEC := lh hec; have HLL := lh hL; clear hec hL; go_wp2_with fail; refine HRG.out.mono ?_; rintro e w2 ⟨v2, rfl, hsl, hf2⟩; have S2 := lh hsl; have F2 := lh hf2; have hb2 := (HB.out.fr (Fr.refl [] wb) (by simp)).fr hf2 (by simp); have l1 := hb2.at_ (i := 1) rfl; have l2 := hb2.at_ (i := 2) rfl; have l3 := hb2.at_ (i := 3) rfl; have l4 := hb2.at_ (i := 4) rfl; have l5 := hb2.at_ (i := 5) rfl; have l6 := hb2.at_ (i := 6) rfl; have HRR := lh (rrange_up (all := true) (up := none) rfl (HP.out.ref.fr0 hf2) t most true (HKB.out.fr hf2 (by simp)) (HTO.out.fr hf2 (by simp)) hkl HTL.out hmx (by have := HN.out; intro t; have := HE.out.few t; omega) HE.out.keys rfl); rw [<- HEC.out, <- HLL.out] at HRR; clear hsl hf2 hb2 HRG; go_wp2_with fail; refine HRR.out.mono ?_; rintro e w3 ⟨v3, rfl, hsl3, hf3⟩; have HTH := lh (theirs_any (S2.out.fr hf3) HLF.out); have S3 := lh hsl3; have F3 := lh (F2.out.trans hf3 (by simp)); clear hsl3 hf3 HRR; go_wp2_with fail; refine HTH.out.mono ?_; rintro e w4 ⟨v4, rfl, hsl4, hf4⟩; have HSM := lh (same_any hsl4 (S3.out.fr hf4) HLF.out); have F4 := lh (F3.out.trans hf4 (by simp)); clear hsl4 hf4 HTH; go_wp2_with fail; refine HSM.out.mono ?_; rintro e w5 ⟨rfl, hf5⟩; have HX := lh (HQ.out (.returned (.bool true)) w5 ⟨rfl, vs, s, _, E, HP.out.stay (F4.out.trans hf5 (by simp)), HE.out.mono (Nat.le_succ N), Wr.refl s, Oth.fr (HFB.out.trans (F4.out.trans hf5 (by simp)) (by simp)), fun q hq => .inl hq, fun q hq => .inl hq⟩); clear hf5 HSM; go_wp2_with fail; exact HX.out
    | false =>
     by_cases he0 : upto.length = 0
     ·obtain rfl := List.length_eq_zero_iff.1 he0; have he0I : (([] : Ky).length : Int) = 0 := rfl; clear he0; go_upto_region 19 with fail
      refine wp_region_lit ?_; refine lp fun K hK => ?_; obtain ⟨te, hte, _, _, _⟩ := info_get info_u8'; refine wp_build_none rfl Tryz.underlying23 hte (hK _ _ ?_); simp only [nrm]; clear hK; have hfx : Fr [] wb (wb.alloc (.cells #[] 5)) := (Fr.refl _ _).alloc _; have hzx : (wb.alloc (.cells #[] 5)).heap.size = wb.heap.size + 1 := by rw [World.size_alloc]
      generalize wb.alloc (.cells #[] 5) = wx at *; obtain ⟨qx, hqx⟩ := nm (wb.heap.size); rw [<- hqx] at hzx ⊢; have HQ2 := lh hqx; have HZ2 := lh hzx; clear hqx hzx; refine rn rfl (by go_simp <;> with_reducible rfl) ?_; simp only [nrm]; refine wpList_nil ?_; have hbx : BytesAt wx (.slice (some ⟨qx, 0, none⟩) 0 0) [] qx := ⟨_, 0, 0, rfl, Nat.le_refl _, fun h => absurd h (by simp)⟩; have HPX := lh (HP.out.fr hfx); have HUP : Hid (UpK (More (More X w wb) wb wx) wx (.slice (some ⟨qx, 0, none⟩) 0 0) (some [])) := lh ⟨_, 0, 0, qx, rfl, hbx, .inr ⟨by have := HQ2.out; omega, by have := HZ2.out; omega⟩⟩; have HTO := lh hbx; have HTL : Hid (([] : Ky).length <= 9223372036854775807) := lh (by simp); have HFX := lh (HFB.out.trans hfx (by simp)); have HWX := lh hfx; have hb2 := HB.out.fr hfx (by simp); have l1 := hb2.at_ (i := 1) rfl; have l2 := hb2.at_ (i := 2) rfl; have l3 := hb2.at_ (i := 3) rfl; have l4 := hb2.at_ (i := 4) rfl; have l5 := hb2.at_ (i := 5) rfl; have l6 := hb2.at_ (i := 6) rfl; have HKX := lh (HKB.out.fr hfx (by simp)); clear HKB HP HFB; have HKB := HKX; clear hb2 hbx hfx hte; have HRG := lh (Range_pl HPX.out HE.out HN.out (t := t) (most := most) HKB.out (.inl (.inl HXK.out)) HUP.out hmx); obtain ⟨ec, hec⟩ : ∃ ec : Int, ec = (if rangeOk t most = true then 0 else 1) := ⟨_, rfl⟩; obtain ⟨L, hL⟩ := nm ((if rangeOk t most = true then ((E t.toNat).filter (inB key (some ([] : Ky)))).take most.toNat else [])); rw [<- hec, <- hL] at HRG
      have HLF : Hid (L.length <= 1000000) := lh (by
       rw [hL]
       split
       ·have h1 := List.length_filter_le (inB key (some ([] : Ky))) (E t.toNat); have h2 := HE.out.few t.toNat; have h3 := HN.out; rw [List.length_take]; omega
       ·simp)
      have HEC := lh hec; have HLL := lh hL; clear hec hL; go_wp2_with fail; refine HRG.out.mono ?_; rintro e w2 ⟨v2, rfl, hsl, hf2⟩; have S2 := lh hsl; have F2 := lh hf2; have hb2 := (HB.out.fr HWX.out (by simp)).fr hf2 (by simp); have l1 := hb2.at_ (i := 1) rfl; have l2 := hb2.at_ (i := 2) rfl; have l3 := hb2.at_ (i := 3) rfl; have l4 := hb2.at_ (i := 4) rfl; have l5 := hb2.at_ (i := 5) rfl; have l6 := hb2.at_ (i := 6) rfl; have HRR := lh (rrange_up (all := false) (up := (some ([] : Ky))) rfl (HPX.out.ref.fr0 hf2) t most false (HKB.out.fr hf2 (by simp)) (HTO.out.fr hf2 (by simp)) hkl HTL.out hmx (by have := HN.out; intro t; have := HE.out.few t; omega) HE.out.keys rfl); rw [<- HEC.out, <- HLL.out] at HRR; clear hsl hf2 hb2 HRG; go_wp2_with fail; refine HRR.out.mono ?_; rintro e w3 ⟨v3, rfl, hsl3, hf3⟩; have HTH := lh (theirs_any (S2.out.fr hf3) HLF.out); have S3 := lh hsl3; have F3 := lh (F2.out.trans hf3 (by simp)); clear hsl3 hf3 HRR; go_wp2_with fail; refine HTH.out.mono ?_; rintro e w4 ⟨v4, rfl, hsl4, hf4⟩; have HSM := lh (same_any hsl4 (S3.out.fr hf4) HLF.out); have F4 := lh (F3.out.trans hf4 (by simp)); clear hsl4 hf4 HTH; go_wp2_with fail; refine HSM.out.mono ?_; rintro e w5 ⟨rfl, hf5⟩; have HX := lh (HQ.out (.returned (.bool true)) w5 ⟨rfl, vs, s, _, E, HPX.out.stay (F4.out.trans hf5 (by simp)), HE.out.mono (Nat.le_succ N), Wr.refl s, Oth.fr (HFX.out.trans (F4.out.trans hf5 (by simp)) (by simp)), fun q hq => .inl (.inl hq), fun q hq => .inl hq⟩); clear hf5 HSM; go_wp2_with fail; exact HX.out
     ·have he0I : ¬ (upto.length : Int) = 0 := by omega
      have he0B : ((upto.length : Int) == 0) = false := by rw [beq_eq_false_iff_ne]; exact he0I
      obtain ⟨A', c', o', hsh, -, hcl⟩ := HEB.out; injection hsh with hA hn hc'; obtain ⟨hA2, -⟩ := hcl (by omega); rw [hA2] at hA; subst hA; clear hcl hA2 hn hc' he0; have HUP : Hid (UpK (More X w wb) wb (.slice (some ⟨ge, o', none⟩) upto.length ce) (some upto)) := lh ⟨_, _, _, ge, rfl, HEB.out, .inl HXE.out⟩; have HTO := HEB; have HTL := lh hel; have HRG := lh (Range_pl HP.out HE.out HN.out (t := t) (most := most) HKB.out (.inl HXK.out) HUP.out hmx); obtain ⟨ec, hec⟩ : ∃ ec : Int, ec = (if rangeOk t most = true then 0 else 1) := ⟨_, rfl⟩; obtain ⟨L, hL⟩ := nm ((if rangeOk t most = true then ((E t.toNat).filter (inB key (some upto))).take most.toNat else [])); rw [<- hec, <- hL] at HRG
      have HLF : Hid (L.length <= 1000000) := lh (by
       rw [hL]
       split
       ·have h1 := List.length_filter_le (inB key (some upto)) (E t.toNat); have h2 := HE.out.few t.toNat; have h3 := HN.out; rw [List.length_take]; omega
       ·simp)
      have HEC := lh hec; have HLL := lh hL; clear hec hL; go_wp2_with fail; refine HRG.out.mono ?_; rintro e w2 ⟨v2, rfl, hsl, hf2⟩; have S2 := lh hsl; have F2 := lh hf2; have hb2 := (HB.out.fr (Fr.refl [] wb) (by simp)).fr hf2 (by simp); have l1 := hb2.at_ (i := 1) rfl; have l2 := hb2.at_ (i := 2) rfl; have l3 := hb2.at_ (i := 3) rfl; have l4 := hb2.at_ (i := 4) rfl; have l5 := hb2.at_ (i := 5) rfl; have l6 := hb2.at_ (i := 6) rfl; have HRR := lh (rrange_up (all := false) (up := (some upto)) rfl (HP.out.ref.fr0 hf2) t most false (HKB.out.fr hf2 (by simp)) (HTO.out.fr hf2 (by simp)) hkl HTL.out hmx (by have := HN.out; intro t; have := HE.out.few t; omega) HE.out.keys rfl); rw [<- HEC.out, <- HLL.out] at HRR; clear hsl hf2 hb2 HRG; go_wp2_with fail; refine HRR.out.mono ?_; rintro e w3 ⟨v3, rfl, hsl3, hf3⟩; have HTH := lh (theirs_any (S2.out.fr hf3) HLF.out); have S3 := lh hsl3; have F3 := lh (F2.out.trans hf3 (by simp)); clear hsl3 hf3 HRR; go_wp2_with fail; refine HTH.out.mono ?_; rintro e w4 ⟨v4, rfl, hsl4, hf4⟩; have HSM := lh (same_any hsl4 (S3.out.fr hf4) HLF.out); have F4 := lh (F3.out.trans hf4 (by simp)); clear hsl4 hf4 HTH; go_wp2_with fail; refine HSM.out.mono ?_; rintro e w5 ⟨rfl, hf5⟩; have HX := lh (HQ.out (.returned (.bool true)) w5 ⟨rfl, vs, s, _, E, HP.out.stay (F4.out.trans hf5 (by simp)), HE.out.mono (Nat.le_succ N), Wr.refl s, Oth.fr (HFB.out.trans (F4.out.trans hf5 (by simp)) (by simp)), fun q hq => .inl hq, fun q hq => .inl hq⟩); clear hf5 HSM; go_wp2_with fail; exact HX.out
   ·have y0 : (what == 0) = false := by rw [beq_eq_false_iff_ne]; exact fun e => z0 (.inl e)
    have y1 : (what == 1) = false := by rw [beq_eq_false_iff_ne]; exact fun e => z0 (.inr (.inl e))
    have y2 : (what == 2) = false := by rw [beq_eq_false_iff_ne]; exact fun e => z0 (.inr (.inr e))
    have y3 : (what == 3) = false := by rw [beq_eq_false_iff_ne]; exact fun e => z3 (.inl e)
    have y4 : (what == 4) = false := by rw [beq_eq_false_iff_ne]; exact fun e => z3 (.inr e)
    have y5 : (what == 5) = false := by rw [beq_eq_false_iff_ne]; exact z5
    have HX := lh (HQ.out (.returned (.bool true)) wb ⟨rfl, vs, s, _, E, HP.out, HE.out.mono (Nat.le_succ N), Wr.refl s, Oth.fr HFB.out, fun q hq => .inl hq, fun q hq => .inl hq⟩); go_wp2_with fail; exact HX.out
end
section
variable {w0 w : World} {dk g st : Nat} {s : PS} {X : Nat -> Prop} {E : Nat -> En}
/-- Height. -/
theorem Height_X (h : StX w0 w dk g st s X E) {t : Nat} (ht : t < 8) (hE : (E t).length <= 1000000) :
  Calls Tryz.prog 17 #[.pointer (some ⟨st, 0, none⟩), .int .i64 (t : Int)] w fun e w' => ∃ m : Nat, e = .returned (.int .i64 (m : Int)) /\ Fr [] w w' /\ (m = 0 ↔ E t = []) /\ (0 < m -> m <= 40 /\ 2 ^ (m - 1) <= (E t).length) := by
 obtain ⟨_, _, P, F, hF⟩ := h.store; obtain ⟨c, hc⟩ := nm (beginC s.page s.n); rw [<- hc] at hF; have hpc := h.pgc; rw [<- hc] at hpc; have HC := lh hc; have HPC := lh hpc; have HF := lh hF; have HEE := lh hE; have HBG := lh h.begin; clear h hc hpc hF hE; have ht8 : ((t : Nat) : Int) < 8 := by omega
 have ht8' : ¬ (8 : Int) <= ((t : Nat) : Int) := by omega
 have ht0 : ¬ ((t : Nat) : Int) < 0 := by omega
 refine calls_post fun R HQ => ?_
 go_enter Tryz.func17, Tryz.ntmps17
 go_wp2_with fail; refine HBG.out.mono ?_; rintro e w1 ⟨bc, bn, bs, rfl, hch⟩; rw [<- HC.out] at hch; have HCH := lh hch; have cr := hch.blk.at_ (chC_root c g bn bs ht); clear hch HBG
 by_cases hr : c.roots t = 0
 ·rw [hr] at cr
  have hEt : E t = [] := by
   rcases HF.out.tree t ht with ⟨_, h, _⟩ | ⟨h, _⟩
   ·exact h
   ·exact absurd hr h
  have HX := lh (HQ.out (.returned (.int .i64 0)) w1 ⟨0, rfl, HCH.out.fr, ⟨fun _ => hEt, fun _ => rfl⟩, fun h => absurd h (by omega)⟩); have HR0 := lh hr; clear hr hEt; go_wp2_with fail; exact HX.out
 ·have hrI : ¬ ((c.roots t : Nat) : Int) = 0 := by omega
  have hrb : (((c.roots t : Nat) : Int) == 0) = false := by simpa using hrI
  obtain ⟨hh, P', hs, hht⟩ : ∃ hh P', Sub c.N 1 hh (c.roots t) none none (E t) P' /\ hh < 40 := by
   rcases HF.out.tree t ht with ⟨h, _, _⟩ | ⟨_, hh, hs⟩
   ·exact absurd h hr
   ·exact ⟨hh, _, hs, height_lt hs (by have := HEE.out; omega)⟩
  have hne : E t ≠ [] := (Sub.fine.all _ _ _ _ _ hs).2.2; have hcnt := hs.count.2; have HX := lh (fun w' (hf : Fr [] w w') => HQ.out (.returned (.int .i64 ((hh + 1 : Nat) : Int))) w' ⟨hh + 1, rfl, hf, ⟨fun h => absurd h (by omega), fun h => absurd h hne⟩, fun _ => ⟨by omega, by simpa using hcnt⟩⟩); have HR0 := lh hr; have HS := lh hs; have HHT := lh hht; clear hr hs hht hne hcnt; go_wp2_with fail
  go_loopw [7, 8] (fun v7 v8 wr => ∃ j r kk : Nat, j + r = hh /\ v8 = .int .i64 ((j : Int) + 1) /\ v7 = .int .i64 (kk : Int) /\ (∃ lo hi E' P', Sub c.N 1 r kk lo hi E' P') /\ ChAt w wr g bc bn bs (Dm_ X w bc bn bs) c) (fun _ v8 _ => 41 - (intOf v8).toNat)
  case atStart => exact ⟨0, hh, c.roots t, by omega, rfl, rfl, ⟨_, _, _, _, HS.out⟩, HCH.out⟩
  case round =>
   obtain ⟨j, r, kk, hjr, rfl, rfl, ⟨lo, hi, E', P2, hsub⟩, hci⟩ := hrel; have CI := lh hci; have HJR := lh hjr; have HSUB := lh hsub; clear hci hsub hjr cr
   by_cases hj : j + 1 < 40
   ·have hjI : (j : Int) + 1 < 40 := by omega
    obtain ⟨n, hN, hlf, hnext⟩ : ∃ n, c.N kk = some n /\ (n.lf = true /\ r = 0 ∨ n.lf = false /\ ∃ r', r = r' + 1 /\ ∃ hi' E' P', Sub c.N 1 r' n.first lo hi' E' P') /\ True := by
     cases r with
     | zero =>
      obtain ⟨n, _, h1, _, _, _, _, h5, _⟩ := HSUB.out; exact ⟨n, h1, .inl ⟨h5, rfl⟩, trivial⟩
     | succ r =>
      obtain ⟨n, h1, h2, _, h4⟩ := first_sub HSUB.out; exact ⟨n, h1, .inr ⟨h2, r, rfl, h4⟩, trivial⟩
    have HNC := lh (node_ch HPC.out CI.out hN CI.out.top); have HLF := lh hlf; have hw1 : IntKind.i64.wrap ((j : Int) + 1 + 1) = (j : Int) + 1 + 1 := by rw [IntKind.wrap_i64]; omega
    clear hN hlf hnext; go_wp2_with fail; refine HNC.out.mono ?_; rintro e w3 ⟨nv, rfl, hnv, hf3⟩; obtain ⟨A, ca, cs0, rfl, _⟩ := hnv.open_; have C3 := lh (CI.out.frame hf3); clear hnv hf3 HNC
    go_wp2_with (first
     | (with_reducible refine wpList_alloc_z rfl 88 rfl (.agg #[.int .i64 0, .int .i64 0, .slice none 0 0]) znd.toArray zero_nd rfl ?_)
     | (refine wpList_store_z (W := w3) rfl 88 (.tmp 9) (.tmp 51) rfl [.int .i64 (kindOf n), .int .i64 (n.first : Int), .slice A n.l.length ca] rfl rfl rfl size_nd rfl three_cells ?_))
    intro w4 hb4 hf4 hz4; obtain ⟨p9, hp9⟩ := nm (w3.heap.size); rw [<- hp9] at hb4 ⊢; have C4 := lh (C3.out.frame hf4); have B4 := lh hb4; clear hb4 hf4 hz4 hp9; have d0 := B4.out.at_ (i := 0) rfl; have d1 := B4.out.at_ (i := 1) rfl; have d2 := B4.out.at_ (i := 2) rfl; go_wp2_with fail; refine (leaf_nd n).mono ?_; rintro e w5 ⟨rfl, hf5⟩; have C5 := lh (C4.out.frame hf5); have B5 := lh (B4.out.fr hf5 (by simp)); clear hf5 d0 d1 d2; rcases HLF.out with ⟨hl, hr0⟩ | ⟨hl, r', hr1, hi', E2, P3, hs'⟩
    ·rw [hl]; have HX5 := lh (HX.out w5 C5.out.fr); have hjh : j = hh := by have := HJR.out; omega
     rw [show (((hh + 1 : Nat)) : Int) = (j : Int) + 1 by rw [hjh]; rfl] at HX5; have HR2 := lh hr0; have HJH := lh hjh; clear hl hr0 hjh; go_wp2_with fail; exact HX5.out
    ·rw [hl]; have d1 := B5.out.at_ (i := 1) rfl; have HXR : Hid (∃ j' r2 kk' : Nat, j' + r2 = hh /\ Value.int .i64 ((j : Int) + 1 + 1) = .int .i64 ((j' : Int) + 1) /\ Value.int .i64 (n.first : Int) = .int .i64 (kk' : Int) /\ (∃ lo hi E' P', Sub c.N 1 r2 kk' lo hi E' P') /\ ChAt w w5 g bc bn bs (Dm_ X w bc bn bs) c) := lh ⟨j + 1, r', n.first, by have := HJR.out; omega, rfl, rfl, ⟨_, _, _, _, hs'⟩, C5.out⟩; have HR2 := lh hr1; clear hl hr1 hs'; go_wp2_with fail
     go_roundw
     case rel => exact HXR.out
     case measure => simp [intOf]; omega
   ·have hjI : ¬ (j : Int) + 1 < 40 := by omega
    have HX5 := lh (HX.out wr CI.out.fr); have hjh : hh = 39 := by have := HJR.out; have := HHT.out; omega
    rw [hjh] at HX5; have HX6 : Hid (R (.returned (.int .i64 40)) wr) := lh HX5.out; have HJH := lh hjh; clear hjh HX5; go_wp2_with fail; exact HX6.out
end
section
variable {p N dk g st m : Nat} {w1 w : World} {vs : List Value} {s : PS} {X : Nat -> Prop} {E : Nat -> En}
theorem same_pl (h : PSt p w1 w dk g st m vs s X E E) (hE : EFew N E) (hN : N <= 1000) : Calls Tryz.prog 27 #[.pointer (some ⟨st, 0, none⟩), .pointer (some ⟨m, 0, none⟩)] w fun e w' => e = .returned (.bool true) /\ Fr [] w w' := by
 have HH := lh h; have HE := lh hE; have HN := lh hN; clear h hE hN; refine calls_post fun R HQ => ?_
 go_enter Tryz.func27, Tryz.ntmps27
 go_wp2_with fail
 go_loopw [5] (fun v5 wr => ∃ i : Nat, i <= 8 /\ v5 = .int .i64 (i : Int) /\ Fr [] w wr) (fun v5 _ => 8 - (intOf v5).toNat)
 case atStart => exact ⟨0, Nat.zero_le _, rfl, Fr.refl _ _⟩
 case round =>
  obtain ⟨i, hil, rfl, hfr⟩ := hrel; have FR := lh hfr; clear hfr
  by_cases hi : i < 8
  ·have hiI : (i : Int) < 8 := by omega
   have hwi := wi i (by omega)
   have hrk : rangeOk (i : Int) 100000 = true := by unfold rangeOk; simp; omega
   have hL : ((E (i : Int).toNat).filter (inB [] none)).take (100000 : Int).toNat = E i := by
    rw [Int.toNat_natCast, inB_all, List.take_of_length_le]; have := HE.out.few i; have := HN.out
    show (E i).length <= 100000
    omega
   have HRG := lh (Range_pl (HH.out.stay FR.out) HE.out HN.out (t := (i : Int)) (most := 100000) (low := []) (up := none) (BytesAt.nil _ st) HH.out.st.xs rfl (by omega)); rw [hrk, if_pos rfl, if_pos rfl, hL] at HRG; have HRK := lh hrk; have HLL := lh hL; have HLN : Hid ((E i).length <= 1000) := lh (by have := HE.out.few i; have := HN.out; omega); have HI := lh hi; clear hrk hL; go_wp2_with fail; refine HRG.out.mono ?_; rintro e w2 ⟨v2, rfl, hsl, hf2⟩; have S2 := lh hsl; have F2 := lh (FR.out.trans hf2 (by simp)); have HRR := lh (rrange_up (all := true) (up := none) (tk := []) rfl (HH.out.ref.fr0 F2.out) (i : Int) 100000 true (BytesAt.nil _ 0) (BytesAt.nil _ 0) (by simp) (by simp) (by omega) (by have := HN.out; intro t; have := HE.out.few t; omega) HE.out.keys rfl); rw [HRK.out, if_pos rfl, if_pos rfl, HLL.out] at HRR; clear hsl hf2 HRG; go_wp2_with fail; refine HRR.out.mono ?_; rintro e w3 ⟨v3, rfl, hsl3, hf3⟩; obtain ⟨A3, c3, rfl, hc3, -⟩ := id hsl3; have HTH := lh (theirs_any (S2.out.fr hf3) (by have := HLN.out; omega)); have S3 := lh hsl3; have F3 := lh (F2.out.trans hf3 (by simp)); clear hsl3 hf3 HRR hc3; go_wp2_with fail; refine HTH.out.mono ?_; rintro e w4 ⟨v4, rfl, hsl4, hf4⟩; have HSM := lh (same_any hsl4 (S3.out.fr hf4) (by have := HLN.out; omega)); have F4 := lh (F3.out.trans hf4 (by simp)); clear hsl4 hf4 HTH; go_wp2_with fail; refine HSM.out.mono ?_; rintro e w5 ⟨rfl, hf5⟩; have F5 := lh (F4.out.trans hf5 (by simp)); have HCK := lh (Check_X (HH.out.st.stay F5.out) HI.out (by have := HLN.out; omega)); clear hf5 HSM; go_wp2_with fail; refine HCK.out.mono ?_; rintro e w6 ⟨rfl, hf6⟩; have F6 := lh (F5.out.trans hf6 (by simp)); have HHT := lh (Height_X (HH.out.st.stay F6.out) HI.out (by have := HLN.out; omega)); clear hf6 HCK; go_wp2_with fail; refine HHT.out.mono ?_; rintro e w7 ⟨mh, rfl, hf7, hm0, hmp⟩; have F7 := lh (F6.out.trans hf7 (by simp)); have HX : Hid (∃ j : Nat, j <= 8 /\ Value.int .i64 ((i : Int) + 1) = .int .i64 (j : Int) /\ Fr [] w w7) := lh ⟨i + 1, hi, rfl, F7.out⟩; clear hf7 HHT
   by_cases hz : mh = 0
   ·have hEt := hm0.1 hz; have hl0 : ((E i).length : Int) = 0 := by rw [hEt]; rfl
    have hl0b : (((E i).length : Int) == 0) = true := by rw [hl0]; rfl
    subst hz; clear hm0 hmp hEt; go_wp2_with fail
    go_roundw
    case rel => exact HX.out
    case measure => simp [intOf]; omega
   ·obtain ⟨h40, hpow⟩ := hmp (by omega); have hne : (E i).length ≠ 0 := fun e => hz (hm0.2 (List.length_eq_zero_iff.1 e)); have hl0 : ¬ ((E i).length : Int) = 0 := by omega
    have hl0b : (((E i).length : Int) == 0) = false := by rw [beq_eq_false_iff_ne]; exact hl0
    obtain ⟨k, rfl⟩ : ∃ k, mh = k + 1 := ⟨mh - 1, by omega⟩; have hz0 : ¬ (k : Int) + 1 = 0 := by omega
    have hz0b : ((k : Int) + 1 == 0) = false := by rw [beq_eq_false_iff_ne]; exact hz0
    have hmI : (0 : Int) < (k : Int) + 1 := by omega
    obtain ⟨B, hB⟩ : ∃ B : Nat, B = 2 ^ k := ⟨_, rfl⟩; have hB2 : B <= (E i).length := by rw [hB]; simpa using hpow
    have hBI : ¬ ((E i).length : Int) < (B : Int) := by omega
    have hwp : wrap64 ((2 : Int) ^ k) = (B : Int) := by
     have h1 : (2 : Int) ^ k = (B : Int) := by rw [hB]; push_cast; rfl
     rw [h1]; have := HLN.out; unfold wrap64; omega
    clear hm0 hmp hne hz hpow hB hB2; go_wp2_with fail
    go_roundw
    case rel => exact HX.out
    case measure => simp [intOf]; omega
  ·obtain rfl : i = 8 := by omega
   have HX := lh (HQ.out (.returned (.bool true)) wr ⟨rfl, FR.out⟩); go_wp2_with fail; exact HX.out
end
structure PL (p : Nat) (wS w : World) (dk g i n st m kp : Nat) (vs vk : List Value) (s : PS) (X : Nat -> Prop) (E F K C : Nat -> En) : Prop where
 pst : PSt p wS w dk g st m vs s X E F
 kref : RefAt p wS.heap.size w kp vk K
 kx : ∀ q ∈ fl kp vk, X q
 kd : ∀ q ∈ fl kp vk, q ∉ fl m vs
 few : EFew i E
 fewC : EFew i C
 comm : ∃ c, c <= n /\ Comm c s C
section
variable {p dk g i n st m kp : Nat} {wS w w' : World} {vs vk : List Value} {s : PS} {X : Nat -> Prop} {E F K C : Nat -> En}
theorem PL.fr0 (h : PL p wS w dk g i n st m kp vs vk s X E F K C) (hf : Fr [] w w') : PL p wS w' dk g i n st m kp vs vk s X E F K C := ⟨h.pst.stay hf, h.kref.fr0 hf, h.kx, h.kd, h.few, h.fewC, h.comm⟩
theorem PL.frX (h : PL p wS w dk g i n st m kp vs vk s X E F K C) (hf : Fr [] w w') : PL p wS w' dk g i n st m kp vs vk s (More X w w') E F K C := ⟨h.pst.fr hf, h.kref.fr0 hf, fun q hq => .inl (h.kx q hq), h.kd, h.few, h.fewC, h.comm⟩
theorem PL.later (h : PL p wS w dk g i n st m kp vs vk s X E F K C) {j k : Nat} (hj : i <= j) (hk : n <= k) : PL p wS w dk g j k st m kp vs vk s X E F K C := ⟨h.pst, h.kref, h.kx, h.kd, h.few.mono hj, h.fewC.mono hj, by obtain ⟨c, h1, h2⟩ := h.comm; exact ⟨c, by omega, h2⟩⟩
theorem PL.low (h : PL p wS w dk g i n st m kp vs vk s X E F K C) : p <= wS.heap.size /\ wS.heap.size <= w.heap.size := ⟨h.pst.ref.pH, h.pst.st.px.frame.size⟩
theorem PL.did (h : PL p wS w dk g i n st m kp vs vk s X E E K C) (d : DoEnd p i wS dk g st m vs s X w w') :
  ∃ vs' s' X' E', PL p wS w' dk g (i + 1) n st m kp vs' vk s' X' E' E' K C /\ Oth w w' m vs X /\ ∀ q, X q -> X' q := by
 obtain ⟨vs', s', X', E', h1, h2, h3, h4, h5, h6⟩ := d; obtain ⟨a, b⟩ := h.low; refine ⟨vs', s', X', E', ⟨h1, h4.other h.kref h.kx h.kd (fun q hq => h.pst.old q (by omega)) (by omega) fun q hq => by have := (h.pst.ref.lt q hq).1; omega, fun q hq => h5 q (h.kx q hq), fun q hq hm => ?_, h2, h.fewC.mono (Nat.le_succ i), ?_⟩, h4, h5⟩
 ·rcases h6 q hm with h7 | h7
  ·exact h.kd q hq h7
  ·have := (h.kref.lt q hq).2; omega
 ·obtain ⟨c, c1, c2⟩ := h.comm; exact ⟨c, c1, h3.comm c2⟩
theorem Oth.blk {b : Nat} {t : TypeId} {cs : List Value} (h : Oth w w' m vs X) (hb : Blk w b t cs) (hx : X b) (hn : b ∉ fl m vs) : Blk w' b t cs := by
 obtain ⟨S, hf, hS⟩ := h; refine hb.fr hf fun hm => ?_; rcases hS b hm with h1 | h1 | h1
 ·exact h1 hx
 ·exact hn h1
 ·have := hb.lt; omega
theorem PL.kept (h : PL p wS w dk g i n st m kp vs vk s X E F K C) {s' : PS} (hs : StX wS w' dk g st s' X E) (hk : Kp X w w') {k : Nat} {C' : Nat -> En} (hC : EFew i C') (hc : ∃ c, c <= k /\ Comm c s' C') : PL p wS w' dk g i k st m kp vs vk s' X E F K C' := by
 refine ⟨h.pst.stored hs hk, ?_, h.kx, h.kd, h.few, hC, hc⟩; obtain ⟨S, hf, hS⟩ := hk
 exact h.kref.fr hf fun q hq => ⟨fun hm => hS q hq (h.kx q hm), by
  rcases Nat.lt_or_ge q wS.heap.size with hl | hl
  ·exact absurd (h.pst.old q hl) (hS q hq)
  ·have := h.low.1; omega⟩
theorem PL.commit (h : PL p wS w dk g i n st m kp vs vk s X E F K C) (hn : n + 4 < 4294967296) (hp : PgX wS w' dk g s.commit.1 X) (hk : Kp X w w') :
  (s.commit.2 = 0 /\ PL p wS w' dk g i (n + 3) st m kp vs vk s.commit.1 X E F K E) ∨ ((s.commit.2 = 4 ∨ s.commit.2 = 5) /\ PL p wS w' dk g i (n + 3) st m kp vs vk s.commit.1 X E F K C) := by
 obtain ⟨c, c1, c2⟩ := h.comm; obtain ⟨a1, a2, a3, a4, a5⟩ := c2.commit (by omega) h.pst.st.store; have hs : StX wS w' dk g st s.commit.1 X E := ⟨hp, hk.blk h.pst.st.blk h.pst.st.xs, h.pst.st.xs, a2, a3, by rw [a1]; exact a4⟩; rcases a5 with ⟨b1, b2⟩ | ⟨b1, b2⟩
 ·exact .inl ⟨b1, h.kept hs hk h.few ⟨c + 3, by omega, b2⟩⟩
 ·exact .inr ⟨b1, h.kept hs hk h.fewC ⟨c + 3, by omega, b2⟩⟩
theorem PL.copyK {k' : Nat} {vk' : List Value} (h : PL p wS w dk g i n st m kp vs vk s X E F K C) (hr : RefAt p wS.heap.size w' k' vk' F) (hf : Fr [] w w') (hn : ∀ q ∈ fl k' vk', w.heap.size <= q) : PL p wS w' dk g i n st m k' vs vk' s (More X w w') E F F C :=
 ⟨h.pst.fr hf, hr, fun q hq => .inr ⟨hn q hq, (hr.lt q hq).2⟩, fun q hq hm => by have := hn q hq; have := (h.pst.ref.lt q hm).2; omega, h.few, h.fewC, h.comm⟩
theorem PL.copyM {m' : Nat} {vs' : List Value} (h : PL p wS w dk g i n st m kp vs vk s X E F K C) (hr : RefAt p wS.heap.size w' m' vs' K) (hf : Fr [] w w') (hn : ∀ q ∈ fl m' vs', w.heap.size <= q) : PL p wS w' dk g i n st m' kp vs' vk s (More X w w') E K K C :=
 ⟨⟨h.pst.st.fr hf, fun k hk => .inl (h.pst.old k hk), hr, fun q hq => .inr ⟨hn q hq, (hr.lt q hq).2⟩⟩, h.kref.fr0 hf, fun q hq => .inl (h.kx q hq), fun q hq hm => by have := hn q hm; have := (h.kref.lt q hq).2; omega, h.few, h.fewC, h.comm⟩
theorem PL.rolled (h : PL p wS w dk g i n st m kp vs vk s X E F K C) : ({ s with late := [] } : PS).br = false /\ Calm { s with late := [] } /\ Store ({ s with late := [] } : PS).page ({ s with late := [] } : PS).n C := by
 obtain ⟨c, c1, c2⟩ := h.comm; obtain ⟨_, a2, a3, a4⟩ := c2.rolled; exact ⟨a2, a3, a4⟩
theorem PL.roll {w2 : World} {st' : Nat} (h : PL p wS w dk g i n st m kp vs vk s X E F K C) (hk : Kp X w w2) (hs : StX wS w' dk g st' { s with late := [] } (More X w2 w') C) (hf : Fr [] w2 w') : PL p wS w' dk g i n st' m kp vs vk { s with late := [] } (More X w2 w') C F K C := by
 obtain ⟨c, c1, c2⟩ := h.comm; obtain ⟨a1, _⟩ := c2.rolled; obtain ⟨S, hfS, hS⟩ := hk
 have hp : ∀ q ∈ S, p <= q := fun q hq => by
  rcases Nat.lt_or_ge q wS.heap.size with hl | hl
  ·exact absurd (h.pst.old q hl) (hS q hq)
  ·have := h.low.1; omega
 exact ⟨⟨hs, fun k hk => .inl (h.pst.old k hk), (h.pst.ref.fr hfS fun q hq => ⟨fun hm => hS q hq (h.pst.foot q hm), hp q hq⟩).fr0 hf, fun q hq => .inl (h.pst.foot q hq)⟩, (h.kref.fr hfS fun q hq => ⟨fun hm => hS q hq (h.kx q hm), hp q hq⟩).fr0 hf, fun q hq => .inl (h.kx q hq), h.kd, h.fewC, h.fewC, c, c1, a1⟩
end
end
end Go.Proofs.YtpjbdpepofnleaaGreat
