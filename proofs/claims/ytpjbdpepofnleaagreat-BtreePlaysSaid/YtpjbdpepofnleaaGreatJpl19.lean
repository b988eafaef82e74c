/-
  Joined by join.py: Qd Qe
-/
import Derived.Test.YtpjbdpepofnleaaGreatJpl18
set_option maxRecDepth 100000
set_option maxHeartbeats 32000000
namespace Go.Proofs.YtpjbdpepofnleaaGreat
section
open Go.RowKit Go.ChangeMaps Go.MapKept Go.Maps Go.Sort Go.Shelf
abbrev LB := Nat × TypeId × List Value
structure NP where
 A : Option Addr
 ca : Nat
 n : Nd
 cs : List Value
def NP.sv (p : NP) : Value := .slice p.A p.n.l.length p.ca
def NP.v (p : NP) : Value := .agg #[.int .i64 (kindOf p.n), .int .i64 (p.n.first : Int), p.sv]
def Off (D : Nat -> Prop) (L : List LB) (N : List NP) : Nat -> Prop := fun q => D q /\ (∀ l ∈ L, q ≠ l.1) /\ ∀ p ∈ N, p.sv.ownBlock ≠ some q
inductive Kq where
 | by_ (v : Value) (bs : List UInt8)
 | nd (v : Value) (n : Nd)
def Kq.ok (D : Nat -> Prop) (w : World) : Kq -> Prop
 | .by_ v bs => ∃ q, BytesAt w v bs q /\ D q
 | .nd v n => NdV D w 0 v n
theorem Kq.ok.weak {D D' : Nat -> Prop} {w : World} {k : Kq} (h : k.ok D w) (hD : ∀ q, D q -> D' q) : k.ok D' w := by
 cases k with
 | by_ v bs => exact Exists.imp (fun q hq => ⟨hq.1, hD q hq.2⟩) h
 | nd v n => exact NdV.weak h hD
theorem Kq.ok.re {D D' : Nat -> Prop} {w : World} {k : Kq} (h : k.ok D w) (hD : ∀ q, D q -> q < w.heap.size -> D' q) (h0 : ∃ q, D' q /\ w.heap.size <= q) : k.ok D' w := by
 cases k with
 | by_ v bs => exact BytesAt.re h hD (h0.imp fun q hq => hq.1)
 | nd v n => exact NdV.re h hD h0
theorem Kq.ok.fr {D : Nat -> Prop} {S : List Nat} {w w' : World} {k : Kq} (h : k.ok D w) (hf : Fr S w w') (hS : ∀ q, D q -> q ∈ S -> w.heap.size <= q) : k.ok D w' := by
 cases k with
 | by_ v bs => exact Exists.imp (fun q hq => ⟨hq.1.frD hf (hS q hq.2), hq.2⟩) h
 | nd v n => exact NdV.fr h hf hS
structure Sx (wS w : World) (g bc bn bs : Nat) (D : Nat -> Prop) (L : List LB) (N : List NP) (K : List Kq) (c : CD) (w' : World) : Prop where
 fr : Fr [bc, bn, bs] w w'
 ch : ChAt wS w' g bc bn bs (Off D L N) c
 loc : ∀ l ∈ L, Blk w' l.1 l.2.1 l.2.2 /\ w.heap.size <= l.1
 lap : (L.map fun l => l.1).Nodup
 row : ∀ p ∈ N, w'.ownsRow w.heap.size 77 3 p.sv p.n.l.length p.cs
 its : ∀ p ∈ N, ItsC (Off D L N) w' p.n.l p.cs
 nap : N.Pairwise fun p p' => ∀ q, p.sv.ownBlock = some q -> p'.sv.ownBlock ≠ some q
 rl : ∀ p ∈ N, ∀ l ∈ L, p.sv.ownBlock ≠ some l.1
 ks : ∀ k ∈ K, k.ok (Off D L N) w'
 hD : ∀ q, w.heap.size <= q -> D q
 dom : ∀ q, D q -> q ≠ bc /\ q ≠ bn /\ q ≠ bs
 low : bc < w.heap.size /\ bn < w.heap.size /\ bs < w.heap.size /\ wS.heap.size <= w.heap.size
theorem Off.mono {D : Nat -> Prop} {L L' : List LB} {N N' : List NP} (hL : ∀ l ∈ L', l ∈ L) (hN : ∀ p ∈ N', p ∈ N) : ∀ q, Off D L N q -> Off D L' N' q := fun _ h => ⟨h.1, fun l hl => h.2.1 l (hL l hl), fun p hp => h.2.2 p (hN p hp)⟩
theorem Off.d {D : Nat -> Prop} {L : List LB} {N : List NP} : ∀ q, Off D L N q -> D q := fun _ h => h.1
section
variable {wS w w1 w2 : World} {g bc bn bs : Nat} {D : Nat -> Prop} {L L' : List LB} {N N' : List NP} {K K' : List Kq} {c c' : CD}
theorem Sx.start (h : ChAt wS w g bc bn bs D c) (hD : ∀ q, w.heap.size <= q -> D q) : Sx wS w g bc bn bs D [] [] [] c w := by
 have := h.lts; exact ⟨Fr.refl _ _, h.weak (fun q hq => ⟨hq, fun _ h => by simp at h, fun _ h => by simp at h⟩) fun q hq => h.dom q hq.1, fun _ h => by simp at h, List.nodup_nil, fun _ h => by simp at h, fun _ h => by simp at h, List.Pairwise.nil, fun _ h => by simp at h, fun _ h => by simp at h, hD, h.dom, this.1, this.2.1, this.2.2, h.fr.size⟩
theorem Sx.less (h : Sx wS w g bc bn bs D L N K c w1) (hL : L'.Sublist L) (hN : N'.Sublist N) (hK : ∀ k ∈ K', k ∈ K) : Sx wS w g bc bn bs D L' N' K' c w1 := by
 have hm := Off.mono (D := D) (fun l hl => hL.mem hl) (fun p hp => hN.mem hp)
 exact ⟨h.fr, h.ch.weak hm fun q hq => h.dom q hq.1, fun l hl => h.loc l (hL.mem hl), h.lap.sublist (hL.map _), fun p hp => h.row p (hN.mem hp), fun p hp => (h.its p (hN.mem hp)).weak hm, h.nap.sublist hN, fun p hp l hl => h.rl p (hN.mem hp) l (hL.mem hl),
  fun k hk => (h.ks k (hK k hk)).weak hm, h.hD, h.dom, h.low⟩
theorem Sx.own (h : Sx wS w g bc bn bs D L N K c w1) {p : NP} (hp : p ∈ N) : ∀ q, p.sv.ownBlock = some q -> w.heap.size <= q /\ q < w1.heap.size := fun q hq => ⟨((h.row p hp).lt q hq).1, own_lt (h.row p hp) q hq⟩
theorem Sx.offD (h : Sx wS w g bc bn bs D L N K c w1) : ∀ q, w1.heap.size <= q -> Off D L N q := fun q hq =>
 ⟨h.hD q (by have := h.fr.size; omega), fun l hl e => by have := (h.loc l hl).1.lt; omega, fun p hp e => by have := (h.own hp q e).2; omega⟩
theorem Sx.new (h : Sx wS w g bc bn bs D L N K c w1) (hf : Fr [] w1 w2) (hL : ∀ l ∈ L', Blk w2 l.1 l.2.1 l.2.2 /\ w1.heap.size <= l.1) (hn : (L'.map fun l => l.1).Nodup) : Sx wS w g bc bn bs D (L' ++ L) N K c w2 := by
 have hz := hf.size; have hz1 := h.fr.size
 have hre : ∀ q, Off D L N q -> q < w1.heap.size -> Off D (L' ++ L) N q := fun q hq hl => ⟨hq.1, fun l hl' => by
  rcases List.mem_append.1 hl' with h1 | h1
  ·have := (hL l h1).2; omega
  ·exact hq.2.1 l h1, hq.2.2⟩
 have hbig : ∃ q, Off D (L' ++ L) N q /\ w2.heap.size <= q := ⟨w2.heap.size, ⟨h.hD _ (by omega), fun l hl e => by
  rcases List.mem_append.1 hl with h1 | h1
  ·have := (hL l h1).1.lt; omega
  ·have := (h.loc l h1).1.lt; omega, fun p hp e => by have := (h.own hp _ e).2; omega⟩, Nat.le_refl _⟩
 obtain ⟨q0, hq0, hq0z⟩ := hbig; refine ⟨h.fr.trans hf (by simp), (h.ch.re hre ⟨q0, hq0, by omega⟩ fun q hq => h.dom q hq.1).frame hf, fun l hl => ?_, ?_, fun p hp => own_fr (h.row p hp) hf (by simp), fun p hp => ((h.its p hp).re hre ⟨q0, hq0⟩).fr hf (by simp), h.nap, fun p hp l hl e => ?_, fun k hk => ?_, h.hD, h.dom, h.low⟩
 ·rcases List.mem_append.1 hl with h1 | h1
  ·exact ⟨(hL l h1).1, by have := (hL l h1).2; omega⟩
  ·exact ⟨(h.loc l h1).1.fr hf (by simp), (h.loc l h1).2⟩
 ·rw [List.map_append]; refine List.nodup_append.2 ⟨hn, h.lap, fun a ha b hb e => ?_⟩; obtain ⟨l, hl, rfl⟩ := List.mem_map.1 ha; obtain ⟨l2, hl2, rfl⟩ := List.mem_map.1 hb; have := (hL l hl).2; have := (h.loc l2 hl2).1.lt; omega
 ·rcases List.mem_append.1 hl with h1 | h1
  ·have := (hL l h1).2; have := (h.own hp _ e).2; omega
  ·exact h.rl p hp l h1 e
 ·exact ((h.ks k hk).re hre ⟨q0, hq0, by omega⟩).fr hf (by simp)
theorem Sx.new1 (h : Sx wS w g bc bn bs D L N K c w1) (hf : Fr [] w1 w2) {p : Nat} {t : TypeId} {cs : List Value} (hb : Blk w2 p t cs) (hp : w1.heap.size <= p) : Sx wS w g bc bn bs D ((p, t, cs) :: L) N K c w2 :=
 h.new (L' := [(p, t, cs)]) hf (fun l hl => by obtain rfl := List.mem_singleton.1 hl; exact ⟨hb, hp⟩) (by simp)
theorem Sx.quiet (h : Sx wS w g bc bn bs D L N K c w1) (hf : Fr [] w1 w2) : Sx wS w g bc bn bs D L N K c w2 := h.new (L' := []) hf (by simp) (by simp)
theorem Sx.node (h : Sx wS w g bc bn bs D L N K c w1) (hf : Fr [] w1 w2) {nv : Value} {n : Nd} {b : Nat} (hb : w1.heap.size <= b) (hnv : NdV (Off D L N) w2 b nv n) :
  ∃ A ca cs, nv = .agg #[.int .i64 (kindOf n), .int .i64 (n.first : Int), .slice A n.l.length ca] /\ n.l.length <= ca /\ Sx wS w g bc bn bs D L (⟨A, ca, n, cs⟩ :: N) K c w2 := by
 obtain ⟨A, ca, cs, rfl, hpt⟩ := hnv.open_; refine ⟨A, ca, cs, rfl, hpt.cap, ?_⟩; have hz := hf.size; have hz1 := h.fr.size; have hge : ∀ q, (Value.slice A n.l.length ca).ownBlock = some q -> w1.heap.size <= q /\ q < w2.heap.size := fun q hq => by have := hpt.ge q hq; omega
 have hre : ∀ q, Off D L N q -> q < w1.heap.size -> Off D L (⟨A, ca, n, cs⟩ :: N) q := fun q hq hl => ⟨hq.1, hq.2.1, fun p hp => by
  rcases List.mem_cons.1 hp with rfl | hp
  ·exact fun e => by have := (hge q e).1; omega
  ·exact hq.2.2 p hp⟩
 have hbig : ∃ q, Off D L (⟨A, ca, n, cs⟩ :: N) q /\ w2.heap.size <= q := ⟨w2.heap.size, ⟨h.hD _ (by omega), fun l hl e => by have := (h.loc l hl).1.lt; omega, fun p hp e => by
  rcases List.mem_cons.1 hp with rfl | hp
  ·have := (hge _ e).2; omega
  ·have := (h.own hp _ e).2; omega⟩, Nat.le_refl _⟩
 obtain ⟨q0, hq0, hq0z⟩ := hbig; refine ⟨h.fr.trans hf (by simp), (h.ch.re hre ⟨q0, hq0, by omega⟩ fun q hq => h.dom q hq.1).frame hf, fun l hl => ⟨(h.loc l hl).1.fr hf (by simp), (h.loc l hl).2⟩, h.lap, fun p hp => ?_, fun p hp => ?_, ?_, fun p hp l hl e => ?_, fun k hk => ?_, h.hD, h.dom, h.low⟩
 ·rcases List.mem_cons.1 hp with rfl | hp
  ·exact own_base hpt.own fun q hq => by have := (hge q hq).1; omega
  ·exact own_fr (h.row p hp) hf (by simp)
 ·rcases List.mem_cons.1 hp with rfl | hp
  ·exact hpt.its.weak fun q hq => ⟨hq.1.1, hq.1.2.1, fun p hp => by
    rcases List.mem_cons.1 hp with rfl | hp
    ·exact hq.2
    ·exact hq.1.2.2 p hp⟩
  ·exact ((h.its p hp).re hre ⟨q0, hq0⟩).fr hf (by simp)
 ·refine List.pairwise_cons.2 ⟨fun p hp q hq e => ?_, h.nap⟩; have := (hge q hq).1; have := (h.own hp q e).2; omega
 ·rcases List.mem_cons.1 hp with rfl | hp
  ·have := (hge _ e).1; have := (h.loc l hl).1.lt; omega
  ·exact h.rl p hp l hl e
 ·exact ((h.ks k hk).re hre ⟨q0, hq0, by omega⟩).fr hf (by simp)
theorem Sx.kp (h : Sx wS w g bc bn bs D L N K c w1) {k : Kq} (hk : k.ok (Off D L N) w1) : Sx wS w g bc bn bs D L N (k :: K) c w1 :=
 ⟨h.fr, h.ch, h.loc, h.lap, h.row, h.its, h.nap, h.rl, fun k hk' => by
  rcases List.mem_cons.1 hk' with rfl | hk'
  ·exact hk
  ·exact h.ks k hk', h.hD, h.dom, h.low⟩
theorem Sx.key (h : Sx wS w g bc bn bs D L N K c w1) {v : Value} {b : List UInt8} (hk : ∃ q, BytesAt w1 v b q /\ Off D L N q) : Sx wS w g bc bn bs D L N (.by_ v b :: K) c w1 := h.kp (k := .by_ v b) hk
theorem Sx.nd (h : Sx wS w g bc bn bs D L N K c w1) {v : Value} {n : Nd} {b : Nat} (hk : NdV (Off D L N) w1 b v n) : Sx wS w g bc bn bs D L N (.nd v n :: K) c w1 := h.kp (k := .nd v n) (hk.low (Nat.zero_le _))
theorem Sx.kb (h : Sx wS w g bc bn bs D L N K c w1) {v : Value} {b : List UInt8} (hk : Kq.by_ v b ∈ K) : ∃ q, BytesAt w1 v b q /\ Off D L N q := h.ks _ hk
theorem Sx.kn (h : Sx wS w g bc bn bs D L N K c w1) {v : Value} {n : Nd} (hk : Kq.nd v n ∈ K) : NdV (Off D L N) w1 0 v n := h.ks _ hk
theorem Sx.nil_key (h : Sx wS w g bc bn bs D L N K c w1) : ∃ q, BytesAt w1 (.slice none 0 0) [] q /\ Off D L N q := ⟨w1.heap.size, BytesAt.nil _ _, h.offD _ (Nat.le_refl _)⟩
theorem Sx.give0 {p : NP} (h : Sx wS w g bc bn bs D L (p :: N) K c w1) : ChAt wS w1 g bc bn bs (Off D L N) c /\ NdV (Off D L N) w1 w.heap.size p.v p.n /\ ∀ q, w1.heap.size <= q -> Off D L N q := by
 refine ⟨h.ch.weak (Off.mono (fun _ h => h) fun p hp => List.mem_cons_of_mem _ hp) fun q hq => h.dom q hq.1, ⟨p.sv, p.cs, rfl, h.row p (List.mem_cons_self ..), (h.its p (List.mem_cons_self ..)).weak fun q hq => ⟨⟨hq.1, hq.2.1, fun p' hp' => hq.2.2 p' (List.mem_cons_of_mem _ hp')⟩, hq.2.2 p (List.mem_cons_self ..)⟩, fun q hq => ?_⟩, ?_⟩
 ·exact ⟨h.hD q (h.own (List.mem_cons_self ..) q hq).1, fun l hl e => h.rl p (List.mem_cons_self ..) l hl (by rw [<- e]; exact hq), fun p' hp' => (List.pairwise_cons.1 h.nap).1 p' hp' q hq⟩
 ·exact (h.less (N' := N) (List.Sublist.refl _) (List.sublist_cons_self ..) fun _ h => h).offD
theorem Sx.give {A : Option Addr} {ca : Nat} {n : Nd} {cs : List Value} (h : Sx wS w g bc bn bs D L (⟨A, ca, n, cs⟩ :: N) K c w1) : ChAt wS w1 g bc bn bs (Off D L N) c /\ NdV (Off D L N) w1 w.heap.size (.agg #[.int .i64 (kindOf n), .int .i64 (n.first : Int), .slice A n.l.length ca]) n /\ ∀ q, w1.heap.size <= q -> Off D L N q := h.give0
theorem Sx.bytes (h : Sx wS w g bc bn bs D L N K c w1) {A : Option Addr} {ca : Nat} {n : Nd} {cs : List Value} (hp : (⟨A, ca, n, cs⟩ : NP) ∈ N) : NdV (fun q => D q) w1 w.heap.size (.agg #[.int .i64 (kindOf n), .int .i64 (n.first : Int), .slice A n.l.length ca]) n :=
 ⟨.slice A n.l.length ca, cs, rfl, h.row _ hp, (h.its _ hp).weak fun _q hq => ⟨hq.1, hq.2.2 _ hp⟩, fun q hq => h.hD q (h.own hp q hq).1⟩
theorem Sx.row' (h : Sx wS w g bc bn bs D L N K c w1) {A : Option Addr} {ca : Nat} {n : Nd} {cs : List Value} (hp : (⟨A, ca, n, cs⟩ : NP) ∈ N) : w1.ownsRow w.heap.size 77 3 (.slice A n.l.length ca) n.l.length cs := h.row _ hp
theorem Sx.its' (h : Sx wS w g bc bn bs D L N K c w1) {A : Option Addr} {ca : Nat} {n : Nd} {cs : List Value} (hp : (⟨A, ca, n, cs⟩ : NP) ∈ N) : ItsC (Off D L N) w1 n.l cs := h.its _ hp
theorem Sx.own' (h : Sx wS w g bc bn bs D L N K c w1) {A : Option Addr} {ca : Nat} {n : Nd} {cs : List Value} (hp : (⟨A, ca, n, cs⟩ : NP) ∈ N) : ∀ q, (Value.slice A n.l.length ca).ownBlock = some q -> w.heap.size <= q /\ q < w1.heap.size := h.own hp
theorem Sx.call (h : Sx wS w g bc bn bs D L N K c w1) {S : List Nat} (hf : Fr S w1 w2) (hS : ∀ q ∈ S, q = bc ∨ q = bn ∨ q = bs) (hc : ChAt wS w2 g bc bn bs (Off D L N) c') : Sx wS w g bc bn bs D L N K c' w2 := by
 have hlo := h.low; have hno : ∀ q, Off D L N q -> q ∈ S -> w1.heap.size <= q := fun q hq hm => by have := h.dom q hq.1; have := hS q hm; omega
 have hnl : ∀ q, w.heap.size <= q -> q ∉ S := fun q hq hm => by have := hS q hm; omega
 exact ⟨h.fr.trans hf fun q hq => .inl (by have := hS q hq; simp; omega), hc, fun l hl => ⟨(h.loc l hl).1.fr hf (hnl _ (h.loc l hl).2), (h.loc l hl).2⟩, h.lap, fun p hp => own_fr (h.row p hp) hf fun q hq => hnl q (h.own hp q hq).1, fun p hp => (h.its p hp).fr hf hno, h.nap, h.rl,
  fun k hk => (h.ks k hk).fr hf hno, h.hD, h.dom, h.low⟩
theorem Sx.set_ {l : LB} (h : Sx wS w g bc bn bs D (l :: L) N K c w1) {cs : List Value} (hf : Fr [l.1] w1 w2) (hb : Blk w2 l.1 l.2.1 cs) : Sx wS w g bc bn bs D ((l.1, l.2.1, cs) :: L) N K c w2 := by
 have hlo := h.low; have hl1 := (h.loc l (List.mem_cons_self ..)).2
 have hoff : ∀ q, Off D (l :: L) N q -> Off D ((l.1, l.2.1, cs) :: L) N q := fun q hq => ⟨hq.1, fun l' hl' => by
  rcases List.mem_cons.1 hl' with rfl | hl'
  ·exact hq.2.1 l (List.mem_cons_self ..)
  ·exact hq.2.1 l' (List.mem_cons_of_mem _ hl'), hq.2.2⟩
 have hno : ∀ q, Off D (l :: L) N q -> q ∈ [l.1] -> w1.heap.size <= q := fun q hq hm => absurd (List.mem_singleton.1 hm) (hq.2.1 l (List.mem_cons_self ..)); have hap := List.nodup_cons.1 h.lap
 refine ⟨h.fr.trans hf fun q hq => .inr (by have := List.mem_singleton.1 hq; omega), (h.ch.frS hf fun q hq => .inr ?_).weak hoff fun q hq => h.dom q hq.1, fun l' hl' => ?_, h.lap, fun p hp => own_fr (h.row p hp) hf fun q hq hm => h.rl p hp l (List.mem_cons_self ..) (by rw [<- List.mem_singleton.1 hm]; exact hq), fun p hp => ((h.its p hp).fr hf hno).weak hoff, h.nap, fun p hp l' hl' => ?_,
  fun k hk => ((h.ks k hk).fr hf hno).weak hoff, h.hD, h.dom, h.low⟩
 ·have := List.mem_singleton.1 hq; exact ⟨by omega, fun hx => hx.2.1 l (List.mem_cons_self ..) this, by omega⟩
 ·rcases List.mem_cons.1 hl' with rfl | hl'
  ·exact ⟨hb, hl1⟩
  ·refine ⟨(h.loc l' (List.mem_cons_of_mem _ hl')).1.fr hf fun hm => hap.1 ?_, (h.loc l' (List.mem_cons_of_mem _ hl')).2⟩; exact List.mem_map.2 ⟨l', hl', List.mem_singleton.1 hm⟩
 ·rcases List.mem_cons.1 hl' with rfl | hl'
  ·exact h.rl p hp l (List.mem_cons_self ..)
  ·exact h.rl p hp l' (List.mem_cons_of_mem _ hl')
theorem Sx.perm (h : Sx wS w g bc bn bs D L N K c w1) (hp : L'.Perm L) : Sx wS w g bc bn bs D L' N K c w1 := by
 have hoff : ∀ q, Off D L N q -> Off D L' N q := Off.mono (fun l hl => hp.mem_iff.1 hl) fun _ h => h; exact ⟨h.fr, h.ch.weak hoff fun q hq => h.dom q hq.1, fun l hl => h.loc l (hp.mem_iff.1 hl), (hp.map _).nodup_iff.2 h.lap, h.row, fun p hp => (h.its p hp).weak hoff, h.nap, fun p hp' l hl => h.rl p hp' l (hp.mem_iff.1 hl), fun k hk => (h.ks k hk).weak hoff, h.hD, h.dom, h.low⟩
theorem Sx.rows {p p' : NP} (h : Sx wS w g bc bn bs D L (p :: N) K c w1) (hf : Fr p.sv.ownBlock.toList w1 w2) (hq : ∀ q, p'.sv.ownBlock = some q -> p.sv.ownBlock = some q ∨ w1.heap.size <= q)
  (ho : w2.ownsRow w.heap.size 77 3 p'.sv p'.n.l.length p'.cs) (hi : ItsC (Off D L (p :: N)) w1 p'.n.l p'.cs) : Sx wS w g bc bn bs D L (p' :: N) K c w2 := by
 have hlo := h.low; have hz := hf.size; have hz1 := h.fr.size; have hown := h.own (List.mem_cons_self ..); have hm1 : ∀ q, q ∈ p.sv.ownBlock.toList -> p.sv.ownBlock = some q := fun q hm => by simpa using hm
 have hno : ∀ q, Off D L (p :: N) q -> q ∈ p.sv.ownBlock.toList -> w1.heap.size <= q := fun q hq hm => absurd (hm1 q hm) (hq.2.2 p (List.mem_cons_self ..))
 have hre : ∀ q, Off D L (p :: N) q -> q < w1.heap.size -> Off D L (p :: p' :: N) q := fun q hx hl => ⟨hx.1, hx.2.1, fun p2 hp2 => by
  rcases List.mem_cons.1 hp2 with rfl | hp2
  ·exact hx.2.2 _ (List.mem_cons_self ..)
  ·rcases List.mem_cons.1 hp2 with rfl | hp2
   ·intro e; rcases hq q e with h1 | h1
    ·exact hx.2.2 p (List.mem_cons_self ..) h1
    ·omega
   ·exact hx.2.2 p2 (List.mem_cons_of_mem _ hp2)⟩
 have h2 := own_lt ho
 have hbig : Off D L (p :: p' :: N) w2.heap.size := ⟨h.hD _ (by omega), fun l hl e => by have := (h.loc l hl).1.lt; omega, fun p2 hp2 e => by
  rcases List.mem_cons.1 hp2 with rfl | hp2
  ·have := (hown _ e).2; omega
  ·rcases List.mem_cons.1 hp2 with rfl | hp2
   ·have := h2 _ e; omega
   ·have := (h.own (List.mem_cons_of_mem _ hp2) _ e).2; omega⟩
 have hwk : ∀ q, Off D L (p :: p' :: N) q -> Off D L (p' :: N) q := fun q hq => ⟨hq.1, hq.2.1, fun p2 hp2 => hq.2.2 p2 (List.mem_cons_of_mem _ hp2)⟩; have hno2 : ∀ q, Off D L (p :: p' :: N) q -> q ∈ p.sv.ownBlock.toList -> w1.heap.size <= q := fun q hq hm => absurd (hm1 q hm) (hq.2.2 p (List.mem_cons_self ..))
 refine ⟨h.fr.trans hf fun q hm => .inr (hown q (hm1 q hm)).1, ((h.ch.re hre ⟨w2.heap.size, hbig, hz⟩ fun q hq => h.dom q hq.1).frS hf fun q hm => .inr ?_).weak hwk fun q hq => h.dom q hq.1,
  fun l hl => ⟨(h.loc l hl).1.fr hf fun hm => h.rl p (List.mem_cons_self ..) l hl (hm1 _ hm), (h.loc l hl).2⟩, h.lap, fun p2 hp2 => ?_, fun p2 hp2 => ?_, ?_, fun p2 hp2 l hl e => ?_, fun k hk => ?_, h.hD, h.dom, h.low⟩
 ·have h1 := hown q (hm1 q hm); exact ⟨by omega, fun hx => hx.2.2 p (List.mem_cons_self ..) (hm1 q hm), by omega⟩
 ·rcases List.mem_cons.1 hp2 with rfl | hp2
  ·exact ho
  ·exact own_fr (h.row p2 (List.mem_cons_of_mem _ hp2)) hf fun q hq hm => (List.pairwise_cons.1 h.nap).1 p2 hp2 q (hm1 q hm) hq
 ·rcases List.mem_cons.1 hp2 with rfl | hp2
  ·exact ((hi.re hre ⟨_, hbig⟩).fr hf hno2).weak hwk
  ·exact (((h.its p2 (List.mem_cons_of_mem _ hp2)).re hre ⟨_, hbig⟩).fr hf hno2).weak hwk
 ·refine List.pairwise_cons.2 ⟨fun p2 hp2 q hq' e => ?_, (List.pairwise_cons.1 h.nap).2⟩; rcases hq q hq' with h1 | h1
  ·exact (List.pairwise_cons.1 h.nap).1 p2 hp2 q h1 e
  ·have := (h.own (List.mem_cons_of_mem _ hp2) q e).2; omega
 ·rcases List.mem_cons.1 hp2 with rfl | hp2
  ·rcases hq _ e with h1 | h1
   ·exact h.rl p (List.mem_cons_self ..) l hl h1
   ·have := (h.loc l hl).1.lt; omega
  ·exact h.rl p2 (List.mem_cons_of_mem _ hp2) l hl e
 ·exact (((h.ks k hk).re hre ⟨_, hbig, hz⟩).fr hf hno2).weak hwk
theorem Sx.ins {A : Option Addr} {ca : Nat} {n : Nd} {cs : List Value} (h : Sx wS w g bc bn bs D L (⟨A, ca, n, cs⟩ :: N) K c w1) {i : Nat} (hi : i <= n.l.length) {x : It} {kv vv av : Value} (hk : ∃ q, BytesAt w1 kv x.key q /\ Off D L (⟨A, ca, n, cs⟩ :: N) q) (hv : ∃ q, BytesAt w1 vv x.v q /\ Off D L (⟨A, ca, n, cs⟩ :: N) q) (hav : av = .int .i64 (x.at_ : Int))
  {sv' : Value} (ho : w2.ownsRow w.heap.size 77 3 sv' (n.l.length + 1) (cs.take (3 * i) ++ ([kv, vv, av] ++ cs.drop (3 * i)))) (hf : Fr (Value.slice A n.l.length ca).ownBlock.toList w1 w2)
  (hq : ∀ q, sv'.ownBlock = some q -> (Value.slice A n.l.length ca).ownBlock = some q ∨ w1.heap.size <= q) :
  ∃ A' ca', sv' = .slice A' (n.l.length + 1) ca' /\ Sx wS w g bc bn bs D L (⟨A', ca', { n with l := insAt n.l i x }, cs.take (3 * i) ++ ([kv, vv, av] ++ cs.drop (3 * i))⟩ :: N) K c w2 := by
 obtain ⟨A', ca', rfl, h5, _⟩ := own_shape ho; have hln : (insAt n.l i x).length = n.l.length + 1 := insAt_len _ _ hi; refine ⟨A', ca', rfl, h.rows (p' := ⟨A', ca', { n with l := insAt n.l i x }, _⟩) hf (fun q hq' => hq q ?_) ?_ ?_⟩
 ·unfold NP.sv at hq'
  simp only at hq'
  rw [hln] at hq'; exact hq'
 ·show w2.ownsRow w.heap.size _ 3 (.slice A' (insAt n.l i x).length ca') (insAt n.l i x).length _
  rw [hln]; exact ho
 ·obtain ⟨t1, t2⟩ := (h.its _ (List.mem_cons_self ..)).take i; exact t1.append (show ItsC _ _ (x :: n.l.drop i) (kv :: vv :: av :: cs.drop (3 * i)) from ⟨⟨hk, hv, hav⟩, t2⟩)
theorem Sx.del {A : Option Addr} {ca : Nat} {n : Nd} {cs : List Value} (h : Sx wS w g bc bn bs D L (⟨A, ca, n, cs⟩ :: N) K c w1) {i : Nat} (hi : i < n.l.length)
  {sv' : Value} (ho : w2.ownsRow w.heap.size 77 3 sv' (n.l.length - 1) (cs.take (3 * i) ++ cs.drop (3 * i + 3))) (hq : sv'.ownBlock = (Value.slice A n.l.length ca).ownBlock) (hf : Fr (Value.slice A n.l.length ca).ownBlock.toList w1 w2) :
  ∃ A' ca', sv' = .slice A' (n.l.length - 1) ca' /\ Sx wS w g bc bn bs D L (⟨A', ca', { n with l := delAt n.l i }, cs.take (3 * i) ++ cs.drop (3 * i + 3)⟩ :: N) K c w2 := by
 obtain ⟨A', ca', rfl, h5, _⟩ := own_shape ho; have hln : (delAt n.l i).length = n.l.length - 1 := delAt_len _ hi; refine ⟨A', ca', rfl, h.rows (p' := ⟨A', ca', { n with l := delAt n.l i }, _⟩) hf (fun q hq' => .inl ?_) ?_ ?_⟩
 ·unfold NP.sv at hq'
  simp only at hq'
  rw [hln, hq] at hq'; exact hq'
 ·show w2.ownsRow w.heap.size _ 3 (.slice A' (delAt n.l i).length ca') (delAt n.l i).length _
  rw [hln]; exact ho
 ·have t1 := ((h.its _ (List.mem_cons_self ..)).take i).1; have t2 := ((h.its _ (List.mem_cons_self ..)).take (i + 1)).2; rw [show 3 * (i + 1) = 3 * i + 3 by omega] at t2; exact t1.append t2
theorem Sx.cell {q ca : Nat} {n : Nd} {cs : List Value} (h : Sx wS w g bc bn bs D L (⟨some ⟨q, 0, none⟩, ca, n, cs⟩ :: N) K c w1) {j : Nat} {u : Value} {l' : List It} (hl : l'.length = n.l.length) (hi : ItsC (Off D L (⟨some ⟨q, 0, none⟩, ca, n, cs⟩ :: N)) w1 l' (cs.set j u)) :
  Sx wS w g bc bn bs D L (⟨some ⟨q, 0, none⟩, ca, { n with l := l' }, cs.set j u⟩ :: N) K c (w1.setCell ⟨q, j, none⟩ u) := by
 have hr : w1.ownsRow w.heap.size 77 3 (.slice (some ⟨q, 0, none⟩) n.l.length ca) n.l.length cs := h.row _ (List.mem_cons_self ..); refine h.rows (p := ⟨some ⟨q, 0, none⟩, ca, n, cs⟩) (p' := ⟨some ⟨q, 0, none⟩, ca, { n with l := l' }, cs.set j u⟩) ((Fr.refl _ w1).setCell (.inl (show q ∈ [q] by simp)) _) (fun q' hq' => .inl hq') ?_ hi
 show World.ownsRow _ _ _ 3 (.slice _ l'.length ca) l'.length _
 rw [hl]; exact (hr.stored j u).1
theorem UpV.open_ {v : Value} {u : Ky × Nat} (h : UpV D w v u) : ∃ A ca, v = .agg #[.slice A u.1.length ca, .int .i64 ((u.2 : Nat) : Int)] /\ ∃ q, BytesAt w (.slice A u.1.length ca) u.1 q /\ D q := by
 obtain ⟨kv, rfl, q, hb, hd⟩ := h; obtain ⟨A, ca, off, rfl, _⟩ := id hb; exact ⟨A, ca, rfl, q, hb, hd⟩
theorem Sx.fin (h : Sx wS w g bc bn bs D L N K c w1) : ChAt wS w1 g bc bn bs D c /\ Fr [bc, bn, bs] w w1 := ⟨h.ch.weak Off.d h.dom, h.fr⟩
theorem Sx.upv {A : Option Addr} {ca : Nat} {u : Ky × Nat} (h : Sx wS w g bc bn bs D L N (.by_ (.slice A u.1.length ca) u.1 :: K) c w1) : UpV D w1 (.agg #[.slice A u.1.length ca, .int .i64 ((u.2 : Nat) : Int)]) u /\ ChAt wS w1 g bc bn bs D c /\ Fr [bc, bn, bs] w w1 :=
 ⟨⟨_, rfl, (h.kb (List.mem_cons_self ..)).imp fun _q hq => ⟨hq.1, hq.2.1⟩⟩, h.fin⟩
theorem Sx.upv0 (h : Sx wS w g bc bn bs D L N K c w1) : UpV D w1 (.agg #[.slice none 0 0, .int .i64 0]) ([], 0) /\ ChAt wS w1 g bc bn bs D c /\ Fr [bc, bn, bs] w w1 :=
 ⟨⟨_, rfl, w1.heap.size, BytesAt.nil _ _, h.hD _ h.fr.size⟩, h.fin⟩
theorem Sx.node_r (h : Sx wS w g bc bn bs D L N K c w1) (hf : Fr [] w1 w2) {nv : Value} {n : Nd} {b : Nat} (hnv : NdV (Off D L N) w2 b nv n) :
  ∃ A ca, nv = .agg #[.int .i64 (kindOf n), .int .i64 (n.first : Int), .slice A n.l.length ca] /\ Sx wS w g bc bn bs D L N (.nd (.agg #[.int .i64 (kindOf n), .int .i64 (n.first : Int), .slice A n.l.length ca]) n :: K) c w2 := by
 obtain ⟨A, ca, cs, rfl, _⟩ := hnv.open_; exact ⟨A, ca, rfl, (h.quiet hf).nd hnv⟩
end
theorem tail4 {α β γ δ : Type} {G : Prop} {H P : α -> β -> γ -> δ -> Prop} (main : (∀ a b c d, H a b c d -> P a b c d) -> G) (tail : ∀ a b c d, H a b c d -> P a b c d) : G := main tail
theorem enter_insert (vs : Array Value) (w : World) : (callFunc 71 vs).run Tryz.prog w = .ok (.enter 71 vs) w := by kernel_rfl
theorem enter_child (vs : Array Value) (w : World) : (callFunc 74 vs).run Tryz.prog w = .ok (.enter 74 vs) w := by kernel_rfl
theorem enter_put (vs : Array Value) (w : World) : (callFunc 37 vs).run Tryz.prog w = .ok (.enter 37 vs) w := by kernel_rfl
theorem three_item {A B : Option Addr} {n m c d : Nat} {a : Int} : ∀ u ∈ [Value.slice A n c, .slice B m d, .int .i64 a], u.oneCell' = true := by
 intro u hu
 simp at hu
 rcases hu with rfl | rfl | rfl <;> rfl
structure PutGood (w0 wS : World) (dk g bc bn bs : Nat) (s : PS) (X : Nat -> Prop) (f : Nat) : Prop where
 go : ∀ {c c' : CD} {k deep : Nat} {x : It} {u : Ky × Nat} {w : World} {kv vv av : Value} {D : Nat -> Prop}, f + deep = 40 -> PutW f c k x c' u -> PgC w0 wS dk g s X c -> ChAt wS w g bc bn bs D c ->
  ItC D w x kv vv av -> x.ok true -> (∀ q, w.heap.size <= q -> D q) ->
  Calls Tryz.prog 37 #[.pointer (some ⟨bc, 0, none⟩), .int .i64 (k : Int), .agg #[kv, vv, av], .int .i64 (deep : Int)] w fun e w' => ∃ uv, e = .returned uv /\ UpV D w' uv u /\ ChAt wS w' g bc bn bs D c' /\ Fr [bc, bn, bs] w w'
section
variable {w0 wS w w' : World} {dk g bc bn bs : Nat} {s : PS} {X D D' : Nat -> Prop} {c : CD}
theorem put_step {f : Nat} (ih : PutGood w0 wS dk g bc bn bs s X f) : PutGood w0 wS dk g bc bn bs s X (f + 1) := by
 constructor
 intro c c' k deep x u w kv vv av D hdeep hW hp h hx hxo hD; have hsame := hW.same; obtain ⟨n, hN, hKR, he, hW⟩ := hW; obtain ⟨hkn, hok, hsz⟩ := h.wf.N_ok hN; have hfew := items_few hsz; have hxat : x.at_ = 0 := by have := hxo.bare; simpa using this
 have hav : av = .int .i64 0 := by rw [hx.2.2, hxat]; rfl
 subst hav; obtain ⟨⟨gk0, hbk, hdk⟩, ⟨gv0, hbv, hdv⟩, hx3⟩ := hx; obtain ⟨Ak, ck, rfl⟩ : ∃ A c, kv = .slice A x.key.length c := by obtain ⟨A, c, _, h, _⟩ := hbk; exact ⟨A, c, h⟩
 obtain ⟨Av, cvv, rfl⟩ : ∃ A c, vv = .slice A x.v.length c := by obtain ⟨A, c, _, h, _⟩ := hbv; exact ⟨A, c, h⟩
 have hx : ItC D w x (.slice Ak x.key.length ck) (.slice Av x.v.length cvv) (.int .i64 0) := ⟨⟨gk0, hbk, hdk⟩, ⟨gv0, hbv, hdv⟩, hx3⟩; clear hbk hdk hbv hdv hx3; have hone := hx.one; obtain ⟨wb, hwb⟩ := nm ((w.alloc (.cells #[(.slice Ak x.key.length ck), (.slice Av x.v.length cvv), .int .i64 0] 77)).alloc (.cells zup.toArray 91)); have hf0 : Fr [] w wb := by rw [hwb]; exact ((Fr.refl [] w).alloc _).alloc _
 have hb6 : Blk wb w.heap.size 77 [(.slice Ak x.key.length ck), (.slice Av x.v.length cvv), .int .i64 0] := by rw [hwb]; exact (Blk.new w _ [(.slice Ak x.key.length ck), (.slice Av x.v.length cvv), .int .i64 0]).alloc _
 have hb8 : Blk wb (w.heap.size + 1) 91 zup := by
  rw [hwb]; have := Blk.new (w.alloc (.cells #[(.slice Ak x.key.length ck), (.slice Av x.v.length cvv), .int .i64 0] 77)) 91 zup
  rwa [World.size_alloc] at this
 have S0 := Sx.start h hD; have hO : ∀ q, D q -> Off D [] [] q := fun q hq => ⟨hq, fun _ h => by simp at h, fun _ h => by simp at h⟩
 have S1 := lh (((S0.key (hx.2.1.imp fun q hq => ⟨hq.1, hO q hq.2⟩)).key (hx.1.imp fun q hq => ⟨hq.1, hO q hq.2⟩)).new (L' := [(w.heap.size + 1, 91, zup), (w.heap.size, 77, [(.slice Ak x.key.length ck), (.slice Av x.v.length cvv), .int .i64 0])]) hf0 (fun l hl => by
  rcases List.mem_cons.1 hl with rfl | hl
  ·exact ⟨hb8, by simp⟩
  ·obtain rfl := List.mem_singleton.1 hl; exact ⟨hb6, Nat.le_refl _⟩) (by simp))
 have HNC := lh (node_ch hp S1.out.ch hN S1.out.offD); have HP := lh hp; have HE := lh he; have HKR := lh hKR; have HW := lh hW; have HIH := lh ih; have HOK := lh hok; have HFEW := lh hfew; have HDEEP := lh hdeep; have HXO := lh hxo; have HONE := lh hone; have HXAT := lh hxat; have HSAME := lh hsame; have HAV : Hid (Value.int .i64 0 = .int .i64 (x.at_ : Int)) := lh (by rw [hxat]; rfl); clear S0 hO h hx hp hf0 hb6 hb8 he hKR hW ih hok hN hxo hD hxat hone hsz hsame; have hd40 : ¬ ((deep : Nat) : Int) = 40 := by omega
 refine calls_post fun R HQ => ?_
 go_enter Tryz.func37, Tryz.ntmps37
 go_upto_region 1 with (with_reducible refine wpList_alloc_z rfl 91 rfl (.agg #[.slice none 0 0, .int .i64 0]) zup.toArray zero_up rfl ?_)
 rw [<- hwb]; have hz2 : (w.alloc (.cells #[(.slice Ak x.key.length ck), (.slice Av x.v.length cvv), .int .i64 0] 77)).heap.size = w.heap.size + 1 := by rw [World.size_alloc]
 rw [hz2]; clear hwb hz2; go_wp2_with fail; refine HNC.out.mono ?_; rintro e w1 ⟨nv, rfl, hnv, hf1⟩; obtain ⟨A, ca, cs, rfl, hca, S2'⟩ := S1.out.node hf1 (Nat.le_refl _) hnv; have S2 := lh S2'; clear hnv hf1 S2' S1 HNC
 go_wp2_with (first
  | (with_reducible refine wpList_alloc_z rfl 88 rfl (.agg #[.int .i64 0, .int .i64 0, .slice none 0 0]) znd.toArray zero_nd rfl ?_)
  | (refine wpList_store_z (W := w1) rfl 88 (.tmp 9) (.tmp 19) rfl [.int .i64 (kindOf n), .int .i64 (n.first : Int), .slice A n.l.length ca] rfl rfl rfl size_nd rfl three_cells ?_))
 intro w9 hb9 hf9 hz9; obtain ⟨p9, hp9⟩ := nm (w1.heap.size); rw [<- hp9] at hb9 ⊢; have S3 := lh (S2.out.new1 hf9 hb9 (by omega)); clear hf9 hb9 hz9 hp9 S2; go_wp2_with fail; refine (fail_ch S3.out.ch 0).mono ?_; rintro e w10 ⟨rfl, hc10, hf10, hz10⟩; rw [fail_zero HE.out] at hc10 ⊢; have hd : decide (c.e ≠ 0) = false := by rw [HE.out]; rfl
 rw [hd]; have S4 := lh (S3.out.call hf10 (by simp) hc10); clear hc10 hf10 hz10 S3 hd; have d0 := (S4.out.loc _ (.head _)).1.at_ (i := 0) rfl; have d1 := (S4.out.loc _ (.head _)).1.at_ (i := 1) rfl; have d2 := (S4.out.loc _ (.head _)).1.at_ (i := 2) rfl; go_wp2_with fail; refine (leaf_nd n).mono ?_; rintro e w11 ⟨rfl, hf11⟩; have S5 := lh (S4.out.quiet hf11); clear hf11 S4 d0 d1 d2; have d0 := (S5.out.loc _ (.head _)).1.at_ (i := 0) rfl; have d1 := (S5.out.loc _ (.head _)).1.at_ (i := 1) rfl; have d2 := (S5.out.loc _ (.head _)).1.at_ (i := 2) rfl; have x0 := (S5.out.loc _ (.tail _ (.tail _ (.head _)))).1.at_ (i := 0) rfl
 cases hlf : n.lf with
 | true =>
  rcases HW.out with ⟨-, hLO, hcu⟩ | ⟨hno, _⟩
  ·clear hlf; obtain ⟨gk, hgk, _⟩ := S5.out.kb (.head _); have HPL := lh (place_nd (S5.out.bytes (.head _)) hgk HKR.out (by have := HFEW.out; omega)); have HLO := lh hLO; have hcu1 := congrArg Prod.fst hcu; have hcu2 := congrArg Prod.snd hcu
   simp only at hcu1 hcu2
   subst hcu1 hcu2; clear hgk hLO hcu; go_wp2_with fail; refine HPL.out.mono ?_; rintro e w12 ⟨rfl, hf12⟩; have S6 := lh (S5.out.quiet hf12); clear hf12 HPL d0 d1 d2 x0 S5; have d2 := (S6.out.loc _ (.head _)).1.at_ (i := 2) rfl
   cases his : isAt n.l x.key
   case' true =>
    have hlt := isAt_lt his; obtain ⟨q, hA, hcell⟩ := own_cell (S6.out.row' (.head _)) (show 0 < n.l.length by omega); subst hA; obtain ⟨y, hy⟩ : ∃ y, n.l[placeOf n.l x.key]? = some y := ⟨_, List.getElem?_eq_getElem hlt⟩; obtain ⟨kv1, vv1, av1, k1, k2, k3, _⟩ := (S6.out.its' (.head _)).at_ hy; have cv := hcell _ _ k2; have hfz := World.ownsRow.frozenAt (S6.out.row' (.head _)) (placeOf n.l x.key * 3 + 1); have hltI : ((placeOf n.l x.key : Nat) : Int) < ((n.l.length : Nat) : Int) := by omega
    have x1 := (S6.out.loc _ (.tail _ (.tail _ (.head _)))).1.at_ (i := 1) rfl; have S7 := lh (S6.out.cell (j := placeOf n.l x.key * 3 + 1) (u := (.slice Av x.v.length cvv)) (l' := setV n.l (placeOf n.l x.key) x.v) (setV_len _ _ _) ((S6.out.its' (.head _)).setV (kv := kv1) (av := av1) hy (S6.out.kb (.tail _ (.head _))))); have HE1 : Hid (leafPut n.l x = setV n.l (placeOf n.l x.key) x.v) := lh (leafPut_is his); have hln : (setV n.l (placeOf n.l x.key) x.v).length = n.l.length := setV_len _ _ _; clear hcell k1 k2 k3 hy; go_upto_region 11 with fail
    obtain ⟨w13, hw13⟩ := nm (w12.setCell ⟨q, placeOf n.l x.key * 3 + 1, none⟩ (.slice Av x.v.length cvv)); rw [<- hw13] at S7
    first | rw [<- hw13] | skip
    clear hw13 S6 cv hfz x1 d2
    have HND : Hid (NdV _ w13 w.heap.size (.agg #[.int .i64 (kindOf n), .int .i64 (n.first : Int), .slice (some ⟨q, 0, none⟩) n.l.length ca]) { n with l := leafPut n.l x }) := lh (by
     have := S7.out.give.2.1; simp only [hln] at this; rw [HE1.out]; exact this)
    rw [<- HE1.out] at S7; have d0 := (S7.out.loc _ (.head _)).1.at_ (i := 0) rfl; have d1 := (S7.out.loc _ (.head _)).1.at_ (i := 1) rfl; have d2 := (S7.out.loc _ (.head _)).1.at_ (i := 2) rfl; have HLA := lh (lay_ch HP.out S7.out.give.1 HND.out HLO.out.k HLO.out.ok HLO.out.size HLO.out.e HLO.out.head S7.out.give.2.2); go_wp2_with fail; refine HLA.out.mono ?_; rintro e wl ⟨uv, rfl, huv, hcl, hfl⟩; obtain ⟨Au, cu, rfl, hbu⟩ := huv.open_; have SL := lh ((((S7.out.less (N' := []) (List.Sublist.refl _) (List.nil_sublist _) fun _ h => h).call hfl (by simp) hcl).key hbu).perm (List.Perm.swap _ _ _))
   case' false =>
    have HE1 : Hid (leafPut n.l x = insAt n.l (placeOf n.l x.key) x) := lh (leafPut_no his); have hple := place_le n.l x.key; have hln : (insAt n.l (placeOf n.l x.key) x).length = n.l.length + 1 := insAt_len _ _ hple; have x0 := (S6.out.loc _ (.tail _ (.tail _ (.head _)))).1.at_ (i := 0) rfl; have x1 := (S6.out.loc _ (.tail _ (.tail _ (.head _)))).1.at_ (i := 1) rfl; have x2 := (S6.out.loc _ (.tail _ (.tail _ (.head _)))).1.at_ (i := 2) rfl; go_upto_region 10 with fail
    refine wp_region_lit ?_
    iterate 4 (refine rn rfl (by go_simp <;> with_reducible rfl) ?_; simp only [nrm])
    refine lp fun K hK => ?_; obtain ⟨ti, hti, hz', hsz', hby⟩ := info_get info_it; refine wp_build_one (.tmp 54) rfl Tryz.underlying86 hti hz' [(.slice Ak x.key.length ck), (.slice Av x.v.length cvv), .int .i64 0] rfl hsz' rfl (by simp) (by simp) (hK _ _ ?_); clear hK; simp only [nrm]; obtain ⟨wx, hwx⟩ := nm (w12.alloc (.cells ([(.slice Ak x.key.length ck), (.slice Av x.v.length cvv), .int .i64 0] : List Value).toArray 77)); rw [<- hwx]; have hfx : Fr [] w12 wx := by rw [hwx]; exact (Fr.refl [] w12).alloc _
    have hbx : Blk wx w12.heap.size 77 [(.slice Ak x.key.length ck), (.slice Av x.v.length cvv), .int .i64 0] := by rw [hwx]; exact Blk.new w12 _ [(.slice Ak x.key.length ck), (.slice Av x.v.length cvv), .int .i64 0]
    have S7 := lh (S6.out.quiet hfx); clear hwx; refine lp fun K hK => ?_; refine wp_call_f (l := [.tmp 52, .tmp 53, .tmp 55]) rfl [.slice A n.l.length ca, .int .i64 ((placeOf n.l x.key : Nat) : Int), .slice (some ⟨w12.heap.size, 0, none⟩) 1 1] rfl (enter_insert _) ((items_insert (S7.out.row' (.head _)) (S7.out.its' (.head _)).one (by have := HFEW.out; omega) hple S7.out.fr.size hbx HONE.out rfl (fun e => by have := (S6.out.own' (.head _) _ e).2; omega)).mono ?_); rintro e w13 ⟨sv', rfl, ho', hf', hq'⟩; obtain ⟨A', ca', rfl, S8'⟩ := S7.out.ins hple (x := x) (S7.out.kb (.head _)) (S7.out.kb (.tail _ (.head _))) HAV.out ho' hf' hq'; refine ⟨_, rfl, hK _ _ ?_⟩; clear hK; simp only [nrm]; have S8 := lh S8'; have d2' := (S8.out.loc _ (.head _)).1.at_ (i := 2) rfl; have dfz := (S8.out.loc _ (.head _)).1.free 2; refine rn rfl (by go_simp <;> with_reducible rfl) ?_; simp only [nrm]; refine lp fun K hK => ?_; refine wp_run_skip (w' := w13.setCell ⟨p9, 2, none⟩ (.slice A' (n.l.length + 1) ca')) (by go_simp) (hK _ _ ?_); clear hK; simp only [Act.put]; refine wpList_nil ?_; have S9 := lh (S8.out.set_ (cs := [.int .i64 (kindOf n), .int .i64 (n.first : Int), .slice A' (n.l.length + 1) ca']) ((Fr.refl [p9] w13).setCell (.inl (by simp)) _) ((S8.out.loc _ (.head _)).1.set_ 2 (.slice A' (n.l.length + 1) ca'))); clear d2' dfz S8 S8' ho' hf' hq' hfx hbx; generalize w13.setCell ⟨p9, 2, none⟩ (.slice A' (n.l.length + 1) ca') = w14 at *; clear x0 x1 x2 d2 S6 S7 hti hz' hsz' hby
    have HND : Hid (NdV _ w14 w.heap.size (.agg #[.int .i64 (kindOf n), .int .i64 (n.first : Int), .slice A' (n.l.length + 1) ca']) { n with l := leafPut n.l x }) := lh (by
     have := S9.out.give.2.1; simp only [hln] at this; rw [HE1.out]; exact this)
    have d0 := (S9.out.loc _ (.head _)).1.at_ (i := 0) rfl; have d1 := (S9.out.loc _ (.head _)).1.at_ (i := 1) rfl; have d2 := (S9.out.loc _ (.head _)).1.at_ (i := 2) rfl; have HLA := lh (lay_ch HP.out S9.out.give.1 HND.out HLO.out.k HLO.out.ok HLO.out.size HLO.out.e HLO.out.head S9.out.give.2.2); go_wp2_with fail; refine HLA.out.mono ?_; rintro e wl ⟨uv, rfl, huv, hcl, hfl⟩; obtain ⟨Au, cu, rfl, hbu⟩ := huv.open_; have SL := lh ((((S9.out.less (N' := []) (List.Sublist.refl _) (List.nil_sublist _) fun _ h => h).call hfl (by simp) hcl).key hbu).perm (List.Perm.swap _ _ _))
   all_goals
    have HBR := lh (SL.out.loc _ (.head _)).1; clear hbu hfl huv hcl d0 d1 d2 HLA
    go_wp2_with (refine wpL_store rfl 91 (.tmp 8) (.tmp 61) rfl [.slice Au _ cu, .int .i64 _] rfl rfl HBR.out size_up rfl two_cells ?_)
    intro we hbe hfe hze; have HX := lh (HQ.out _ _ ⟨_, rfl, (SL.out.set_ hfe hbe).upv⟩); have HBE := lh hbe; clear hbe hfe hze; go_wp2_with fail; exact ret_blk (g := w.heap.size + 1) (t' := 91) (cs := [.slice Au _ cu, .int .i64 _]) (d := _) rfl rfl HBE.out Tryz.underlying91 rfl size_up HX.out
  ·rw [hlf] at hno; cases hno
 | false =>
  rcases HW.out with ⟨hyes, _⟩ | ⟨-, c1, u1, hPW, hrest⟩
  ·rw [hlf] at hyes; cases hyes
  ·clear hlf; obtain ⟨gk, hgk, _⟩ := S5.out.kb (.head _); have HWY := lh (way_nd (S5.out.bytes (.head _)) hgk HKR.out (by have := HFEW.out; omega)); have HPW := lh hPW; have HREST := lh hrest; have HP1 := lh (HP.out.to hPW.same); clear hgk hPW hrest; go_wp2_with fail; refine HWY.out.mono ?_; rintro e w12 ⟨rfl, hf12⟩; have S6 := lh ((S5.out.quiet hf12).quiet ((Fr.refl [] w12).drew)); clear hf12 HWY d0 d1 d2 x0 S5; have y0 := (S6.out.loc _ (.head _)).1.at_ (i := 0) rfl; have y1 := (S6.out.loc _ (.head _)).1.at_ (i := 1) rfl; have y2 := (S6.out.loc _ (.head _)).1.at_ (i := 2) rfl; have x0 := (S6.out.loc _ (.tail _ (.tail _ (.head _)))).1.at_ (i := 0) rfl; have x1 := (S6.out.loc _ (.tail _ (.tail _ (.head _)))).1.at_ (i := 1) rfl; have x2 := (S6.out.loc _ (.tail _ (.tail _ (.head _)))).1.at_ (i := 2) rfl; have hw1 := wi deep (by omega)
   have hlow := S6.out.low; have hp9l := (S6.out.loc _ (.head _)).2; have hn9 : p9 ∉ [bc, bn, bs] := by simp only at hp9l; simp; omega
   have hn6 : w.heap.size ∉ [bc, bn, bs] := by simp; omega
   clear hlow hp9l; go_upto_region 13 with fail
   apply tail4 (H := fun p14 Au cu w16 => Hid (Sx wS w g bc bn bs D [(p9, 88, [.int .i64 (kindOf n), .int .i64 (n.first : Int), .slice A n.l.length ca]), (p14, 91, [.slice Au u1.1.length cu, .int .i64 ((u1.2 : Nat) : Int)]), (w.heap.size + 1, 91, zup), (w.heap.size, 77, [(.slice Ak x.key.length ck), (.slice Av x.v.length cvv), .int .i64 0])] [⟨A, ca, n, cs⟩] [.by_ (.slice Au u1.1.length cu) u1.1, .by_ (.slice Ak x.key.length ck) x.key, .by_ (.slice Av x.v.length cvv) x.v] c1 w16))
   case main =>
    intro TAIL; refine wp_region_K (fun W => W.cell? ⟨p9, 0, none⟩ = some (.int .i64 (kindOf n)) /\ W.cell? ⟨p9, 1, none⟩ = some (.int .i64 (n.first : Int)) /\ W.cell? ⟨p9, 2, none⟩ = some (.slice A n.l.length ca) /\ W.cell? ⟨w.heap.size, 0, none⟩ = some (.slice Ak x.key.length ck) /\ W.cell? ⟨w.heap.size, 1, none⟩ = some (.slice Av x.v.length cvv) /\ W.cell? ⟨w.heap.size, 2, none⟩ = some (.int .i64 0)) [0, 1, 2, 4, 5, 6] (by kernel_rfl) ?_; refine tks [0, 1, 2, 4, 5, 6] ?_
    iterate 6 (refine tk rfl rfl ⟨y0, y1, y2, x0, x1, x2⟩ rfl (fun _ hW => by (obtain ⟨q0, q1, q2, q3, q4, q5⟩ := hW; go_simp) <;> with_reducible rfl) ?_; simp only [nrm])
    refine tke ?_; refine wpAnyK_two (i := 3) (j := 8) (some 70) (some 14) rfl rfl rfl rfl (by kernel_rfl) rfl rfl (fun K hK => ?_) (fun K hK => ?_)
    ·
     refine wp_call_f (l := [.tmp 68, .tmp 69]) rfl [.agg #[.int .i64 (kindOf n), .int .i64 (n.first : Int), .slice A n.l.length ca], .int .i64 ((n.way x.key : Nat) : Int)] rfl (enter_child _) ((child_nd (S6.out.bytes (.head _)) (way_le n x.key) (by have := HFEW.out; omega)).mono ?_); rintro e w13 ⟨rfl, hf13⟩; refine ⟨_, rfl, hK _ _ (fun _ => ⟨fr_keep hf13 y0, fr_keep hf13 y1, fr_keep hf13 y2, fr_keep hf13 x0, fr_keep hf13 x1, fr_keep hf13 x2⟩) ?_⟩; simp only [nrm]; have S7 := lh (S6.out.quiet hf13); clear hK
     replace y0 := fr_keep hf13 y0
     replace y1 := fr_keep hf13 y1
     replace y2 := fr_keep hf13 y2
     replace x0 := fr_keep hf13 x0
     replace x1 := fr_keep hf13 x1
     replace x2 := fr_keep hf13 x2
     clear hf13; refine wpAnyK_two (i := 7) (j := 8) (some 74) (some 14) rfl rfl rfl rfl (by kernel_rfl) rfl rfl (fun K hK => ?_) (fun K hK => ?_)
     ·
      refine wp_call_f (l := [.tmp 67, .tmp 70, .tmp 71, .tmp 73]) rfl [.pointer (some ⟨bc, 0, none⟩), .int .i64 ((n.child (n.way x.key) : Nat) : Int), .agg #[(.slice Ak x.key.length ck), (.slice Av x.v.length cvv), .int .i64 0], .int .i64 ((deep : Int) + 1)] rfl (enter_put _) ((HIH.out.go (c := c) (deep := deep + 1) (by have := HDEEP.out; omega) HPW.out HP.out S7.out.ch ⟨S7.out.kb (.head _), S7.out.kb (.tail _ (.head _)), HAV.out⟩ HXO.out S7.out.offD).mono ?_); rintro e w14 ⟨uv, rfl, huv, hc1, hf14⟩; obtain ⟨Au, cu, rfl, hbu⟩ := huv.open_
      replace y0 := fr_keepS hf14 hn9 y0
      replace y1 := fr_keepS hf14 hn9 y1
      replace y2 := fr_keepS hf14 hn9 y2
      replace x0 := fr_keepS hf14 hn6 x0
      replace x1 := fr_keepS hf14 hn6 x1
      replace x2 := fr_keepS hf14 hn6 x2
      refine ⟨_, rfl, hK _ _ (fun _ => ⟨y0, y1, y2, x0, x1, x2⟩) ?_⟩; simp only [nrm]; have S8 := lh ((S7.out.call hf14 (by simp) hc1).key hbu); clear hK hbu huv hc1 hf14; refine sp 8 rfl rfl rfl fun K hK => ?_; refine wp_alloc_blk 91 rfl (.agg #[.slice none 0 0, .int .i64 0]) zup zero_up rfl fun w15 hb15 hf15 hz15 => ?_
      replace y0 := fr_keep hf15 y0
      replace y1 := fr_keep hf15 y1
      replace y2 := fr_keep hf15 y2
      replace x0 := fr_keep hf15 x0
      replace x1 := fr_keep hf15 x1
      replace x2 := fr_keep hf15 x2
      refine hK _ _ (fun _ => ⟨y0, y1, y2, x0, x1, x2⟩) ?_; simp only [nrm]; clear hK; obtain ⟨p14, hp14⟩ := nm (w14.heap.size); rw [<- hp14] at hb15 ⊢; have S9 := lh (S8.out.new1 hf15 hb15 (Nat.le_of_eq hp14.symm)); clear hb15 hf15 hz15 hp14; have hb14 := (S9.out.loc _ (.head _)).1; refine wpAnyK_step (j := 9) none rfl rfl (by kernel_rfl) rfl fun K hK => ?_; refine wp_store_blk 91 (.tmp 14) (.tmp 74) rfl [.slice Au u1.1.length cu, .int .i64 ((u1.2 : Nat) : Int)] rfl rfl hb14 size_up rfl two_cells fun w16 hb16 hf16 hz16 => hK _ _ (fun h => absurd h (by decide +kernel)) ?_; simp only [Act.put]; clear hK; refine wd ?_ _; exact TAIL p14 Au cu w16 (lh ((S9.out.set_ hf16 hb16).perm (List.Perm.swap _ _ _)))
     ·
      refine wp_alloc_blk 91 rfl (.agg #[.slice none 0 0, .int .i64 0]) zup zero_up rfl fun w15 hb15 hf15 hz15 => ?_
      replace y0 := fr_keep hf15 y0
      replace y1 := fr_keep hf15 y1
      replace y2 := fr_keep hf15 y2
      replace x0 := fr_keep hf15 x0
      replace x1 := fr_keep hf15 x1
      replace x2 := fr_keep hf15 x2
      refine hK _ _ (fun _ => ⟨y0, y1, y2, x0, x1, x2⟩) ?_; simp only [nrm]; clear hK; obtain ⟨p14, hp14⟩ := nm (w13.heap.size); rw [<- hp14] at hb15 ⊢; have S8 := lh (S7.out.new1 hf15 hb15 (Nat.le_of_eq hp14.symm)); clear hb15 hf15 hz15 hp14; refine sp 7 rfl rfl rfl fun K hK => ?_; refine wp_call_f (l := [.tmp 67, .tmp 70, .tmp 71, .tmp 73]) rfl [.pointer (some ⟨bc, 0, none⟩), .int .i64 ((n.child (n.way x.key) : Nat) : Int), .agg #[(.slice Ak x.key.length ck), (.slice Av x.v.length cvv), .int .i64 0], .int .i64 ((deep : Int) + 1)] rfl (enter_put _) ((HIH.out.go (c := c) (deep := deep + 1) (by have := HDEEP.out; omega) HPW.out HP.out S8.out.ch ⟨S8.out.kb (.head _), S8.out.kb (.tail _ (.head _)), HAV.out⟩ HXO.out S8.out.offD).mono ?_); rintro e w14 ⟨uv, rfl, huv, hc1, hf14⟩; obtain ⟨Au, cu, rfl, hbu⟩ := huv.open_
      replace y0 := fr_keepS hf14 hn9 y0
      replace y1 := fr_keepS hf14 hn9 y1
      replace y2 := fr_keepS hf14 hn9 y2
      replace x0 := fr_keepS hf14 hn6 x0
      replace x1 := fr_keepS hf14 hn6 x1
      replace x2 := fr_keepS hf14 hn6 x2
      refine ⟨_, rfl, hK _ _ (fun _ => ⟨y0, y1, y2, x0, x1, x2⟩) ?_⟩; simp only [nrm]; have S9 := lh ((S8.out.call hf14 (by simp) hc1).key hbu); clear hK hbu huv hc1 hf14; have hb14 := (S9.out.loc _ (.head _)).1; refine wpAnyK_step (j := 9) none rfl rfl (by kernel_rfl) rfl fun K hK => ?_; refine wp_store_blk 91 (.tmp 14) (.tmp 74) rfl [.slice Au u1.1.length cu, .int .i64 ((u1.2 : Nat) : Int)] rfl rfl hb14 size_up rfl two_cells fun w16 hb16 hf16 hz16 => hK _ _ (fun h => absurd h (by decide +kernel)) ?_; simp only [Act.put]; clear hK; refine wd ?_ _; exact TAIL p14 Au cu w16 (lh ((S9.out.set_ hf16 hb16).perm (List.Perm.swap _ _ _)))
    ·
     refine wp_alloc_blk 91 rfl (.agg #[.slice none 0 0, .int .i64 0]) zup zero_up rfl fun w15 hb15 hf15 hz15 => ?_
     replace y0 := fr_keep hf15 y0
     replace y1 := fr_keep hf15 y1
     replace y2 := fr_keep hf15 y2
     replace x0 := fr_keep hf15 x0
     replace x1 := fr_keep hf15 x1
     replace x2 := fr_keep hf15 x2
     refine hK _ _ (fun _ => ⟨y0, y1, y2, x0, x1, x2⟩) ?_; simp only [nrm]; clear hK; obtain ⟨p14, hp14⟩ := nm (w12.drew.heap.size); rw [<- hp14] at hb15 ⊢; have S7 := lh (S6.out.new1 hf15 hb15 (Nat.le_of_eq hp14.symm)); clear hb15 hf15 hz15 hp14; refine sp 3 rfl rfl rfl fun K hK => ?_; refine wp_call_f (l := [.tmp 68, .tmp 69]) rfl [.agg #[.int .i64 (kindOf n), .int .i64 (n.first : Int), .slice A n.l.length ca], .int .i64 ((n.way x.key : Nat) : Int)] rfl (enter_child _) ((child_nd (S7.out.bytes (.head _)) (way_le n x.key) (by have := HFEW.out; omega)).mono ?_); rintro e w13 ⟨rfl, hf13⟩; refine ⟨_, rfl, hK _ _ (fun _ => ⟨fr_keep hf13 y0, fr_keep hf13 y1, fr_keep hf13 y2, fr_keep hf13 x0, fr_keep hf13 x1, fr_keep hf13 x2⟩) ?_⟩; simp only [nrm]; have S8 := lh (S7.out.quiet hf13); clear hK
     replace y0 := fr_keep hf13 y0
     replace y1 := fr_keep hf13 y1
     replace y2 := fr_keep hf13 y2
     replace x0 := fr_keep hf13 x0
     replace x1 := fr_keep hf13 x1
     replace x2 := fr_keep hf13 x2
     clear hf13; refine sp 7 rfl rfl rfl fun K hK => ?_; refine wp_call_f (l := [.tmp 67, .tmp 70, .tmp 71, .tmp 73]) rfl [.pointer (some ⟨bc, 0, none⟩), .int .i64 ((n.child (n.way x.key) : Nat) : Int), .agg #[(.slice Ak x.key.length ck), (.slice Av x.v.length cvv), .int .i64 0], .int .i64 ((deep : Int) + 1)] rfl (enter_put _) ((HIH.out.go (c := c) (deep := deep + 1) (by have := HDEEP.out; omega) HPW.out HP.out S8.out.ch ⟨S8.out.kb (.head _), S8.out.kb (.tail _ (.head _)), HAV.out⟩ HXO.out S8.out.offD).mono ?_); rintro e w14 ⟨uv, rfl, huv, hc1, hf14⟩; obtain ⟨Au, cu, rfl, hbu⟩ := huv.open_
     replace y0 := fr_keepS hf14 hn9 y0
     replace y1 := fr_keepS hf14 hn9 y1
     replace y2 := fr_keepS hf14 hn9 y2
     replace x0 := fr_keepS hf14 hn6 x0
     replace x1 := fr_keepS hf14 hn6 x1
     replace x2 := fr_keepS hf14 hn6 x2
     refine ⟨_, rfl, hK _ _ (fun _ => ⟨y0, y1, y2, x0, x1, x2⟩) ?_⟩; simp only [nrm]; have S9 := lh ((S8.out.call hf14 (by simp) hc1).key hbu); clear hK hbu huv hc1 hf14; have hb14 := (S9.out.loc _ (.head _)).1; refine wpAnyK_step (j := 9) none rfl rfl (by kernel_rfl) rfl fun K hK => ?_; refine wp_store_blk 91 (.tmp 14) (.tmp 74) rfl [.slice Au u1.1.length cu, .int .i64 ((u1.2 : Nat) : Int)] rfl rfl hb14 size_up rfl two_cells fun w16 hb16 hf16 hz16 => hK _ _ (fun h => absurd h (by decide +kernel)) ?_; simp only [Act.put]; clear hK; refine wd ?_ _; exact TAIL p14 Au cu w16 (lh ((S9.out.set_ hf16 hb16).perm (List.Perm.swap _ _ _)))
   intro p14 Au cu w16 SA; clear hw1 y0 y1 y2 x0 x1 x2 S6 hn9 hn6; have u0 := (SA.out.loc _ (.tail _ (.head _))).1.at_ (i := 0) rfl; have u1' := (SA.out.loc _ (.tail _ (.head _))).1.at_ (i := 1) rfl; have d2 := (SA.out.loc _ (.head _)).1.at_ (i := 2) rfl; rcases HREST.out with ⟨hu0, rfl, rfl⟩ | ⟨hu0, hLO, hcu⟩
   ·have SL := lh ((SA.out.less (L' := _) (.cons _ (.cons _ (List.Sublist.refl _))) (List.Sublist.refl _) fun _ h => h)); have HBR := lh (SL.out.loc _ (.head _)).1; have e1 : u1' = u1' := rfl
    simp only at u1'
    rw [hu0] at u1'; clear e1
    go_wp2_with (refine wpL_store rfl 91 (.tmp 8) (.tmp 78) rfl [.slice none 0 0, .int .i64 0] rfl rfl HBR.out size_up rfl two_cells ?_)
    intro we hbe hfe hze; have HX := lh (HQ.out _ _ ⟨_, rfl, (SL.out.set_ hfe hbe).upv0⟩); have HBE := lh hbe; clear hbe hfe hze; go_wp2_with fail; exact ret_blk (g := w.heap.size + 1) (t' := 91) (cs := [.slice none 0 0, .int .i64 0]) (d := _) rfl rfl HBE.out Tryz.underlying91 rfl size_up HX.out
   ·have hu0i : ¬ ((u1.2 : Nat) : Int) = 0 := by omega
    have HLO := lh hLO; have hcu1 := congrArg Prod.fst hcu; have hcu2 := congrArg Prod.snd hcu
    simp only at hcu1 hcu2
    subst hcu1 hcu2; have hple := way_le n x.key; have hln : (insAt n.l (n.way x.key) ⟨u1.1, [], u1.2⟩).length = n.l.length + 1 := insAt_len _ _ hple; clear hLO hcu; go_upto_region 16 with fail
    refine wp_region_lit ?_
    iterate 9 (refine rn rfl (by go_simp <;> with_reducible rfl) ?_; simp only [nrm])
    refine lp fun K hK => ?_; obtain ⟨ti, hti, hz', hsz', hby⟩ := info_get info_it; refine wp_build_one (.tmp 87) rfl Tryz.underlying86 hti hz' [.slice Au u1.1.length cu, .slice none 0 0, .int .i64 ((u1.2 : Nat) : Int)] rfl hsz' rfl (by simp) (by simp) (hK _ _ ?_); clear hK; simp only [nrm]; obtain ⟨wx, hwx⟩ := nm (w16.alloc (.cells ([.slice Au u1.1.length cu, .slice none 0 0, .int .i64 ((u1.2 : Nat) : Int)] : List Value).toArray 77)); rw [<- hwx]; have hfx : Fr [] w16 wx := by rw [hwx]; exact (Fr.refl [] w16).alloc _
    have hbx : Blk wx w16.heap.size 77 [.slice Au u1.1.length cu, .slice none 0 0, .int .i64 ((u1.2 : Nat) : Int)] := by rw [hwx]; exact Blk.new w16 _ [.slice Au u1.1.length cu, .slice none 0 0, .int .i64 ((u1.2 : Nat) : Int)]
    have S7 := lh (SA.out.quiet hfx); clear hwx; refine lp fun K hK => ?_; refine wp_call_f (l := [.tmp 80, .tmp 81, .tmp 88]) rfl [.slice A n.l.length ca, .int .i64 ((n.way x.key : Nat) : Int), .slice (some ⟨w16.heap.size, 0, none⟩) 1 1] rfl (enter_insert _) ((items_insert (S7.out.row' (.head _)) (S7.out.its' (.head _)).one (by have := HFEW.out; omega) hple S7.out.fr.size hbx three_item rfl (fun e => by have := (SA.out.own' (.head _) _ e).2; omega)).mono ?_); rintro e w13 ⟨sv', rfl, ho', hf', hq'⟩; obtain ⟨A', ca', rfl, S8'⟩ := S7.out.ins hple (x := ⟨u1.1, [], u1.2⟩) (S7.out.kb (.head _)) (S7.out.nil_key) rfl ho' hf' hq'; refine ⟨_, rfl, hK _ _ ?_⟩; clear hK; simp only [nrm]; have S8 := lh S8'; have d2' := (S8.out.loc _ (.head _)).1.at_ (i := 2) rfl; have dfz := (S8.out.loc _ (.head _)).1.free 2; refine rn rfl (by go_simp <;> with_reducible rfl) ?_; simp only [nrm]; refine lp fun K hK => ?_; refine wp_run_skip (w' := w13.setCell ⟨p9, 2, none⟩ (.slice A' (n.l.length + 1) ca')) (by go_simp) (hK _ _ ?_); clear hK; simp only [Act.put]; refine wpList_nil ?_; have S9 := lh (S8.out.set_ (cs := [.int .i64 (kindOf n), .int .i64 (n.first : Int), .slice A' (n.l.length + 1) ca']) ((Fr.refl [p9] w13).setCell (.inl (by simp)) _) ((S8.out.loc _ (.head _)).1.set_ 2 (.slice A' (n.l.length + 1) ca'))); clear d2' dfz S8 S8' ho' hf' hq' hfx hbx; generalize w13.setCell ⟨p9, 2, none⟩ (.slice A' (n.l.length + 1) ca') = w14 at *; clear u0 u1' d2 SA S7 hti hz' hsz' hby; have SB := lh (S9.out.less (L' := _) (.cons_cons _ (.cons _ (List.Sublist.refl _))) (List.Sublist.refl _) fun _ h => h)
    have HND : Hid (NdV _ w14 w.heap.size (.agg #[.int .i64 (kindOf n), .int .i64 (n.first : Int), .slice A' (n.l.length + 1) ca']) { n with l := insAt n.l (n.way x.key) ⟨u1.1, [], u1.2⟩ }) := lh (by
     have := SB.out.give.2.1; simp only [hln] at this; exact this)
    clear S9; have d0 := (SB.out.loc _ (.head _)).1.at_ (i := 0) rfl; have d1 := (SB.out.loc _ (.head _)).1.at_ (i := 1) rfl; have d2 := (SB.out.loc _ (.head _)).1.at_ (i := 2) rfl; have HLA := lh (lay_ch HP1.out SB.out.give.1 HND.out HLO.out.k HLO.out.ok HLO.out.size HLO.out.e HLO.out.head SB.out.give.2.2); go_wp2_with fail; refine HLA.out.mono ?_; rintro e wl ⟨uv, rfl, huv, hcl, hfl⟩; obtain ⟨Au, cu, rfl, hbu⟩ := huv.open_; have SL := lh ((((SB.out.less (N' := []) (List.Sublist.refl _) (List.nil_sublist _) fun _ h => h).call hfl (by simp) hcl).key hbu).perm (List.Perm.swap _ _ _)); have HBR := lh (SL.out.loc _ (.head _)).1; clear hbu hfl huv hcl d0 d1 d2 HLA
    go_wp2_with (refine wpL_store rfl 91 (.tmp 8) (.tmp 94) rfl [.slice Au _ cu, .int .i64 _] rfl rfl HBR.out size_up rfl two_cells ?_)
    intro we hbe hfe hze; have HX := lh (HQ.out _ _ ⟨_, rfl, (SL.out.set_ hfe hbe).upv⟩); have HBE := lh hbe; clear hbe hfe hze; go_wp2_with fail; exact ret_blk (g := w.heap.size + 1) (t' := 91) (cs := [.slice Au _ cu, .int .i64 _]) (d := _) rfl rfl HBE.out Tryz.underlying91 rfl size_up HX.out
theorem put_zero : PutGood w0 wS dk g bc bn bs s X 0 := ⟨fun _ h => h.elim⟩
theorem put_ch : ∀ f, PutGood w0 wS dk g bc bn bs s X f
 | 0 => put_zero
 | f + 1 => put_step (put_ch f)
end
end
end Go.Proofs.YtpjbdpepofnleaaGreat
