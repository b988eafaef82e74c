/-
  Joined by join.py: Je Jf Jg Sl Jh Ji Jj
-/
import Derived.BigRegion
import Derived.Test.YtpjbdpepofnleaaGreatJpl3
set_option maxRecDepth 100000
set_option maxHeartbeats 32000000
namespace Go.Proofs.YtpjbdpepofnleaaGreat
section
open Go.RowKit
def DM.part (D : DM) (f n : Nat) : List (List UInt8) := (List.range n).map fun k => D.look (f + k)
theorem DM.part_len (D : DM) (f n : Nat) : (D.part f n).length = n := by simp [DM.part]
theorem DM.part_succ (D : DM) (f n : Nat) : D.part f (n + 1) = D.part f n ++ [D.look (f + n)] := by simp [DM.part, List.range_succ]
def logCells (d f n at_ num ses : Nat) (br : Bool) : List Value := [.pointer (some ⟨d, 0, none⟩), .int .i64 (f : Int), .int .i64 (n : Int), .int .i64 (at_ : Int), .int .u32 (num : Int), .int .u32 (ses : Int), .bool br]
theorem enter_read (vs : Array Value) (w : World) : (callFunc 116 vs).run Tryz.prog w = .ok (.enter 116 vs) w := by kernel_rfl
theorem info_sector : (Tryz.prog.info? 188).map (fun i => (i.zero, i.size, i.bytes)) = some (some (.slice none 0 0), 1, 24) := by kernel_rfl
def LoadRel (w : World) (D : DM) (f n : Nat) (out i : Value) (wr : World) : Prop :=
 ∃ (k : Nat) (gs : List Nat), k <= n /\ i = .int .i64 k /\ gs.length = k /\ wr.ownsRow 0 188 1 out k (gs.map secV) /\ (∀ x, out.ownBlock = some x -> w.heap.size <= x) /\ (∀ g ∈ gs, w.heap.size <= g) /\
  (∀ (j g : Nat) (s : List UInt8), gs[j]? = some g -> (D.part f k)[j]? = some s -> SecAt wr g s) /\ Fr [] w wr
theorem load_step {w wr w1 w3 : World} {D : DM} {f n k g g1 cap co : Nat} {A : Option Addr} {gs : List Nat} (hok : D.ok) (hfit : f + n <= D.S.length) (hkn : k < n) (hgl : gs.length = k) (hown : wr.ownsRow 0 188 1 (.slice A k co) k (gs.map secV)) (hge : ∀ x, (Value.slice A k co).ownBlock = some x -> w.heap.size <= x) (hgg : ∀ g ∈ gs, w.heap.size <= g)
  (hsec : ∀ (j g : Nat) (s : List UInt8), gs[j]? = some g -> (D.part f k)[j]? = some s -> SecAt wr g s) (hf : Fr [] w wr) (hf1 : Fr [] wr w1) (hblk : Blk w1 g 5 (bcells (D.look (f + k)))) (hgw : wr.heap.size <= g) {X : Obj}
  (hO3 : w3.ownsRow 0 188 1 (.slice (some ⟨g1, 0, none⟩) (k + 1) cap) (k + 1) (gs.map secV ++ [secV g])) (hG3 : (w1.alloc X).grownBy w3 (Value.slice A k co).ownBlock) (hat : (Value.slice A k co).ownBlock = some g1 ∨ g1 = w1.heap.size + 1) :
  LoadRel w D f n (.slice (some ⟨g1, 0, none⟩) (k + 1) cap) (.int .i64 ((k : Int) + 1)) w3 := by
 have hs1 := hf.size; have hs2 := hf1.size; have hown1 := own_fr hown hf1 (by simp)
 have hge1 : w.heap.size <= g1 := by
  rcases hat with h | h
  ·exact hge g1 h
  ·omega
 refine ⟨k + 1, gs ++ [g], hkn, rfl, by simp [hgl], by simpa using hO3, by simpa [Value.ownBlock] using hge1, ?_, ?_, ((hf.trans hf1 (by simp)).alloc _).grown hG3 (fun g' hg' => .inr (hge g' hg'))⟩
 ·intro x hx; rcases List.mem_append.1 hx with h | h
  ·exact hgg x h
  ·simp only [List.mem_singleton] at h; omega
 ·intro j x s hx hs; rw [DM.part_succ] at hs; rcases Nat.lt_or_ge j k with hj | hj
  ·rw [List.getElem?_append_left (by omega)] at hx; rw [List.getElem?_append_left (by rw [DM.part_len]; exact hj)] at hs; have h1 := (hsec j x s hx hs).fr hf1 (by simp); exact ⟨(h1.1.alloc _).grown hG3 (fun e => own_ne hown1 h1.1 (by decide) e.symm), h1.2⟩
  ·rw [List.getElem?_append_right (by omega)] at hx; rw [List.getElem?_append_right (by rw [DM.part_len]; exact hj), DM.part_len] at hs; rw [hgl] at hx
   have hj0 : j - k = 0 := by
    rcases Nat.eq_zero_or_pos (j - k) with h | h
    ·exact h
    ·rw [List.getElem?_eq_none (by simp; omega)] at hx; cases hx
   rw [hj0] at hx hs; simp only [List.getElem?_cons_zero, Option.some.injEq] at hx hs; subst hx hs; exact ⟨(hblk.alloc _).grown hG3 (fun e => own_ne hown1 hblk (by decide) e.symm), DM.look_len hok (by omega)⟩
theorem load_end {w wr : World} {D : DM} {f n co : Nat} {A : Option Addr} {gs : List Nat} (hgl : gs.length = n) (hown : wr.ownsRow 0 188 1 (.slice A n co) n (gs.map secV)) (hge : ∀ x, (Value.slice A n co).ownBlock = some x -> w.heap.size <= x) (hgg : ∀ g ∈ gs, w.heap.size <= g)
  (hsec : ∀ (j g : Nat) (s : List UInt8), gs[j]? = some g -> (D.part f n)[j]? = some s -> SecAt wr g s) (hf : Fr [] w wr) :
  ∃ A' c gl gs', Ending.returned (.tuple #[.slice A n co, .int .i64 0]) = .returned (.tuple #[.slice A' n c, .int .i64 0]) /\ n <= c /\ (0 < n -> A' = some ⟨gl, 0, none⟩) /\ SecsAt wr gl 0 gs' (D.part f n) /\ w.heap.size <= gl /\ (∀ g ∈ gs', w.heap.size <= g) /\ Fr [] w wr := by
 obtain ⟨_, _, hv, hnc, _⟩ := own_shape hown; injection hv with _ _ hcc; subst hcc; rcases Nat.eq_zero_or_pos n with h0 | h0
 ·subst h0; have : gs = [] := List.eq_nil_of_length_eq_zero hgl; subst this; exact ⟨A, co, w.heap.size, [], rfl, hnc, fun h => absurd h (by omega), ⟨by simp [DM.part], by simp, by simp⟩, Nat.le_refl _, by simp, hf⟩
 ·obtain ⟨gl, hA, hc⟩ := own_cell hown h0; subst hA; refine ⟨_, co, gl, gs, rfl, hnc, fun _ => rfl, ⟨by rw [DM.part_len, hgl], fun j g hg => ?_, hsec⟩, hge gl rfl, hgg, hf⟩; rw [Nat.zero_add]; exact hc j _ (by rw [List.getElem?_map, hg]; rfl)
theorem load_ok {w : World} {lg d f n at_ num ses : Nat} {br : Bool} {D : DM} {fp : List Nat} (hb : Blk w lg 160 (logCells d f n at_ num ses br)) (hd : DiskAt w d D fp) (hdead : D.dead = false) (hfit : f + n <= D.S.length) (hmax : D.S.length <= 65536) :
  Calls Tryz.prog 91 #[.pointer (some ⟨lg, 0, none⟩)] w fun e w' => ∃ A c gl gs, e = .returned (.tuple #[.slice A n c, .int .i64 0]) /\ n <= c /\ (0 < n -> A = some ⟨gl, 0, none⟩) /\ SecsAt w' gl 0 gs (D.part f n) /\ w.heap.size <= gl /\ (∀ g ∈ gs, w.heap.size <= g) /\ Fr [] w w' := by
 have c2 := hb.at_ (i := 2) rfl; have HB := lh hb; have HD := lh hd; have HDEAD := lh hdead; clear hb hd hdead
 go_enter Tryz.func91, Tryz.ntmps91
 go_wp2
 go_loopw [4, 12] (LoadRel w D f n) (fun _ i _ => n - (intOf i).toNat)
 case atStart => exact ⟨0, [], Nat.zero_le _, rfl, rfl, own_nil _ _ _ _, by simp [Value.ownBlock], by simp, by simp, Fr.refl _ _⟩
 case round =>
  obtain ⟨k, gs, hk, rfl, hgl, hown, hge, hgg, hsec, hf⟩ := hrel; obtain ⟨A, co, rfl, hno, _⟩ := own_shape hown; have HGL := lh hgl; have HOWN := lh hown; have HGE := lh hge; have HGG := lh hgg; have HSEC := lh hsec; have HF := lh hf; clear hgl hown hge hgg hsec hf
  by_cases hkn : k < n
  ·have hw1 : IntKind.i64.wrap ((f : Int) + (k : Int)) = (f : Int) + (k : Int) := by rw [IntKind.wrap_i64]; omega
   have d0 := (HB.out.fr HF.out (by simp)).at_ (i := 0) rfl; have d1 := (HB.out.fr HF.out (by simp)).at_ (i := 1) rfl; have hdr := lh (HD.out.fr HF.out (by simp)); go_wp2_with fail; refine wp_region_K (fun W => W.cell? ⟨lg, 0, none⟩ = some (.pointer (some ⟨d, 0, none⟩)) /\ W.cell? ⟨lg, 1, none⟩ = some (.int .i64 (f : Int))) [0, 1, 2, 3, 4, 5, 6, 7, 8, 9, 11, 12, 13, 14, 15] (by kernel_rfl) ?_; refine wpAnyK_take (i := 0) (some 16) ?vl0 rfl rfl (by kernel_rfl) (fun _ _ _ h => h) ⟨d0, d1⟩ (.inl ⟨rfl, fun W hW => ?yl0⟩) ?rl0
   case yl0 => (obtain ⟨c0, c1⟩ := hW; go_simp) <;> with_reducible rfl
   simp only [nrm]; refine wpAnyK_take (i := 1) (some 17) ?vl1 rfl rfl (by kernel_rfl) (fun _ _ _ h => h) ⟨d0, d1⟩ (.inl ⟨rfl, fun W hW => ?yl1⟩) ?rl1
   case yl1 => (obtain ⟨c0, c1⟩ := hW; go_simp) <;> with_reducible rfl
   simp only [nrm]; refine wpAnyK_take (i := 2) (some 18) ?vl2 rfl rfl (by kernel_rfl) (fun _ _ _ h => h) ⟨d0, d1⟩ (.inl ⟨rfl, fun W hW => ?yl2⟩) ?rl2
   case yl2 => (obtain ⟨c0, c1⟩ := hW; go_simp) <;> with_reducible rfl
   simp only [nrm]; refine wpAnyK_take (i := 3) (some 19) ?vl3 rfl rfl (by kernel_rfl) (fun _ _ _ h => h) ⟨d0, d1⟩ (.inl ⟨rfl, fun W hW => ?yl3⟩) ?rl3
   case yl3 => (obtain ⟨c0, c1⟩ := hW; go_simp) <;> with_reducible rfl
   simp only [nrm]; refine wpAnyK_take (i := 4) (some 20) ?vl4 rfl rfl (by kernel_rfl) (fun _ _ _ h => h) ⟨d0, d1⟩ (.inl ⟨rfl, fun W hW => ?yl4⟩) ?rl4
   case yl4 => (obtain ⟨c0, c1⟩ := hW; go_simp) <;> with_reducible rfl
   simp only [nrm]; refine wpAnyK_take (i := 5) (some 21) ?vl5 rfl rfl (by kernel_rfl) (fun _ _ _ h => h) ⟨d0, d1⟩ (.inl ⟨rfl, fun W hW => ?yl5⟩) ?rl5
   case yl5 => (obtain ⟨c0, c1⟩ := hW; go_simp) <;> with_reducible rfl
   simp only [nrm]; refine wpAnyK_take (i := 6) (some 22) ?vl6 rfl rfl (by kernel_rfl) (fun _ _ _ h => h) ⟨d0, d1⟩ (.inl ⟨rfl, fun W hW => ?yl6⟩) ?rl6
   case yl6 => (obtain ⟨c0, c1⟩ := hW; go_simp) <;> with_reducible rfl
   simp only [nrm]; refine wpAnyK_take (i := 7) (some 23) ?vl7 rfl rfl (by kernel_rfl) (fun _ _ _ h => h) ⟨d0, d1⟩ (.inl ⟨rfl, fun W hW => ?yl7⟩) ?rl7
   case yl7 => (obtain ⟨c0, c1⟩ := hW; go_simp) <;> with_reducible rfl
   simp only [nrm]; refine wpAnyK_take (i := 8) (some 24) ?vl8 rfl rfl (by kernel_rfl) (fun _ _ _ h => h) ⟨d0, d1⟩ (.inl ⟨rfl, fun W hW => ?yl8⟩) ?rl8
   case yl8 => (obtain ⟨c0, c1⟩ := hW; go_simp) <;> with_reducible rfl
   simp only [nrm]; refine wpAnyK_take (i := 9) (some 25) ?vl9 rfl rfl (by kernel_rfl) (fun _ _ _ h => h) ⟨d0, d1⟩ (.inl ⟨rfl, fun W hW => ?yl9⟩) ?rl9
   case yl9 => (obtain ⟨c0, c1⟩ := hW; go_simp) <;> with_reducible rfl
   simp only [nrm]; refine sp 10 rfl rfl rfl fun K hK => ?_; refine wp_call_f (l := [.tmp 19, .tmp 25]) rfl [.pointer (some ⟨d, 0, none⟩), .int .i64 ((f : Int) + (k : Int))] rfl (enter_read _) ((read_at (hdr.out.fr ((Fr.refl [] wr).drew) (by simp)) ((f : Int) + (k : Int))).mono ?_); rintro e w1 ⟨v, g, rfl, hbv, hgw, hf1, hyes, _⟩
   have hE : D.readE ((f : Int) + (k : Int)) = 0 := by
    unfold DM.readE; rw [HDEAD.out, if_neg (by simp), if_neg (by omega)]
   have hR : D.read ((f : Int) + (k : Int)) = D.look (f + k) := by
    unfold DM.read; rw [if_pos hE, show ((f : Int) + (k : Int)).toNat = f + k by omega]
   obtain ⟨rfl, hblk⟩ := hyes hE; rw [hR] at hblk; have hf1' : Fr [] wr w1 := (Fr.refl [] wr).drew.trans hf1 (by simp); have hbw := HB.out.fr (HF.out.trans hf1' (by simp)) (by simp); have d0' : w1.cell? ⟨lg, 0, none⟩ = some (.pointer (some ⟨d, 0, none⟩)) := hbw.at_ rfl; have d1' : w1.cell? ⟨lg, 1, none⟩ = some (.int .i64 (f : Int)) := hbw.at_ rfl; rw [hE]; refine ⟨_, rfl, hK _ _ (fun _ => ⟨d0', d1'⟩) ?_⟩; simp only [nrm]; refine wpAnyK_take (i := 11) (some 15) ?vl11 rfl rfl (by kernel_rfl) (fun _ _ _ h => h) ⟨d0', d1'⟩ (.inl ⟨rfl, fun W hW => ?yl11⟩) ?rl11
   case yl11 => (obtain ⟨c0, c1⟩ := hW; go_simp) <;> with_reducible rfl
   simp only [nrm]; refine wpAnyK_take (i := 12) (some 27) ?vl12 rfl rfl (by kernel_rfl) (fun _ _ _ h => h) ⟨d0', d1'⟩ (.inl ⟨rfl, fun W hW => ?yl12⟩) ?rl12
   case yl12 => (obtain ⟨c0, c1⟩ := hW; go_simp) <;> with_reducible rfl
   simp only [nrm]; refine wpAnyK_take (i := 13) (some 28) ?vl13 rfl rfl (by kernel_rfl) (fun _ _ _ h => h) ⟨d0', d1'⟩ (.inl ⟨rfl, fun W hW => ?yl13⟩) ?rl13
   case yl13 => (obtain ⟨c0, c1⟩ := hW; go_simp) <;> with_reducible rfl
   simp only [nrm]; refine wpAnyK_take (i := 14) (some 6) ?vl14 rfl rfl (by kernel_rfl) (fun _ _ _ h => h) ⟨d0', d1'⟩ (.inl ⟨rfl, fun W hW => ?yl14⟩) ?rl14
   case yl14 => (obtain ⟨c0, c1⟩ := hW; go_simp) <;> with_reducible rfl
   simp only [nrm]; refine wpAnyK_take (i := 15) (some 7) ?vl15 rfl rfl (by kernel_rfl) (fun _ _ _ h => h) ⟨d0', d1'⟩ (.inl ⟨rfl, fun W hW => ?yl15⟩) ?rl15
   case yl15 => (obtain ⟨c0, c1⟩ := hW; go_simp) <;> with_reducible rfl
   simp only [nrm]; refine wd ?_ _; have HBLK := lh hblk; have HF1 := lh hf1'; have HGW := lh (show wr.heap.size <= g from hgw); clear hblk hf1' hf1 hbw hbv hyes hgw hK hE hR d0 d1 d0' d1'; obtain ⟨i0, hi0, hz0, hz1, hz2⟩ := info_parts info_sector; have HI0 := lh hi0; have HZ0 := lh hz0; have HZ1 := lh hz1; have HZ2 := lh hz2; clear hi0 hz0 hz1 hz2
   go_wp2_with (refine wpList_append_lies _ rfl (.tmp 32) (.tmp 34) 161 rfl 0 188 i0 (.slice none 0 0) 1 24 Tryz.underlying161 HI0.out HZ0.out HZ1.out HZ2.out rfl (by omega) (.slice A k co) k (gs.map secV) rfl ?own ⟨w1.heap.size, 0, none⟩ 1 1 [secV g] rfl rfl ?news ?one (by omega) (by unfold maxLen; omega) (by omega) (Nat.zero_le _) _ rfl ?_)
   case own => exact own_fr HOWN.out (HF1.out.alloc _) (by simp)
   case one => intro u hu; simp at hu; subst hu; rfl
   case news => intro j u hu; rw [Addr.add_mid, Nat.zero_add]; exact (Blk.new w1 188 [secV g]).at_ hu
   intro g1 cap w3 hown3 hg3 hat3 hlt3; have HO3 := lh hown3; have HG3 := lh hg3; have HAT3 := lh hat3; clear hown3 hg3 hat3
   go_wp2
   go_roundw
   case rel => exact load_step (DiskAt.ok HD.out) (by omega) hkn HGL.out HOWN.out HGE.out HGG.out HSEC.out HF.out HF1.out HBLK.out HGW.out HO3.out HG3.out HAT3.out
   case measure => simp [intOf]; omega
  ·have hkk : k = n := by omega
   subst hkk
   go_wp2
   go_ret2
   exact load_end HGL.out HOWN.out HGE.out HGG.out HSEC.out HF.out
def newStep (a : Nat × Nat) (s : List UInt8) : Nat × Nat := match pieceOf s with | some p => (max a.1 p.st.session, max a.2 p.st.number) | none => a
def newFrom (a : Nat × Nat) (L : List (List UInt8)) : Nat × Nat := L.foldl newStep a
theorem newFrom_eq (L : List (List UInt8)) : newestOf L = newFrom (0, 0) L := rfl
theorem newFrom_take {a : Nat × Nat} {L : List (List UInt8)} {k : Nat} {s : List UInt8} (h : L[k]? = some s) : newFrom a (L.take (k + 1)) = newStep (newFrom a (L.take k)) s := by
 have hlt : k < L.length := (List.getElem?_eq_some_iff.1 h).1; rw [List.take_succ_eq_append_getElem hlt]; rw [List.getElem?_eq_getElem hlt] at h; simp only [Option.some.injEq] at h; rw [h]
 simp [newFrom, List.foldl_append]
def NewRel (w : World) (lg d f n at_ : Nat) (br : Bool) (a : Nat × Nat) (L : List (List UInt8)) (i : Value) (wr : World) : Prop :=
 ∃ k : Nat, k <= L.length /\ i = .int .i64 k /\ Blk wr lg 160 (logCells d f n at_ (newFrom a (L.take k)).2 (newFrom a (L.take k)).1 br) /\ Fr [lg] w wr
theorem new_blk {w : World} {lg d f n at_ : Nat} {br : Bool} {m : Nat × Nat} {q : Pc} (h : Blk w lg 160 (logCells d f n at_ m.2 m.1 br)) :
  Blk ((w.setCell ⟨lg, 5, none⟩ (.int .u32 (if m.1 < q.st.session then (q.st.session : Int) else (m.1 : Int)))).setCell ⟨lg, 4, none⟩ (.int .u32 (if m.2 < q.st.number then (q.st.number : Int) else (m.2 : Int)))) lg 160 (logCells d f n at_ (max m.2 q.st.number) (max m.1 q.st.session) br) := by
 have e1 : (if m.1 < q.st.session then (q.st.session : Int) else (m.1 : Int)) = ((max m.1 q.st.session : Nat) : Int) := by split <;> omega
 have e2 : (if m.2 < q.st.number then (q.st.number : Int) else (m.2 : Int)) = ((max m.2 q.st.number : Nat) : Int) := by split <;> omega
 rw [e1, e2]; exact (h.set_ 5 _).set_ 4 _
theorem end_blk {w : World} {lg d f n at_ : Nat} {br : Bool} {m : Nat × Nat} (h : Blk w lg 160 (logCells d f n at_ m.2 m.1 br)) :
  Blk ((w.setCell ⟨lg, 5, none⟩ (.int .u32 (((m.1 : Int) + 1) % 4294967296))).setCell ⟨lg, 4, none⟩ (.int .u32 (((m.2 : Int) + 1) % 4294967296))) lg 160 (logCells d f n at_ ((m.2 + 1) % 4294967296) ((m.1 + 1) % 4294967296) br) := by
 have e1 : ((m.1 : Int) + 1) % 4294967296 = (((m.1 + 1) % 4294967296 : Nat) : Int) := by omega
 have e2 : ((m.2 : Int) + 1) % 4294967296 = (((m.2 + 1) % 4294967296 : Nat) : Int) := by omega
 rw [e1, e2]; exact (h.set_ 5 _).set_ 4 _
theorem newest_any {w : World} {lg d f n at_ gl c : Nat} {br : Bool} {a : Nat × Nat} {gs : List Nat} {L : List (List UInt8)} {A : Option Addr} (hb : Blk w lg 160 (logCells d f n at_ a.2 a.1 br)) (hs : SecsAt w gl 0 gs L) (hA : 0 < L.length -> A = some ⟨gl, 0, none⟩) (_ : L.length <= c) (hm : L.length <= 65536) (hgl : gl ≠ lg) :
  Calls Tryz.prog 92 #[.pointer (some ⟨lg, 0, none⟩), .slice A L.length c] w fun e w' => e = .returned (.bool (decide ((newFrom a L).1 < 4294967295))) /\ Blk w' lg 160 (logCells d f n at_ (((newFrom a L).2 + 1) % 4294967296) (((newFrom a L).1 + 1) % 4294967296) br) /\ Fr [lg] w w' := by
 have HB := lh hb; have HS := lh hs; clear hb hs
 go_enter Tryz.func92, Tryz.ntmps92
 go_wp2
 go_loopw [12] (NewRel w lg d f n at_ br a L) (fun i _ => L.length - (intOf i).toNat)
 case atStart => exact ⟨0, Nat.zero_le _, rfl, HB.out, Fr.refl _ _⟩
 case round =>
  obtain ⟨k, hk, rfl, hb, hf⟩ := hrel; have HBK := lh hb; have HF := lh hf; clear hb hf
  by_cases hkn : k < L.length
  ·obtain rfl := hA (by omega)
   have hgn : ∀ g ∈ gs, g ∉ [lg] := by
    intro g hg hm2; simp only [List.mem_singleton] at hm2; subst hm2; obtain ⟨j, hj, rfl⟩ := List.getElem_of_mem hg; have hj2 : j < L.length := by rw [<- HS.out.len]; exact hj
    have h1 := (HS.out.sec j _ _ (List.getElem?_eq_getElem hj) (List.getElem?_eq_getElem hj2)).1; exact (h1.ne_ HB.out (by decide)) rfl
   obtain ⟨gk, sk, hsk, hck, hseck⟩ := (HS.out.fr HF.out (by simp [hgl]) hgn).at_ (j := k) hkn; have HSK := lh hsk; have HSECK := lh hseck; clear hsk hseck hgn; unfold secV at hck; rw [Nat.zero_add] at hck; go_wp2_with fail; refine (piece_any HSECK.out).mono ?_; rintro e w2 ⟨rfl, hf2⟩; have HF2 := lh hf2; have hb2 := HBK.out.fr hf2 (by simp); have l4 := hb2.at_ (i := 4) rfl; have l5 := hb2.at_ (i := 5) rfl; have lf := hb2.free; have ll := hb2.lt; have HB2 := lh hb2; clear hf2 hb2; unfold pieceV
   cases hq : pieceOf sk with
   | none =>
    simp only [noAgg]
    go_wp2
    exact ⟨⟨k + 1, hkn, rfl, by rw [newFrom_take HSK.out]; unfold newStep; rw [hq]; exact HB2.out.alloc _, (HF.out.trans HF2.out (by simp)).alloc _⟩, by simp [intOf]; omega⟩
   | some q =>
    simp only [pcAgg]
    go_wp2
    go_region
    go_wp2
    refine ⟨⟨k + 1, hkn, rfl, ?_, ?_⟩, by simp [intOf]; omega⟩
    ·rw [newFrom_take HSK.out]; unfold newStep; rw [hq]; have h := (new_blk (q := q) HB2.out).alloc (.cells #[.int .u32 (q.st.session : Int), .int .u32 (q.st.number : Int), .int .i64 (q.st.count : Int), .int .i64 (q.place : Int), .slice (some ⟨gk, 16, none⟩) q.b.length 48] 190)
     first | exact h | exact h.drew
    ·first
      | exact (((HF.out.trans HF2.out (by simp)).setCell (p := ⟨lg, 5, none⟩) (.inl (by simp)) _).setCell (p := ⟨lg, 4, none⟩) (.inl (by simp)) _).alloc _
      | exact ((((HF.out.trans HF2.out (by simp)).setCell (p := ⟨lg, 5, none⟩) (.inl (by simp)) _).setCell (p := ⟨lg, 4, none⟩) (.inl (by simp)) _).alloc _).drew
  ·have hkk : k = L.length := by omega
   have l4 := HBK.out.at_ (i := 4) rfl; have l5 := HBK.out.at_ (i := 5) rfl; have lf := HBK.out.free; rw [hkk, List.take_length] at l4 l5; have HKK := lh hkk; clear hkk
   go_wp2
   go_ret
   have hbf : Blk wr lg 160 (logCells d f n at_ (newFrom a L).2 (newFrom a L).1 br) := by have h := HBK.out; rw [HKK.out, List.take_length] at h; exact h
   refine ⟨?_, ?_, ?_⟩
   ·show Ending.returned (.bool (decide (((newFrom a L).1 : Int) < 4294967295))) = _
    rw [show decide (((newFrom a L).1 : Int) < 4294967295) = decide ((newFrom a L).1 < 4294967295) from decide_eq_decide.2 (by omega)]
   ·exact end_blk hbf
   ·exact ((HF.out.setCell (p := ⟨lg, 5, none⟩) (.inl (by simp)) _).setCell (p := ⟨lg, 4, none⟩) (.inl (by simp)) _)
theorem need_any (w : World) (n : Int) (h1 : -9223372036854775808 <= n) (h2 : n <= 9223372036854775807) :
  Calls Tryz.prog 111 #[.int .i64 n] w fun e w' => e = .returned (.int .i64 (needI n)) /\ w = w' := by
 unfold needI
 by_cases h : n <= 0
 ·rw [if_pos h]
  go_enter Tryz.func111, Tryz.ntmps111
  go_wp2
  go_ret
  exact ⟨rfl, rfl⟩
 ·rw [if_neg h]; have hd : Int.tdiv (n - 1) 48 = (n - 1) / 48 := Int.tdiv_eq_ediv_of_nonneg (by omega)
  go_enter Tryz.func111, Tryz.ntmps111
  go_wp2
  go_ret
  exact ⟨rfl, rfl⟩
theorem room_at {w : World} {lg d f n at_ num ses : Nat} {br : Bool} (hb : Blk w lg 160 (logCells d f n at_ num ses br)) (hn : n <= 65536) (ha : at_ <= n) :
  Calls Tryz.prog 112 #[.pointer (some ⟨lg, 0, none⟩)] w fun e w' => e = .returned (.int .i64 ((n - at_ : Nat) : Int)) /\ ∃ m, w' = w.drewN m := by
 have c2 := hb.at_ (i := 2) rfl; have c3 := hb.at_ (i := 3) rfl; clear hb
 go_enter Tryz.func112, Tryz.ntmps112
 go_wp2
 go_quiet (fail)
 go_wp2
 go_ret
 refine ⟨?_, _, rfl⟩
 show Ending.returned (.int .i64 ((n : Int) - (at_ : Int))) = _
 rw [show (n : Int) - (at_ : Int) = ((n - at_ : Nat) : Int) by omega]
theorem reset_at {w : World} {lg d f n at_ num ses : Nat} {br : Bool} (hb : Blk w lg 160 (logCells d f n at_ num ses br)) :
  Calls Tryz.prog 130 #[.pointer (some ⟨lg, 0, none⟩)] w fun e w' => e = .returned (.tuple #[]) /\ Blk w' lg 160 (logCells d f n 0 num ses br) /\ Fr [lg] w w' := by
 have c3 := hb.at_ (i := 3) rfl; have cf := hb.free; have HB := lh hb; clear hb
 go_enter Tryz.func130, Tryz.ntmps130
 go_wp2
 go_end0
 exact ⟨rfl, HB.out.set_ 3 _, (Fr.refl _ _).setCell (.inl (by simp)) _⟩
section
variable {P : Program} {o : Oper} {a : Act} {w : World} {K : Act -> World -> Prop} {Q : Exit -> Act -> World -> Prop}
theorem wp_run_same {v : Value} (hrun : (execOp a.eval o).run P w = .ok (.value v) w) (h : K (a.put o.dst v) w) : Oper.wp P o a w K Q := by
 unfold Oper.wp; rw [hrun]; exact h
theorem wp_alloc_z (t : TypeId) (ho : o.op = .alloc t) (z : Value) (zs : Array Value) (hz : (P.info? t).map (·.zero) = some (some z)) (hzs : z.cells = zs)
  (h : K (a.put o.dst (.pointer (some ⟨w.heap.size, 0, none⟩))) (w.alloc (.cells zs t))) : Oper.wp P o a w K Q := by
 subst hzs
 cases hq : P.info? t with
 | none => simp [hq] at hz
 | some i =>
  have hz' : i.zero = some z := by simpa [hq] using hz
  unfold Oper.wp
  simp [execOp, ho, Instr.alloc, zeroValue, typeInfo, hq, hz', newVar, newRow, Result.andThen]
  exact h
theorem wp_alloc_blk (t : TypeId) (ho : o.op = .alloc t) (z : Value) (zs : List Value) (hz : (P.info? t).map (·.zero) = some (some z)) (hzs : z.cells = zs.toArray)
  (h : ∀ w1, Blk w1 w.heap.size t zs -> Fr [] w w1 -> w1.heap.size = w.heap.size + 1 -> K (a.put o.dst (.pointer (some ⟨w.heap.size, 0, none⟩))) w1) : Oper.wp P o a w K Q :=
 wp_alloc_z t ho z _ hz hzs (h _ (Blk.new w t zs) ((Fr.refl [] w).alloc _) (by simp))
theorem wp_store_blk {g : Nat} {t' : TypeId} {old : List Value} (t : TypeId) (x y : Operand) (ho : o.op = .store t x y) (cs : List Value)
  (hx : a.eval x = .pointer (some ⟨g, 0, none⟩)) (hy : a.eval y = .agg cs.toArray) (hb : Blk w g t' old)
  (hi : (P.info? t).map (·.size) = some cs.length) (hl : old.length = cs.length) (h1 : ∀ v ∈ cs, v.oneCell' = true)
  (h : ∀ w1, Blk w1 g t' cs -> Fr [g] w w1 -> w1.heap.size = w.heap.size -> K (a.put o.dst undef) w1) : Oper.wp P o a w K Q := by
 have hrun := run_storeVar_row (P := P) w g t' t old.toArray cs.toArray hb (by simpa using hi) (by simpa using hl) (all_oneCell_toArray h1); unfold Oper.wp
 simp [execOp, ho, hx, hy, Instr.storeAt, Instr.sureAddr, hrun, Result.andThen]
 exact h _ (hb.row_ cs) ((Fr.refl [g] w).setRow (.inl (by simp)) _) (by simp [World.setRow])
theorem run_build_cell {t e : TypeId} {i : TypeInfo} {z : Value} (ht : P.underlying t = some (.slice e)) (hi : P.info? e = some i) (hz : i.zero = some z) (hs : i.size = 1) (hzs : z.cells.size = 1) (v : Value) (hv : v.cells = #[v]) :
  (Instr.buildSlice t 1 #[(0, v)]).run P w = .ok (.slice (some ⟨w.heap.size, 0, none⟩) 1 1) (w.alloc (.cells #[v] e)) := by
 obtain ⟨z0, hz0⟩ : ∃ z0, z.cells = #[z0] := by
  match hc : z.cells, hzs with
  | ⟨[z0]⟩, _ => exact ⟨z0, rfl⟩
 simp [Instr.buildSlice, run_underlying ht, sizeOf, typeInfo, hi, hs, zeroValue, hz, newRow, hz0, Instr.fill, hv, Array.range, Array.zipIdx]
 have e1 : ∀ (n : Nat) (_ : n = 1) (f : Fin n -> Value), (Array.ofFn f).setIfInBounds 0 v = #[v] := fun n hn f => by
  subst hn
  apply Array.ext
  ·simp
  ·intro j hj hj'; have : j = 0 := by simp at hj'; omega
   subst this
   simp
 exact congrArg (fun c => w.alloc (Obj.cells c e)) (e1 _ (by simp [hs]) _)
theorem wp_build_cell {t e : TypeId} (x : Operand) (ho : o.op = .buildSlice t 1 #[(0, x)]) {i : TypeInfo} {z : Value} (ht : P.underlying t = some (.slice e)) (hi : P.info? e = some i) (hz : i.zero = some z) (hs : i.size = 1) (hzs : z.cells.size = 1) (v : Value) (hx : a.eval x = v) (hv : v.cells = #[v]) (H : Nat) (hH : w.heap.size = H)
  (h : ∀ w1, Blk w1 H e [v] -> Fr [] w w1 -> w1.heap.size = H + 1 -> K (a.put o.dst (.slice (some ⟨H, 0, none⟩) 1 1)) w1) : Oper.wp P o a w K Q := by
 subst hH; have hrun := run_build_cell (P := P) (w := w) ht hi hz hs hzs v hv; refine wp_run_value (v := .slice (some ⟨w.heap.size, 0, none⟩) 1 1) (w' := w.alloc (.cells #[v] e)) ?_ (h _ (Blk.new w e [v]) ((Fr.refl [] w).alloc _) (by simp))
 simp [execOp, ho, hx, hrun, Result.andThen]
theorem wp_append_fr {t : TypeId} (s x : Operand) (ho : o.op = .call { callee := .builtin .append, args := #[s, x], argTypes := #[t, t] })
  (e : TypeId) {i : TypeInfo} {z : Value} (size bytes : Nat) (ht : P.underlying t = some (.slice e)) (hi : P.info? e = some i) (hz : i.zero = some z) (hsize : i.size = size) (hby : i.bytes = bytes) (hzs : z.cells.size = size) (h0 : 0 < size)
  (v : Value) (n : Nat) (xs : List Value) (hs : a.eval s = v) (hown : w.ownsRow 0 e size v n xs)
  (ad : Addr) (m c : Nat) (news : List Value) (hx : a.eval x = .slice (some ad) m c) (hl : news.length = m * size) (hnews : ∀ j u, news[j]? = some u -> w.cell? (ad.add j) = some u) (h1 : ∀ u ∈ news, u.oneCell' = true)
  (hm : 0 < m) (h63 : n + m <= maxLen) (hbytes : (n + m) * bytes <= 140737488355328) (H : Nat) (hH : w.heap.size = H)
  (h : ∀ g cap w', w'.ownsRow 0 e size (.slice (some ⟨g, 0, none⟩) (n + m) cap) (n + m) (xs ++ news) -> Fr v.ownBlock.toList w w' -> (v.ownBlock = some g ∨ g = H) -> g < w'.heap.size -> K (a.put o.dst (.slice (some ⟨g, 0, none⟩) (n + m) cap)) w') : Oper.wp P o a w K Q := by
 refine wp_append_lies _ s x t ho 0 e i z size bytes ht hi hz hsize hby hzs h0 v n xs hs hown ad m c news hx hl hnews h1 hm h63 hbytes (Nat.zero_le _) H hH ?_; intro g cap w' h2 h3 h4 h5; exact h g cap w' h2 ((Fr.refl _ w).grown h3 (fun g hg => .inl (by simp [hg]))) h4 h5
theorem exec_slice {t : TypeId} {x : Operand} {lo hi : Option Operand} (ho : o.op = .slice t x lo hi none) {vx v : Value} {vlo vhi : Option Value} (hx : a.eval x = vx) (hlo : lo.map a.eval = vlo) (hhi : hi.map a.eval = vhi)
  (h : (Instr.sliceAt t vx vlo vhi none).run P w = .ok v w) : (execOp a.eval o).run P w = .ok (.value v) w := by
 subst hx hlo hhi
 simp [execOp, ho, h, Result.andThen]
theorem slice_run {t e : TypeId} (ht : P.underlying t = some (.slice e)) (he : (P.info? e).map (·.size) = some 1) (A : Option Addr) (n c lo hi : Nat) (k1 k2 : IntKind) (h1 : lo <= hi) (h2 : hi <= c) :
  ∀ w, (Instr.sliceAt t (.slice A n c) (some (.int k1 lo)) (some (.int k2 hi)) none).run P w = .ok (.slice (if c = lo then A else A.map (·.add lo)) (hi - lo) (c - lo)) w := by
 intro w; have hel : P.elem t = e := by simp [Program.elem, ht]
 obtain ⟨i, hi1, hi2⟩ := Option.map_eq_some_iff.1 he; have h5 : ∀ w, (sizeOf e).run P w = .ok 1 w := fun w => by simp [sizeOf, typeInfo, go_sem, hi1, hi2]
 rw [run_sliceAt_slice (h := by rw [hel]; exact ht), run_slice_lh (ht := by rw [hel]; exact ht) (h0 := by omega) (h1 := by omega) (h2 := by omega), hel, h5]
 simp [Result.andThen, sliced]
theorem slice_run_from {t e : TypeId} (ht : P.underlying t = some (.slice e)) (he : (P.info? e).map (·.size) = some 1) (A : Option Addr) (n c lo : Nat) (k1 : IntKind) (h1 : lo <= n) :
  ∀ w, (Instr.sliceAt t (.slice A n c) (some (.int k1 lo)) none none).run P w = .ok (.slice (if c = lo then A else A.map (·.add lo)) (n - lo) (c - lo)) w := by
 intro w; have hel : P.elem t = e := by simp [Program.elem, ht]
 obtain ⟨i, hi1, hi2⟩ := Option.map_eq_some_iff.1 he; have h5 : ∀ w, (sizeOf e).run P w = .ok 1 w := fun w => by simp [sizeOf, typeInfo, go_sem, hi1, hi2]
 rw [run_sliceAt_slice (h := by rw [hel]; exact ht), run_slice_l (ht := by rw [hel]; exact ht) (h0 := by omega) (h1 := by omega), hel, h5]
 simp [Result.andThen, sliced]
end
theorem sub_at {α : Type} (l : List α) (lo m : Nat) (hm : lo + m <= l.length) : ((l.drop lo).take m).length = m := by rw [List.length_take, List.length_drop]; omega
theorem BytesAt.sub {w : World} {A : Option Addr} {n c g : Nat} {bs : List UInt8} (h : BytesAt w (.slice A n c) bs g) (lo m : Nat) (hm : lo + m <= bs.length) :
  BytesAt w (.slice (if c = lo then A else A.map (·.add lo)) m (c - lo)) ((bs.drop lo).take m) g := by
 obtain ⟨A', c', off, hv, hc, hb⟩ := h; injection hv with h1 h2 h3; subst h1 h3; have hl := sub_at bs lo m hm; refine ⟨_, _, off + lo, by rw [hl], by rw [hl]; omega, fun h0 => ?_⟩; rw [hl] at h0; obtain ⟨rfl, hcell⟩ := hb (by omega); rw [if_neg (by omega)]; refine ⟨by simp [Addr.add_mid], fun j u hu => ?_⟩; rw [Nat.add_assoc]; refine hcell _ u ?_; rw [bcells_take, bcells_drop, List.getElem?_take] at hu
 split at hu
 ·rw [List.getElem?_drop] at hu; exact hu
 ·cases hu
theorem BytesAt.from_ {w : World} {A : Option Addr} {n c g : Nat} {bs : List UInt8} (h : BytesAt w (.slice A n c) bs g) (lo : Nat) (hm : lo <= bs.length) :
  BytesAt w (.slice (if c = lo then A else A.map (·.add lo)) (bs.length - lo) (c - lo)) (bs.drop lo) g := by
 have := h.sub lo (bs.length - lo) (by omega)
 rwa [List.take_of_length_le (by simp)] at this
section
variable {P : Program} {ops : Array Oper} {Q : Exit -> Act -> World -> Prop}
theorem rn {rest : List Oper} {o : Oper} {v : Value} {a : Act} {w : World} (hg : o.guard = none) (hr : (execOp a.eval o).run P w = .ok (.value v) w) (h : wpList P ops Q rest (a.put o.dst v) w) : wpList P ops Q (o :: rest) a w :=
 wpList_plain hg fun _ hK => wp_run_same (v := v) hr (hK _ _ h)
end
def layJ (D : DM) (pos : Nat) : List (List UInt8) -> DM × Int
 | [] => (D.sync, D.syncE)
 | s :: ss => if D.writeE (pos : Int) s ≠ 0 then (D.write (pos : Int) s, D.writeE (pos : Int) s) else layJ (D.write (pos : Int) s) (pos + 1) ss
def sectorsOf (ses num : Nat) (b : List UInt8) : List (List UInt8) := (List.range (needOf b.length)).map fun k => writtenOf (pieceAt ses num b k)
theorem sectorsOf_len (ses num : Nat) (b : List UInt8) : (sectorsOf ses num b).length = needOf b.length := by simp [sectorsOf]
theorem sectorsOf_at (ses num : Nat) (b : List UInt8) {k : Nat} (hk : k < needOf b.length) : (sectorsOf ses num b).drop k = writtenOf (pieceAt ses num b k) :: (sectorsOf ses num b).drop (k + 1) := by
 rw [List.drop_eq_getElem_cons (by rw [sectorsOf_len]; exact hk)]
 simp [sectorsOf]
theorem enter_written (vs : Array Value) (w : World) : (callFunc 128 vs).run Tryz.prog w = .ok (.enter 128 vs) w := by kernel_rfl
theorem enter_dwrite7 (vs : Array Value) (w : World) : (callFunc 127 vs).run Tryz.prog w = .ok (.enter 127 vs) w := by kernel_rfl
def LayRel (w : World) (d f at_ num ses : Nat) (b : List UInt8) (D : DM) (fp : List Nat) (i : Value) (wr : World) : Prop :=
 ∃ (k : Nat) (Dk : DM), k <= needOf b.length /\ i = .int .i64 k /\ layJ D (f + at_) (sectorsOf ses num b) = layJ Dk (f + at_ + k) ((sectorsOf ses num b).drop k) /\ Dk.done <= D.done + k /\ Dk.S.length = D.S.length /\ DStep w wr d Dk fp
theorem need_lo {m k : Nat} (h : k < needOf m) : 48 * k <= m := by
 unfold needOf at h
 split at h <;> omega
theorem DiskAt.mem {w : World} {d : Nat} {D : DM} {fp : List Nat} (h : DiskAt w d D fp) : d ∈ fp := by
 obtain ⟨bb, lv, rfl, _⟩ := h
 simp [dfp]
theorem DStep.comp {w w1 w2 : World} {d : Nat} {D2 : DM} {fp fp1 : List Nat} (hf : Fr fp w w1) (hn : ∀ k ∈ fp1, k ∈ fp ∨ w.heap.size <= k) (h2 : DStep w1 w2 d D2 fp1) : DStep w w2 d D2 fp := by
 obtain ⟨fp2, h, hf2, hn2⟩ := h2; have hz := hf.size; refine ⟨fp2, h, hf.trans hf2 (fun x hx => hn x hx), fun x hx => ?_⟩; rcases hn2 x hx with h1 | h1
 ·exact hn x h1
 ·right; omega
theorem layJ_stop {D : DM} {pos : Nat} {s : List UInt8} {ss : List (List UInt8)} (h : D.writeE (pos : Int) s ≠ 0) : layJ D pos (s :: ss) = (D.write (pos : Int) s, D.writeE (pos : Int) s) := by
 show (if _ then _ else _) = _
 rw [if_pos h]
theorem layJ_on {D : DM} {pos : Nat} {s : List UInt8} {ss : List (List UInt8)} (h : D.writeE (pos : Int) s = 0) : layJ D pos (s :: ss) = layJ (D.write (pos : Int) s) (pos + 1) ss := by
 show (if _ then _ else _) = _
 rw [if_neg (by simp [h])]
theorem write_S (D : DM) (k : Int) (b : List UInt8) : (D.write k b).S = D.S := by
 unfold DM.write
 split
 ·rfl
 ·split
  ·rfl
  ·split <;> rfl
theorem write_done (D : DM) (k : Int) (b : List UInt8) : (D.write k b).done <= D.done + 1 := by
 unfold DM.write
 split
 ·omega
 ·split
  ·omega
  ·split
   ·show D.done <= _; omega
   ·exact Nat.le_refl _
theorem lay_at {w : World} {lg d f n at_ num ses gb : Nat} {br : Bool} {v : Value} {b : List UInt8} {D : DM} {fp : List Nat} (hb : Blk w lg 160 (logCells d f n at_ num ses br)) (hd : DiskAt w d D fp) (hlg : lg ∉ fp) (hv : BytesAt w v b gb) (hgb : gb ∉ fp) (_ : gb < w.heap.size) (hm : needOf b.length <= 65535)
  (hat : at_ + needOf b.length <= n) (hfit : f + n <= D.S.length) (hnum : num < 4294967296) (hses : ses < 4294967296) (hdone : D.done + 65536 < 1099511627776) :
  Calls Tryz.prog 113 #[.pointer (some ⟨lg, 0, none⟩), v, .int .i64 (needOf b.length : Int)] w fun e w' => e = .returned (.int .i64 (layJ D (f + at_) (sectorsOf ses num b)).2) /\ DStep w w' d (layJ D (f + at_) (sectorsOf ses num b)).1 fp := by
 have HB := lh hb; have HD := lh hd; have HV := lh hv; have hmost := (DiskAt.ok hd).most; clear hb hd hv; obtain ⟨A, c, off, rfl, hbc, hcs⟩ := HV.out; have HCS := lh hcs; clear hcs
 go_enter Tryz.func113, Tryz.ntmps113
 go_wp2
 go_loopw [11] (LayRel w d f at_ num ses b D fp) (fun i _ => needOf b.length - (intOf i).toNat)
 case atStart => exact ⟨0, D, Nat.zero_le _, rfl, rfl, by omega, rfl, fp, HD.out, Fr.refl _ _, fun _ h => .inl h⟩
 case round =>
  obtain ⟨k, Dk, hk, rfl, hlay, hdk, hsk, hst⟩ := hrel; have HLAY := lh hlay; have HST := lh hst; clear hlay hst
  by_cases hkn : k < needOf b.length
  ·obtain ⟨fpk, hdk', hfk, hfpk⟩ := HST.out; have hbk := HB.out.fr hfk hlg; have hll := hbk.lt; have l0 := hbk.at_ (i := 0) rfl; have l1 := hbk.at_ (i := 1) rfl; have l3 := hbk.at_ (i := 3) rfl; have l4 := hbk.at_ (i := 4) rfl; have l5 := hbk.at_ (i := 5) rfl; have HBK := lh hbk; have HDK := lh hdk'; have HFK := lh hfk; have HFPK := lh hfpk; clear hbk hdk' hfk hfpk; have hq : ((pieceAt ses num b k).b).length = min 48 (b.length - 48 * k) := by simp [pieceAt]
   have hk48 : 48 * k <= b.length := need_lo hkn; obtain ⟨q, hqq⟩ := nm (((pieceAt ses num b k).b).length); rw [<- hqq] at hq; have HQQ := lh hqq; clear hqq; have hq48 : 48 * k + q <= b.length /\ q <= 48 := by omega
   have y1 : (if 48 * ((k : Int) + 1) < (b.length : Int) then 48 * ((k : Int) + 1) else (b.length : Int)) = ((48 * k + q : Nat) : Int) := by split <;> omega
   have x5 := wi k (by omega)
   have x6 : IntKind.i64.wrap (48 * ((k : Int) + 1)) = 48 * ((k : Int) + 1) := by rw [IntKind.wrap_i64]; omega
   have x7 : IntKind.i64.wrap (48 * (k : Int)) = ((48 * k : Nat) : Int) := by rw [IntKind.wrap_i64]; omega
   have hsl := slice_run (P := Tryz.prog) (t := 23) Tryz.underlying23 (by kernel_rfl) A b.length c (48 * k) (48 * k + q) .i64 .i64 (by omega) (by omega); have hsb := (HV.out.fr HFK.out hgb).sub (48 * k) q (by omega)
   have hqe : (b.drop (48 * k)).take q = (pieceAt ses num b k).b := by
    unfold pieceAt; rw [hq, <- List.length_drop, List.take_eq_take_min]
    simp
   rw [Nat.add_sub_cancel_left] at hsl; rw [hqe] at hsb; generalize hsvv : (if c = 48 * k then A else A.map (·.add (48 * k))) = sa at *; generalize hcc : c - 48 * k = cc at *; have HSL := lh hsl; have HSB := lh hsb; have HQ := lh hq; clear hsl hsb hq hqe hsvv hcc; go_wp2_with fail; refine wp_region_K (fun W => W.cell? ⟨lg, 5, none⟩ = some (.int .u32 (ses : Int)) /\ W.cell? ⟨lg, 4, none⟩ = some (.int .u32 (num : Int))) [0, 1, 2, 3, 4, 5, 6, 7, 8, 9, 10, 11, 12, 13, 14, 15, 16, 17, 18, 19, 20, 21] (by kernel_rfl) ?_; refine tks [0, 1, 2, 3, 4, 5, 6, 7, 8, 9, 10, 11, 12, 13, 14, 15, 16, 17, 18, 19] ?_
   iterate 20 (refine tk rfl rfl ⟨l5, l4⟩ rfl (fun _ hW => by (obtain ⟨c5, c4⟩ := hW; go_simp) <;> with_reducible rfl) ?_; simp only [nrm])
   refine tke ?_; refine tv 20 (.slice sa q cc) rfl rfl ⟨l5, l4⟩ (.inl ⟨rfl, fun W _ => exec_slice rfl rfl rfl rfl (HSL.out W)⟩) ?_; simp only [nrm]; refine tks [21] ?_; refine tk rfl rfl ⟨l5, l4⟩ rfl (fun _ hW => by (obtain ⟨c5, c4⟩ := hW; go_simp) <;> with_reducible rfl) ?_; simp only [nrm]; refine tke ?_; refine sp 22 rfl rfl rfl fun K hK => ?_; refine wp_alloc_blk 190 rfl (.agg noAgg) noAgg.toList (by kernel_rfl) rfl fun w4 hB4 hF4 _ => hK _ _ (fun _ => ⟨(HBK.out.fr (Fr.drew (Fr.refl [] wr) |>.trans hF4 (by simp)) (by simp)).at_ rfl, (HBK.out.fr (Fr.drew (Fr.refl [] wr) |>.trans hF4 (by simp)) (by simp)).at_ rfl⟩) ?_; simp only [nrm]; refine wpAnyK_step (j := 23) none rfl rfl (by kernel_rfl) rfl fun K hK => ?_; refine wp_store_blk 190 (.tmp 8) (.tmp 35) rfl (pcCells (pieceAt ses num b k) (.slice sa q cc)) rfl rfl hB4 (by kernel_rfl) rfl ?one fun w5 hB5 hF5 _ => hK _ _ (fun h => absurd h (by decide +kernel)) ?_
   case one => intro u hu; simp only [pcCells, List.mem_cons, List.not_mem_nil, or_false] at hu; rcases hu with rfl | rfl | rfl | rfl | rfl <;> rfl
   simp only [Act.put]; refine wd ?_ _; have hF5' : Fr [] wr w5 := ((Fr.refl [] wr).drew.trans hF4 (by simp)).trans hF5 (fun x hx => .inr (by simp at hx; rw [hx]; exact Nat.le_refl _)); have HB5 : Hid (Blk w5 wr.heap.size 190 (pcCells (pieceAt ses num b k) (.slice sa q cc))) := lh hB5; have HF5 := lh hF5'; clear hB5 hF5 hF5' hB4 hF4 l5 l4 hK; have hb5 := HBK.out.fr HF5.out (by simp); have m0 := hb5.at_ (i := 0) rfl; have m1 := hb5.at_ (i := 1) rfl; have m3 := hb5.at_ (i := 3) rfl; clear hb5; go_wp2_with fail; have z1 : IntKind.i64.wrap ((f : Int) + (at_ : Int)) = (f : Int) + (at_ : Int) := by rw [IntKind.wrap_i64]; omega
   have z2 : IntKind.i64.wrap ((f : Int) + (at_ : Int) + (k : Int)) = (f : Int) + (at_ : Int) + (k : Int) := by rw [IntKind.wrap_i64]; omega
   refine wp_region_K (fun W => W.cell? ⟨lg, 0, none⟩ = some (.pointer (some ⟨d, 0, none⟩)) /\ W.cell? ⟨lg, 1, none⟩ = some (.int .i64 (f : Int)) /\ W.cell? ⟨lg, 3, none⟩ = some (.int .i64 (at_ : Int)) /\ Blk W wr.heap.size 190 (pcCells (pieceAt ses num b k) (.slice sa q cc))) [0, 1, 2, 3, 4, 5, 6, 7, 8, 9, 10, 11, 12, 13, 14, 15] (by kernel_rfl) ?_; refine tks [0, 1, 2, 3, 4, 5, 6, 7, 8, 9, 10, 11, 12, 13, 14] ?_
   iterate 15 (refine tk rfl rfl ⟨m0, m1, m3, HB5.out⟩ rfl (fun _ hW => by (obtain ⟨c0, c1, c3, _⟩ := hW; go_simp) <;> with_reducible rfl) ?_; simp only [nrm])
   refine tke ?_; refine tv 15 (.agg (pcCells (pieceAt ses num b k) (.slice sa q cc)).toArray) rfl rfl ⟨m0, m1, m3, HB5.out⟩ (yieldsIf_load_mid rfl 190 (.tmp 8) rfl wr.heap.size 0 rfl (pcCells (pieceAt ses num b k) (.slice sa q cc)) _ (fun W hW j v hj => by rw [Nat.zero_add]; exact hW.2.2.2.at_ hj) Tryz.underlying190 rfl (by kernel_rfl)) ?_; simp only [nrm]; refine sp 16 rfl rfl rfl fun K hK => ?_; have hsb5 : BytesAt w5.drew (.slice sa q cc) (pieceAt ses num b k).b gb := HSB.out.fr HF5.out.drew (by simp); refine wp_call_f (l := [.tmp 51]) rfl [.agg (pcCells (pieceAt ses num b k) (.slice sa q cc)).toArray] rfl (enter_written _) ((written_any (p := pieceAt ses num b k) hses hnum (by show needOf b.length < 65536; omega) (by show k < 65536; omega) (by rw [<- HQQ.out]; omega) hsb5).mono ?_); rintro e w6 ⟨v6, g6, rfl, hb6, hg6, hf6⟩; have hf6' : Fr [] wr w6 := HF5.out.drew.trans hf6 (by simp); have hb6' := HBK.out.fr hf6' (by simp); have hp6 := HB5.out.fr ((Fr.refl [] w5).drew.trans hf6 (by simp)) (by simp); refine ⟨_, rfl, hK _ _ (fun _ => ⟨hb6'.at_ rfl, hb6'.at_ rfl, hb6'.at_ rfl, hp6⟩) ?_⟩; simp only [nrm]; refine sp 17 rfl rfl rfl fun K hK => ?_; have hd6 := HDK.out.fr hf6' (by simp); have hdl := HDK.out.lt d HDK.out.mem; have hz5 := HF5.out.size; refine wp_call_f (l := [.tmp 39, .tmp 50, .tmp 52]) rfl [.pointer (some ⟨d, 0, none⟩), .int .i64 ((f : Int) + (at_ : Int) + (k : Int)), v6] rfl (enter_dwrite7 _) ((write_at hd6 _ _ _ _ hb6 (by have : w5.heap.size <= g6 := hg6; omega) (by omega)).mono ?_); rintro e w7 ⟨rfl, hs7⟩; have hf7 : Fr fpk w6 w7 := by obtain ⟨_, _, h, _⟩ := hs7; exact h
   have hb7 := hb6'.fr hf7 (fun hm => by rcases HFPK.out _ hm with h | h; exact hlg h; exact absurd HB.out.lt (by omega)); have hp7 := hp6.fr hf7 (fun hm => absurd (HDK.out.lt _ hm) (by omega)); refine ⟨_, rfl, hK _ _ (fun _ => ⟨hb7.at_ rfl, hb7.at_ rfl, hb7.at_ rfl, hp7⟩) ?_⟩; simp only [nrm]; refine sp 18 rfl rfl rfl fun K hK => ?_; refine wp_run_same (v := ?aq2_18) ?yq2_18 (hK _ _ (fun h => absurd h (by decide +kernel)) ?_)
   case yq2_18 => go_simp <;> with_reducible rfl
   simp only [nrm]; refine wd ?_ _; rw [show (f : Int) + (at_ : Int) + (k : Int) = ((f + at_ + k : Nat) : Int) by omega] at hs7 ⊢
   have hs7' : DStep w w7 d (Dk.write ((f + at_ + k : Nat) : Int) (writtenOf (pieceAt ses num b k))) fp := by
    refine DStep.comp (HFK.out.trans hf6' (by simp)) ?_ hs7; exact HFPK.out
   have hS8 := write_S Dk ((f + at_ + k : Nat) : Int) (writtenOf (pieceAt ses num b k)); have hD8 := write_done Dk ((f + at_ + k : Nat) : Int) (writtenOf (pieceAt ses num b k)); have HS7 := lh hs7'; have HS8 := lh hS8; clear hf7 hb7 hp7 hs7 hs7' hS8 hK hd6 hb6 hb6' hp6 hf6 hf6' hsb5 m0 m1 m3 x5 x6 x7 z1 z2; rw [sectorsOf_at ses num b hkn] at HLAY
   by_cases he : Dk.writeE ((f + at_ + k : Nat) : Int) (writtenOf (pieceAt ses num b k)) = 0
   ·rw [he]; rw [layJ_on he] at HLAY; generalize Dk.write ((f + at_ + k : Nat) : Int) (writtenOf (pieceAt ses num b k)) = D8 at *; clear he
    go_wp2
    go_roundw
    case rel => exact ⟨k + 1, D8, by omega, rfl, HLAY.out, by omega, by rw [HS8.out]; exact hsk, HS7.out⟩
    case measure => simp [intOf]; omega
   ·rw [layJ_stop he] at HLAY; generalize Dk.writeE ((f + at_ + k : Nat) : Int) (writtenOf (pieceAt ses num b k)) = e8 at *; generalize Dk.write ((f + at_ + k : Nat) : Int) (writtenOf (pieceAt ses num b k)) = D8 at *; have hne : (e8 != 0) = true := by rw [bne_iff_ne]; exact he
    clear he
    go_wp2
    go_ret
    rw [HLAY.out]; exact ⟨rfl, HS7.out⟩
  ·have hkk : k = needOf b.length := by omega
   rw [hkk, List.drop_of_length_le (by rw [sectorsOf_len]; exact Nat.le_refl _)] at HLAY; obtain ⟨fpk, hdk', hfk, hfpk⟩ := HST.out; have hbk := HB.out.fr hfk hlg; have l0 := hbk.at_ (i := 0) rfl; have HDK := lh hdk'; have HFK := lh hfk; have HFPK := lh hfpk; have HKK := lh hkk; clear hbk hdk' hfk hfpk hkk; go_wp2_with fail; refine (sync_at HDK.out (by omega)).mono ?_; rintro e w7 ⟨rfl, hs7⟩; have HS7 := lh hs7; clear hs7
   go_wp2
   go_ret
   rw [HLAY.out]; exact ⟨rfl, DStep.comp HFK.out HFPK.out HS7.out⟩
structure LG where
 f : Nat
 n : Nat
 at_ : Nat
 num : Nat
 ses : Nat
 br : Bool
def LG.cells (l : LG) (d : Nat) : List Value := logCells d l.f l.n l.at_ l.num l.ses l.br
def appendE (D : DM) (l : LG) (b : List UInt8) : Int :=
 if l.br then 10 else if 65535 < needOf b.length then 4 else if l.n - l.at_ < needOf b.length then 5 else (layJ D (l.f + l.at_) (sectorsOf l.ses l.num b)).2
def appendD (D : DM) (l : LG) (b : List UInt8) : DM :=
 if l.br then D else if 65535 < needOf b.length then D else if l.n - l.at_ < needOf b.length then D else (layJ D (l.f + l.at_) (sectorsOf l.ses l.num b)).1
def appendL (D : DM) (l : LG) (b : List UInt8) : LG :=
 if l.br then l else if 65535 < needOf b.length then l else if l.n - l.at_ < needOf b.length then l else
 if (layJ D (l.f + l.at_) (sectorsOf l.ses l.num b)).2 ≠ 0 then { l with br := true } else { l with at_ := l.at_ + needOf b.length, num := (l.num + 1) % 4294967296 }
theorem needI_nat (n : Nat) : needI (n : Int) = (needOf n : Int) := by
 unfold needI needOf
 by_cases h : n = 0
 ·subst h; rfl
 ·rw [if_neg (by omega), if_neg h]; omega
structure Jn (w : World) (lg d : Nat) (l : LG) (D : DM) (fp : List Nat) : Prop where
 log : Blk w lg 160 (l.cells d)
 disk : DiskAt w d D fp
 apart : lg ∉ fp
 at_ : l.at_ <= l.n
 fit : l.f + l.n <= D.S.length
 num : l.num < 4294967296
 ses : l.ses < 4294967296
def JStep (w w' : World) (lg d : Nat) (l : LG) (D : DM) (fp : List Nat) : Prop := ∃ fp', Jn w' lg d l D fp' /\ Fr (lg :: fp) w w' /\ ∀ k ∈ fp', k ∈ fp ∨ w.heap.size <= k
theorem JStep.same {w : World} {lg d : Nat} {l : LG} {D : DM} {fp : List Nat} (h : Jn w lg d l D fp) : JStep w w lg d l D fp := ⟨fp, h, Fr.refl _ _, fun _ hk => .inl hk⟩
theorem Jn.fr {S : List Nat} {w w' : World} {lg d : Nat} {l : LG} {D : DM} {fp : List Nat} (h : Jn w lg d l D fp) (hf : Fr S w w') (h1 : lg ∉ S) (h2 : ∀ k ∈ fp, k ∉ S) : Jn w' lg d l D fp :=
 ⟨h.log.fr hf h1, h.disk.fr hf h2, h.apart, h.at_, h.fit, h.num, h.ses⟩
theorem layJ_S (ss : List (List UInt8)) : ∀ (D : DM) (pos : Nat), (layJ D pos ss).1.S.length = D.S.length := by
 induction ss with
 | nil =>
  intro D pos
  show D.sync.S.length = _
  unfold DM.sync
  split
  ·rfl
  ·split
   ·rfl
   ·simp [layAll_len]
 | cons s ss ih =>
  intro D pos
  show (if _ then _ else _ : DM × Int).1.S.length = _
  split
  ·show (D.write (pos : Int) s).S.length = _; rw [write_S]
  ·rw [ih, write_S]
theorem layJ_done (ss : List (List UInt8)) : ∀ (D : DM) (pos : Nat), (layJ D pos ss).1.done <= D.done + ss.length + 1 := by
 induction ss with
 | nil =>
  intro D pos
  show D.sync.done <= _
  unfold DM.sync
  split
  ·omega
  ·split
   ·show D.done <= _; omega
   ·show D.done + 1 <= _; simp
 | cons s ss ih =>
  intro D pos; have h1 := write_done D (pos : Int) s
  show (if _ then _ else _ : DM × Int).1.done <= _
  rw [List.length_cons]
  split
  ·show (D.write (pos : Int) s).done <= _; omega
  ·have := ih (D.write (pos : Int) s) (pos + 1); omega
theorem append_nil (w : World) (v : Value) (A : Option Addr) (n c : Nat) (hv : v = .slice A n c) (hn : n <= 9223372036854775807) :
  Calls Tryz.prog 87 #[.pointer none, v] w fun e w' => e = .returned (.int .i64 10) /\ w = w' := by
 subst hv
 go_enter Tryz.func87, Tryz.ntmps87
 go_wp2_with fail; refine (need_any _ _ (by omega) (by omega)).mono ?_; rintro e w1 ⟨rfl, rfl⟩
 go_wp2
 go_ret
 exact ⟨rfl, rfl⟩
theorem append_at {w : World} {lg d gb : Nat} {l : LG} {D : DM} {fp : List Nat} {v : Value} {b : List UInt8} (h : Jn w lg d l D fp) (hv : BytesAt w v b gb) (hgb : gb ∉ fp) (hgw : gb < w.heap.size) (hbl : b.length <= 9223372036854775807) (hdone : D.done + 65536 < 1099511627776) :
  Calls Tryz.prog 87 #[.pointer (some ⟨lg, 0, none⟩), v] w fun e w' => e = .returned (.int .i64 (appendE D l b)) /\ JStep w w' lg d (appendL D l b) (appendD D l b) fp := by
 have H := lh h; have hat := h.at_; have hfit := h.fit; have hmost := (DiskAt.ok h.disk).most; have l0 := h.log.at_ (i := 0) rfl; have l6 := h.log.at_ (i := 6) rfl; clear h; have HV := lh hv; obtain ⟨A, c, off, rfl, hbc, hcs⟩ := hv; clear hcs; unfold appendE appendL appendD
 by_cases hbr : l.br = true
 ·rw [if_pos hbr, if_pos hbr, if_pos hbr]; rw [hbr] at l6; clear hbr
  go_enter Tryz.func87, Tryz.ntmps87
  go_wp2_with fail; refine (need_any _ _ (by omega) (by omega)).mono ?_; rintro e w1 ⟨rfl, rfl⟩
  go_wp2
  go_ret
  exact ⟨rfl, JStep.same H.out⟩
 ·have hbr' : l.br = false := by simpa using hbr
  rw [if_neg hbr, if_neg hbr, if_neg hbr]; rw [hbr'] at l6; have HBR := lh hbr'; clear hbr hbr'
  by_cases h1 : 65535 < needOf b.length
  ·rw [if_pos h1, if_pos h1, if_pos h1]
   go_enter Tryz.func87, Tryz.ntmps87
   go_wp2_with fail; refine (need_any _ _ (by omega) (by omega)).mono ?_; rintro e w1 ⟨rfl, rfl⟩; rw [needI_nat]
   go_wp2
   go_ret
   exact ⟨rfl, JStep.same H.out⟩
  ·rw [if_neg h1, if_neg h1, if_neg h1]
   by_cases h2 : l.n - l.at_ < needOf b.length
   ·rw [if_pos h2, if_pos h2, if_pos h2]
    go_enter Tryz.func87, Tryz.ntmps87
    go_wp2_with fail; refine (need_any _ _ (by omega) (by omega)).mono ?_; rintro e w1 ⟨rfl, rfl⟩; rw [needI_nat]; go_wp2_with fail; refine (room_at H.out.log (by omega) hat).mono ?_; rintro e w1 ⟨rfl, m, rfl⟩
    go_wp2
    go_ret
    exact ⟨rfl, fp, H.out.fr ((Fr.refl [] w).drewN m) (by simp) (by simp), (Fr.refl _ w).drewN m, fun _ hk => .inl hk⟩
   ·rw [if_neg h2, if_neg h2, if_neg h2]; obtain ⟨D2, e2, hr⟩ : ∃ D2 e2, layJ D (l.f + l.at_) (sectorsOf l.ses l.num b) = (D2, e2) := ⟨_, _, rfl⟩; have hS := layJ_S (sectorsOf l.ses l.num b) D (l.f + l.at_); rw [hr] at hS ⊢
    simp only at hS ⊢
    have HR := lh hr; have HS := lh hS; clear hr hS
    go_enter Tryz.func87, Tryz.ntmps87
    go_wp2_with fail; refine (need_any _ _ (by omega) (by omega)).mono ?_; rintro e w1 ⟨rfl, rfl⟩; rw [needI_nat]; go_wp2_with fail; refine (room_at H.out.log (by omega) hat).mono ?_; rintro e w1 ⟨rfl, m, rfl⟩; go_wp2_with fail; have hm := H.out.fr ((Fr.refl [] w).drewN m) (by simp) (by simp); refine (lay_at hm.log hm.disk hm.apart (HV.out.fr ((Fr.refl [] w).drewN m) (by simp)) hgb (by exact hgw) (by omega) (by omega) hfit hm.num hm.ses hdone).mono ?_; rintro e w2 ⟨rfl, fp2, hd2, hf2, hn2⟩; rw [HR.out] at hd2 ⊢
    simp only at hd2 ⊢
    have hf2' : Fr fp w w2 := ((Fr.refl fp w).drewN m).trans hf2 (fun x hx => .inl hx); have hb2 := H.out.log.fr hf2' H.out.apart; have b3 := hb2.at_ (i := 3) rfl; have b4 := hb2.at_ (i := 4) rfl; have b6 := hb2.at_ (i := 6) rfl; have bf := hb2.free
    have hap : lg ∉ fp2 := fun hm2 => by
     rcases hn2 _ hm2 with h | h
     ·exact H.out.apart h
     ·exact absurd H.out.log.lt (by simp only [World.drewN] at h; omega)
    have HB2 := lh hb2; have HD2 := lh hd2; have HF2 := lh hf2'; have HN2 := lh hn2; have HAP := lh hap; clear hb2 hd2 hf2 hf2' hn2 hm hap; have hfg : ∀ w3, Fr [lg] w2 w3 -> Fr (lg :: fp) w w3 := fun w3 h3 => (HF2.out.mono (fun x hx => .inl (List.mem_cons_of_mem _ hx))).trans h3 (fun x hx => .inl (by simp at hx; simp [hx])); have hdg : ∀ w3, Fr [lg] w2 w3 -> DiskAt w3 d D2 fp2 := fun w3 h3 => HD2.out.fr h3 (fun k hk hm2 => by simp at hm2; subst hm2; exact HAP.out hk); have HFG := lh hfg; have HDG := lh hdg; clear hfg hdg
    by_cases he : e2 = 0
    ·subst he
     go_wp2
     go_ret
     have hfin : Fr [lg] w2 ((w2.setCell ⟨lg, 3, none⟩ (.int .i64 ((l.at_ : Int) + (needOf b.length : Int)))).setCell ⟨lg, 4, none⟩ (.int .u32 (((l.num : Int) + 1) % 4294967296))) := (((Fr.refl [lg] w2).setCell (.inl (by simp)) _).setCell (.inl (by simp)) _); refine ⟨rfl, fp2, ⟨?_, HDG.out _ hfin, HAP.out, ?_, ?_, ?_, H.out.ses⟩, HFG.out _ hfin, HN2.out⟩
     ·have hx := (HB2.out.set_ 3 (.int .i64 ((l.at_ : Int) + (needOf b.length : Int)))).set_ 4 (.int .u32 (((l.num : Int) + 1) % 4294967296)); have e1 : ((l.num : Int) + 1) % 4294967296 = (((l.num + 1) % 4294967296 : Nat) : Int) := by omega
      have e2 : (l.at_ : Int) + (needOf b.length : Int) = ((l.at_ + needOf b.length : Nat) : Int) := by omega
      rw [e1, e2] at hx ⊢; exact hx
     ·show l.at_ + needOf b.length <= l.n; omega
     ·show l.f + l.n <= D2.S.length; rw [HS.out]; exact hfit
     ·show (l.num + 1) % 4294967296 < _; omega
    ·have hne : (e2 != 0) = true := by rw [bne_iff_ne]; exact he
     have HE := lh he; clear he
     go_wp2
     go_ret
     have hfin : Fr [lg] w2 (w2.setCell ⟨lg, 6, none⟩ (.bool true)) := ((Fr.refl [lg] w2).setCell (.inl (by simp)) _); refine ⟨rfl, fp2, ⟨HB2.out.set_ 6 _, HDG.out _ hfin, HAP.out, hat, ?_, H.out.num, H.out.ses⟩, HFG.out _ hfin, HN2.out⟩
     show l.f + l.n <= D2.S.length; rw [HS.out]; exact hfit
theorem pieceOf_bd {s : List UInt8} {p : Pc} (h : pieceOf s = some p) : p.st.session < 4294967296 /\ p.st.number < 4294967296 /\ p.st.count < 65536 /\ p.place < 65536 /\ p.b.length <= 48 := by
 have hb := piece_len h; unfold pieceOf at h
 split at h
 ·simp only [Option.some.injEq] at h; subst h
  have e2 : ∀ l : List UInt8, l.length <= 2 -> wordOf l < 65536 := fun l hl => by
   have h1 := wordOf_lt l; have h2 : 256 ^ l.length <= 256 ^ 2 := Nat.pow_le_pow_right (by omega) hl; have h3 : 256 ^ 2 = 65536 := by decide
   omega
  exact ⟨wordOf4_lt _ (by simp; omega), wordOf4_lt _ (by simp; omega), e2 _ (by simp; omega), e2 _ (by simp; omega), hb⟩
 ·cases h
theorem collect_len {st : Stamp} : ∀ (L : List (List UInt8)) (k : Nat) (b : List UInt8), collect st k L = some b -> b.length <= 48 * L.length
 | [], k, b, h => by simp [collect] at h; subst h; simp
 | s :: L, k, b, h => by
  simp only [collect] at h
  cases hp : pieceOf s with
  | none => rw [hp] at h; cases h
  | some q =>
   rw [hp] at h
   simp only at h
   split at h
   ·obtain ⟨c, hc, rfl⟩ := Option.map_eq_some_iff.1 h; have h1 := collect_len L (k + 1) c hc; have h2 := piece_len hp; simp only [List.length_append, List.length_cons]; omega
   ·cases h
theorem recordOf_bd {L : List (List UInt8)} {st : Stamp} {b : List UInt8} (h : recordOf L = some (st, b)) : 1 <= st.count /\ st.count <= L.length /\ st.session < 4294967296 /\ st.number < 4294967296 /\ b.length <= 48 * st.count := by
 cases L with
 | nil => simp [recordOf] at h
 | cons s L =>
  simp only [recordOf] at h
  cases hp : pieceOf s with
  | none => rw [hp] at h; cases h
  | some p =>
   rw [hp] at h
   simp only at h
   split at h
   ·cases h
   ·rename_i hc
    obtain ⟨c, hc2, he⟩ := Option.map_eq_some_iff.1 h; simp only [Prod.mk.injEq] at he; obtain ⟨rfl, rfl⟩ := he; have h1 := pieceOf_bd hp; have h2 := collect_len _ _ _ hc2; rw [List.length_take] at h2; refine ⟨by omega, by omega, h1.1, h1.2.1, ?_⟩; have : min p.st.count (s :: L).length <= p.st.count := Nat.min_le_left _ _; omega
def stops (last : Option Stamp) (st : Stamp) : Bool := match last with | none => false | some l => decide (st.number ≠ (l.number + 1) % 4294967296 ∨ st.session < l.session)
theorem recs_none {k : Nat} {last : Option Stamp} {L : List (List UInt8)} (h : recordOf L = none) : recordsOf k last L = [] := by
 cases k with
 | zero => rfl
 | succ k => simp only [recordsOf, h]
theorem recs_stop {k : Nat} {last : Option Stamp} {L : List (List UInt8)} {st : Stamp} {b : List UInt8} (h : recordOf L = some (st, b)) (hs : stops last st = true) : recordsOf k last L = [] := by
 cases k with
 | zero => rfl
 | succ k =>
  simp only [recordsOf, h]; exact if_pos hs
theorem recs_on {k : Nat} {last : Option Stamp} {L : List (List UInt8)} {st : Stamp} {b : List UInt8} (h : recordOf L = some (st, b)) (hs : stops last st = false) : recordsOf (k + 1) last L = (st, b) :: recordsOf k (some st) (L.drop st.count) := by
 simp only [recordsOf, h]; exact if_neg (fun h => absurd (hs.symm.trans h) (by decide))
def lastOf (R : List (Stamp × List UInt8)) : Option Stamp := R.getLast?.map (·.1)
theorem lastOf_snoc (R : List (Stamp × List UInt8)) (x : Stamp × List UInt8) : lastOf (R ++ [x]) = some x.1 := by simp [lastOf]
def lastCells (o : Option Stamp) : List Value := match o with | none => [.int .u32 0, .int .u32 0, .int .i64 0] | some st => [.int .u32 (st.session : Int), .int .u32 (st.number : Int), .int .i64 (st.count : Int)]
def numAfter (num0 : Nat) (o : Option Stamp) : Nat := match o with | none => num0 | some st => (st.number + 1) % 4294967296
structure RowsIn (w : World) (v : Value) (bss : List (List UInt8)) (vs : List Value) (b0 : Nat) : Prop where
 own : w.ownsRow 0 23 1 v bss.length vs
 len : vs.length = bss.length
 ge : ∀ x, v.ownBlock = some x -> b0 <= x
 row : ∀ (j : Nat) (u : Value) (bs : List UInt8), vs[j]? = some u -> bss[j]? = some bs -> ∃ g, BytesAt w u bs g /\ b0 <= g /\ g < w.heap.size /\ v.ownBlock ≠ some g
 one : ∀ u ∈ vs, u.oneCell' = true
def RowsAt (w : World) (v : Value) (bss : List (List UInt8)) (b0 : Nat) : Prop := ∃ vs, RowsIn w v bss vs b0
theorem RowsIn.fr {S : List Nat} {w w' : World} {v : Value} {bss : List (List UInt8)} {vs : List Value} {b0 : Nat} (h : RowsIn w v bss vs b0) (hf : Fr S w w') (hS : ∀ x ∈ S, x < b0 ∨ w.heap.size <= x) : RowsIn w' v bss vs b0 :=
 ⟨own_fr h.own hf (fun g hg hm => by have := h.ge g hg; have := own_lt h.own g hg; have := hS g hm; omega), h.len, h.ge, fun j u bs h1 h2 => by
  obtain ⟨g, h3, h4, h5, h6⟩ := h.row j u bs h1 h2; exact ⟨g, h3.fr hf (fun hm => by have := hS g hm; omega), h4, Nat.lt_of_lt_of_le h5 hf.size, h6⟩, h.one⟩
theorem RowsIn.nil (w : World) (b0 : Nat) : RowsIn w (.slice none 0 0) [] [] b0 := ⟨own_nil _ _ _ _, rfl, by simp [Value.ownBlock], by simp, by simp⟩
theorem RowsIn.mono {w : World} {v : Value} {bss : List (List UInt8)} {vs : List Value} {b0 b1 : Nat} (h : RowsIn w v bss vs b0) (hb : b1 <= b0) : RowsIn w v bss vs b1 :=
 ⟨h.own, h.len, fun x hx => Nat.le_trans hb (h.ge x hx), fun j u bs h1 h2 => by obtain ⟨g, h3, h4, h5⟩ := h.row j u bs h1 h2; exact ⟨g, h3, by omega, h5⟩, h.one⟩
theorem BytesAt.lt {w : World} {v : Value} {bs : List UInt8} {g b0 : Nat} (h : BytesAt w v bs g) (h0 : b0 <= g) (h1 : b0 < w.heap.size) : ∃ g', BytesAt w v bs g' /\ b0 <= g' /\ g' < w.heap.size := by
 obtain ⟨A, c, off, hv, hc, hb⟩ := h; rcases Nat.eq_zero_or_pos bs.length with hz | hz
 ·exact ⟨b0, ⟨A, c, off, hv, hc, fun h => by omega⟩, Nat.le_refl _, h1⟩
 ·obtain ⟨hA, hcell⟩ := hb hz; obtain ⟨x, xs, rfl⟩ : ∃ x xs, bs = x :: xs := by cases bs with | nil => simp at hz | cons x xs => exact ⟨x, xs, rfl⟩
  have h2 := hcell 0 (B8 x) rfl; exact ⟨g, ⟨A, c, off, hv, hc, hb⟩, h0, World.block_lt_of_cell? w _ h2⟩
theorem RowsIn.push {w w7 : World} {v : Value} {bss : List (List UInt8)} {vs : List Value} {b0 : Nat} {u : Value} {bs : List UInt8} {g g7 cap : Nat} (h : RowsIn w v bss vs b0) (hu : BytesAt w u bs g) (hb : b0 <= g) (hglt : g < w.heap.size) (hgn : v.ownBlock ≠ some g) (h1 : u.oneCell' = true)
  (ho : w7.ownsRow 0 23 1 (.slice (some ⟨g7, 0, none⟩) (bss.length + 1) cap) (bss.length + 1) (vs ++ [u])) (hf : Fr v.ownBlock.toList w w7) (hat : v.ownBlock = some g7 ∨ g7 = w.heap.size) (hH : b0 <= w.heap.size) :
  RowsIn w7 (.slice (some ⟨g7, 0, none⟩) (bss.length + 1) cap) (bss ++ [bs]) (vs ++ [u]) b0 := by
 have hn7 : ∀ g', g' < w.heap.size -> v.ownBlock ≠ some g' -> (Value.slice (some ⟨g7, 0, none⟩) (bss.length + 1) cap).ownBlock ≠ some g' := by
  intro g' h1 h2 h3; have h4 : g7 = g' := by simpa [Value.ownBlock] using h3
  rcases hat with h5 | h5
  ·exact h2 (h4 ▸ h5)
  ·omega
 refine ⟨by rw [List.length_append]; exact ho, by simp [h.len], ?_, ?_, ?_⟩
 ·intro x hx; have : g7 = x := by simpa [Value.ownBlock] using hx
  rcases hat with h5 | h5
  ·exact h.ge x (this ▸ h5)
  ·omega
 ·intro j u' bs' hj hj'; rcases Nat.lt_or_ge j bss.length with hlt | hge
  ·rw [List.getElem?_append_left (by rw [h.len]; exact hlt)] at hj; rw [List.getElem?_append_left hlt] at hj'; obtain ⟨g', h3, h4, h5, h6⟩ := h.row j u' bs' hj hj'; exact ⟨g', h3.fr hf (by simpa using h6), h4, Nat.lt_of_lt_of_le h5 hf.size, hn7 g' h5 h6⟩
  ·rw [List.getElem?_append_right (by rw [h.len]; exact hge)] at hj; rw [List.getElem?_append_right hge] at hj'
   have e1 : j - bss.length = 0 := by
    rcases Nat.eq_zero_or_pos (j - bss.length) with h | h
    ·exact h
    ·rw [List.getElem?_eq_none (by show 1 <= _; omega)] at hj'; cases hj'
   rw [h.len, e1] at hj; rw [e1] at hj'; simp only [List.getElem?_cons_zero, Option.some.injEq] at hj hj'; subst hj hj'; exact ⟨g, hu.fr hf (by simpa using hgn), hb, Nat.lt_of_lt_of_le hglt hf.size, hn7 g hglt hgn⟩
 ·intro x hx; rcases List.mem_append.1 hx with hx | hx
  ·exact h.one x hx
  ·simp at hx; subst hx; exact h1
theorem SecsAt.lt {w : World} {gl off : Nat} {gs : List Nat} {L : List (List UInt8)} (h : SecsAt w gl off gs L) : ∀ g ∈ gs, g < w.heap.size := by
 intro g hg; obtain ⟨j, hj, rfl⟩ := List.getElem_of_mem hg; have hj2 : j < L.length := by rw [<- h.len]; exact hj
 exact (h.sec j _ _ (List.getElem?_eq_getElem hj) (List.getElem?_eq_getElem hj2)).1.lt
end
end Go.Proofs.YtpjbdpepofnleaaGreat
