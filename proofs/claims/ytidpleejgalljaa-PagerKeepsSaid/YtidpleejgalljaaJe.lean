/-
  The contract of (*Log).load: all sectors of a log's part.
-/
import Derived.Test.YtidpleejgalljaaJd
namespace Go.Proofs.Ytidpleejgalljaa
open Go.RowKit

/-- The sectors of a part. -/
def DM.part (D : DM) (f n : Nat) : List (List UInt8) := (List.range n).map fun k => D.look (f + k)
theorem DM.part_len (D : DM) (f n : Nat) : (D.part f n).length = n := by simp [DM.part]
theorem DM.part_succ (D : DM) (f n : Nat) : D.part f (n + 1) = D.part f n ++ [D.look (f + n)] := by simp [DM.part, List.range_succ]
/-- A log's cells. -/
def logCells (d f n at_ num ses : Nat) (br : Bool) : List Value := [.pointer (some ⟨d, 0, none⟩), .int .i64 (f : Int), .int .i64 (n : Int), .int .i64 (at_ : Int), .int .u32 (num : Int), .int .u32 (ses : Int), .bool br]
theorem enter_read (vs : Array Value) (w : World) : (callFunc 46 vs).run Try.prog w = .ok (.enter 46 vs) w := by kernel_rfl
theorem info_sector : (Try.prog.info? 94).map (fun i => (i.zero, i.size, i.bytes)) = some (some (.slice none 0 0), 1, 24) := by kernel_rfl

def LoadRel (w : World) (D : DM) (f n : Nat) (out i : Value) (wr : World) : Prop :=
  ∃ (k : Nat) (gs : List Nat), k ≤ n ∧ i = .int .i64 k ∧ gs.length = k ∧ wr.ownsRow 0 94 1 out k (gs.map secV) ∧ (∀ x, out.ownBlock = some x → w.heap.size ≤ x) ∧ (∀ g ∈ gs, w.heap.size ≤ g) ∧
    (∀ (j g : Nat) (s : List UInt8), gs[j]? = some g → (D.part f k)[j]? = some s → SecAt wr g s) ∧ Fr [] w wr

theorem load_step {w wr w1 w3 : World} {D : DM} {f n k g g1 cap co : Nat} {A : Option Addr} {gs : List Nat} (hok : D.ok) (hfit : f + n ≤ D.S.length) (hkn : k < n) (hgl : gs.length = k) (hown : wr.ownsRow 0 94 1 (.slice A k co) k (gs.map secV)) (hge : ∀ x, (Value.slice A k co).ownBlock = some x → w.heap.size ≤ x) (hgg : ∀ g ∈ gs, w.heap.size ≤ g)
    (hsec : ∀ (j g : Nat) (s : List UInt8), gs[j]? = some g → (D.part f k)[j]? = some s → SecAt wr g s) (hf : Fr [] w wr) (hf1 : Fr [] wr w1) (hblk : Blk w1 g 5 (bcells (D.look (f + k)))) (hgw : wr.heap.size ≤ g) {X : Obj}
    (hO3 : w3.ownsRow 0 94 1 (.slice (some ⟨g1, 0, none⟩) (k + 1) cap) (k + 1) (gs.map secV ++ [secV g])) (hG3 : (w1.alloc X).grownBy w3 (Value.slice A k co).ownBlock) (hat : (Value.slice A k co).ownBlock = some g1 ∨ g1 = w1.heap.size + 1) :
    LoadRel w D f n (.slice (some ⟨g1, 0, none⟩) (k + 1) cap) (.int .i64 ((k : Int) + 1)) w3 := by
  have hs1 := hf.size; have hs2 := hf1.size
  have hown1 := own_fr hown hf1 (by simp)
  have hge1 : w.heap.size ≤ g1 := by
    rcases hat with h | h
    · exact hge g1 h
    · omega
  refine ⟨k + 1, gs ++ [g], hkn, rfl, by simp [hgl], by simpa using hO3, by simpa [Value.ownBlock] using hge1, ?_, ?_, ((hf.trans hf1 (by simp)).alloc _).grown hG3 (fun g' hg' => .inr (hge g' hg'))⟩
  · intro x hx
    rcases List.mem_append.1 hx with h | h
    · exact hgg x h
    · simp only [List.mem_singleton] at h; omega
  · intro j x s hx hs
    rw [DM.part_succ] at hs
    rcases Nat.lt_or_ge j k with hj | hj
    · rw [List.getElem?_append_left (by omega)] at hx
      rw [List.getElem?_append_left (by rw [DM.part_len]; exact hj)] at hs
      have h1 := (hsec j x s hx hs).fr hf1 (by simp)
      exact ⟨(h1.1.alloc _).grown hG3 (fun e => own_ne hown1 h1.1 (by decide) e.symm), h1.2⟩
    · rw [List.getElem?_append_right (by omega)] at hx
      rw [List.getElem?_append_right (by rw [DM.part_len]; exact hj), DM.part_len] at hs
      rw [hgl] at hx
      have hj0 : j - k = 0 := by
        rcases Nat.eq_zero_or_pos (j - k) with h | h
        · exact h
        · rw [List.getElem?_eq_none (by simp; omega)] at hx; cases hx
      rw [hj0] at hx hs
      simp only [List.getElem?_cons_zero, Option.some.injEq] at hx hs
      subst hx hs
      exact ⟨(hblk.alloc _).grown hG3 (fun e => own_ne hown1 hblk (by decide) e.symm), DM.look_len hok (by omega)⟩
theorem load_end {w wr : World} {D : DM} {f n co : Nat} {A : Option Addr} {gs : List Nat} (hgl : gs.length = n) (hown : wr.ownsRow 0 94 1 (.slice A n co) n (gs.map secV)) (hge : ∀ x, (Value.slice A n co).ownBlock = some x → w.heap.size ≤ x) (hgg : ∀ g ∈ gs, w.heap.size ≤ g)
    (hsec : ∀ (j g : Nat) (s : List UInt8), gs[j]? = some g → (D.part f n)[j]? = some s → SecAt wr g s) (hf : Fr [] w wr) :
    ∃ A' c gl gs', Ending.returned (.tuple #[.slice A n co, .int .i64 0]) = .returned (.tuple #[.slice A' n c, .int .i64 0]) ∧ n ≤ c ∧ (0 < n → A' = some ⟨gl, 0, none⟩) ∧ SecsAt wr gl 0 gs' (D.part f n) ∧ w.heap.size ≤ gl ∧ (∀ g ∈ gs', w.heap.size ≤ g) ∧ Fr [] w wr := by
  obtain ⟨_, _, hv, hnc, _⟩ := own_shape hown
  injection hv with _ _ hcc
  subst hcc
  rcases Nat.eq_zero_or_pos n with h0 | h0
  · subst h0
    have : gs = [] := List.eq_nil_of_length_eq_zero hgl
    subst this
    exact ⟨A, co, w.heap.size, [], rfl, hnc, fun h => absurd h (by omega), ⟨by simp [DM.part], by simp, by simp⟩, Nat.le_refl _, by simp, hf⟩
  · obtain ⟨gl, hA, hc⟩ := own_cell hown h0
    subst hA
    refine ⟨_, co, gl, gs, rfl, hnc, fun _ => rfl, ⟨by rw [DM.part_len, hgl], fun j g hg => ?_, hsec⟩, hge gl rfl, hgg, hf⟩
    rw [Nat.zero_add]
    exact hc j _ (by rw [List.getElem?_map, hg]; rfl)

set_option maxRecDepth 100000 in
set_option maxHeartbeats 1000000 in
theorem load_ok {w : World} {lg d f n at_ num ses : Nat} {br : Bool} {D : DM} {fp : List Nat} (hb : Blk w lg 77 (logCells d f n at_ num ses br)) (hd : DiskAt w d D fp) (hdead : D.dead = false) (hfit : f + n ≤ D.S.length) (hmax : D.S.length ≤ 65536) :
    Calls Try.prog 36 #[.pointer (some ⟨lg, 0, none⟩)] w fun e w' => ∃ A c gl gs, e = .returned (.tuple #[.slice A n c, .int .i64 0]) ∧ n ≤ c ∧ (0 < n → A = some ⟨gl, 0, none⟩) ∧ SecsAt w' gl 0 gs (D.part f n) ∧ w.heap.size ≤ gl ∧ (∀ g ∈ gs, w.heap.size ≤ g) ∧ Fr [] w w' := by
  have c2 := hb.at_ (i := 2) rfl
  have HB := Lib.hid hb; have HD := Lib.hid hd; have HDEAD := Lib.hid hdead
  clear hb hd hdead
  go_enter Try.func36, Try.ntmps36
  go_wp2
  go_loopw [4, 12] (LoadRel w D f n) (fun _ i _ => n - (intOf i).toNat)
  case atStart => exact ⟨0, [], Nat.zero_le _, rfl, rfl, own_nil _ _ _ _, by simp [Value.ownBlock], by simp, by simp, Fr.refl _ _⟩
  case round =>
    obtain ⟨k, gs, hk, rfl, hgl, hown, hge, hgg, hsec, hf⟩ := hrel
    obtain ⟨A, co, rfl, hno, _⟩ := own_shape hown
    have HGL := Lib.hid hgl; have HOWN := Lib.hid hown; have HGE := Lib.hid hge; have HGG := Lib.hid hgg; have HSEC := Lib.hid hsec; have HF := Lib.hid hf
    clear hgl hown hge hgg hsec hf
    by_cases hkn : k < n
    · have hw1 : IntKind.i64.wrap ((f : Int) + (k : Int)) = (f : Int) + (k : Int) := by rw [IntKind.wrap_i64]; omega
      have d0 := (HB.out.fr HF.out (by simp)).at_ (i := 0) rfl
      have d1 := (HB.out.fr HF.out (by simp)).at_ (i := 1) rfl
      have hdr := Lib.hid (HD.out.fr HF.out (by simp))
      go_wp2_with fail
      refine wp_region_K (fun W => W.cell? ⟨lg, 0, none⟩ = some (.pointer (some ⟨d, 0, none⟩)) ∧ W.cell? ⟨lg, 1, none⟩ = some (.int .i64 (f : Int))) [0, 1, 2, 3, 4, 5, 6, 7, 8, 9, 11, 12, 13, 14, 15] (by kernel_rfl) ?_
      refine wpAnyK_take (i := 0) (some 16) ?vl0 rfl rfl (by kernel_rfl) (fun _ _ _ h => h) ⟨d0, d1⟩ (.inl ⟨rfl, fun W hW => ?yl0⟩) ?rl0
      case yl0 => (obtain ⟨c0, c1⟩ := hW; go_simp) <;> with_reducible rfl
      simp only [Act.put, List.setIfInBounds_toArray, List.set_cons_zero, List.set_cons_succ]
      refine wpAnyK_take (i := 1) (some 17) ?vl1 rfl rfl (by kernel_rfl) (fun _ _ _ h => h) ⟨d0, d1⟩ (.inl ⟨rfl, fun W hW => ?yl1⟩) ?rl1
      case yl1 => (obtain ⟨c0, c1⟩ := hW; go_simp) <;> with_reducible rfl
      simp only [Act.put, List.setIfInBounds_toArray, List.set_cons_zero, List.set_cons_succ]
      refine wpAnyK_take (i := 2) (some 18) ?vl2 rfl rfl (by kernel_rfl) (fun _ _ _ h => h) ⟨d0, d1⟩ (.inl ⟨rfl, fun W hW => ?yl2⟩) ?rl2
      case yl2 => (obtain ⟨c0, c1⟩ := hW; go_simp) <;> with_reducible rfl
      simp only [Act.put, List.setIfInBounds_toArray, List.set_cons_zero, List.set_cons_succ]
      refine wpAnyK_take (i := 3) (some 19) ?vl3 rfl rfl (by kernel_rfl) (fun _ _ _ h => h) ⟨d0, d1⟩ (.inl ⟨rfl, fun W hW => ?yl3⟩) ?rl3
      case yl3 => (obtain ⟨c0, c1⟩ := hW; go_simp) <;> with_reducible rfl
      simp only [Act.put, List.setIfInBounds_toArray, List.set_cons_zero, List.set_cons_succ]
      refine wpAnyK_take (i := 4) (some 20) ?vl4 rfl rfl (by kernel_rfl) (fun _ _ _ h => h) ⟨d0, d1⟩ (.inl ⟨rfl, fun W hW => ?yl4⟩) ?rl4
      case yl4 => (obtain ⟨c0, c1⟩ := hW; go_simp) <;> with_reducible rfl
      simp only [Act.put, List.setIfInBounds_toArray, List.set_cons_zero, List.set_cons_succ]
      refine wpAnyK_take (i := 5) (some 21) ?vl5 rfl rfl (by kernel_rfl) (fun _ _ _ h => h) ⟨d0, d1⟩ (.inl ⟨rfl, fun W hW => ?yl5⟩) ?rl5
      case yl5 => (obtain ⟨c0, c1⟩ := hW; go_simp) <;> with_reducible rfl
      simp only [Act.put, List.setIfInBounds_toArray, List.set_cons_zero, List.set_cons_succ]
      refine wpAnyK_take (i := 6) (some 22) ?vl6 rfl rfl (by kernel_rfl) (fun _ _ _ h => h) ⟨d0, d1⟩ (.inl ⟨rfl, fun W hW => ?yl6⟩) ?rl6
      case yl6 => (obtain ⟨c0, c1⟩ := hW; go_simp) <;> with_reducible rfl
      simp only [Act.put, List.setIfInBounds_toArray, List.set_cons_zero, List.set_cons_succ]
      refine wpAnyK_take (i := 7) (some 23) ?vl7 rfl rfl (by kernel_rfl) (fun _ _ _ h => h) ⟨d0, d1⟩ (.inl ⟨rfl, fun W hW => ?yl7⟩) ?rl7
      case yl7 => (obtain ⟨c0, c1⟩ := hW; go_simp) <;> with_reducible rfl
      simp only [Act.put, List.setIfInBounds_toArray, List.set_cons_zero, List.set_cons_succ]
      refine wpAnyK_take (i := 8) (some 24) ?vl8 rfl rfl (by kernel_rfl) (fun _ _ _ h => h) ⟨d0, d1⟩ (.inl ⟨rfl, fun W hW => ?yl8⟩) ?rl8
      case yl8 => (obtain ⟨c0, c1⟩ := hW; go_simp) <;> with_reducible rfl
      simp only [Act.put, List.setIfInBounds_toArray, List.set_cons_zero, List.set_cons_succ]
      refine wpAnyK_take (i := 9) (some 25) ?vl9 rfl rfl (by kernel_rfl) (fun _ _ _ h => h) ⟨d0, d1⟩ (.inl ⟨rfl, fun W hW => ?yl9⟩) ?rl9
      case yl9 => (obtain ⟨c0, c1⟩ := hW; go_simp) <;> with_reducible rfl
      simp only [Act.put, List.setIfInBounds_toArray, List.set_cons_zero, List.set_cons_succ]
      refine wpAnyK_step (j := 10) (some 26) rfl rfl (by kernel_rfl) rfl fun K hK => ?_
      refine wp_call_f (l := [.tmp 19, .tmp 25]) rfl [.pointer (some ⟨d, 0, none⟩), .int .i64 ((f : Int) + (k : Int))] rfl (enter_read _) ((read_at (hdr.out.fr ((Fr.refl [] wr).drew) (by simp)) ((f : Int) + (k : Int))).mono ?_)
      rintro e w1 ⟨v, g, rfl, hbv, hgw, hf1, hyes, _⟩
      have hE : D.readE ((f : Int) + (k : Int)) = 0 := by
        unfold DM.readE
        rw [HDEAD.out, if_neg (by simp), if_neg (by omega)]
      have hR : D.read ((f : Int) + (k : Int)) = D.look (f + k) := by
        unfold DM.read
        rw [if_pos hE, show ((f : Int) + (k : Int)).toNat = f + k by omega]
      obtain ⟨rfl, hblk⟩ := hyes hE
      rw [hR] at hblk
      have hf1' : Fr [] wr w1 := (Fr.refl [] wr).drew.trans hf1 (by simp)
      have hbw := HB.out.fr (HF.out.trans hf1' (by simp)) (by simp)
      have d0' : w1.cell? ⟨lg, 0, none⟩ = some (.pointer (some ⟨d, 0, none⟩)) := hbw.at_ rfl
      have d1' : w1.cell? ⟨lg, 1, none⟩ = some (.int .i64 (f : Int)) := hbw.at_ rfl
      rw [hE]
      refine ⟨_, rfl, hK _ _ (fun _ => ⟨d0', d1'⟩) ?_⟩
      simp only [Act.put, List.setIfInBounds_toArray, List.set_cons_zero, List.set_cons_succ]
      refine wpAnyK_take (i := 11) (some 15) ?vl11 rfl rfl (by kernel_rfl) (fun _ _ _ h => h) ⟨d0', d1'⟩ (.inl ⟨rfl, fun W hW => ?yl11⟩) ?rl11
      case yl11 => (obtain ⟨c0, c1⟩ := hW; go_simp) <;> with_reducible rfl
      simp only [Act.put, List.setIfInBounds_toArray, List.set_cons_zero, List.set_cons_succ]
      refine wpAnyK_take (i := 12) (some 27) ?vl12 rfl rfl (by kernel_rfl) (fun _ _ _ h => h) ⟨d0', d1'⟩ (.inl ⟨rfl, fun W hW => ?yl12⟩) ?rl12
      case yl12 => (obtain ⟨c0, c1⟩ := hW; go_simp) <;> with_reducible rfl
      simp only [Act.put, List.setIfInBounds_toArray, List.set_cons_zero, List.set_cons_succ]
      refine wpAnyK_take (i := 13) (some 28) ?vl13 rfl rfl (by kernel_rfl) (fun _ _ _ h => h) ⟨d0', d1'⟩ (.inl ⟨rfl, fun W hW => ?yl13⟩) ?rl13
      case yl13 => (obtain ⟨c0, c1⟩ := hW; go_simp) <;> with_reducible rfl
      simp only [Act.put, List.setIfInBounds_toArray, List.set_cons_zero, List.set_cons_succ]
      refine wpAnyK_take (i := 14) (some 6) ?vl14 rfl rfl (by kernel_rfl) (fun _ _ _ h => h) ⟨d0', d1'⟩ (.inl ⟨rfl, fun W hW => ?yl14⟩) ?rl14
      case yl14 => (obtain ⟨c0, c1⟩ := hW; go_simp) <;> with_reducible rfl
      simp only [Act.put, List.setIfInBounds_toArray, List.set_cons_zero, List.set_cons_succ]
      refine wpAnyK_take (i := 15) (some 7) ?vl15 rfl rfl (by kernel_rfl) (fun _ _ _ h => h) ⟨d0', d1'⟩ (.inl ⟨rfl, fun W hW => ?yl15⟩) ?rl15
      case yl15 => (obtain ⟨c0, c1⟩ := hW; go_simp) <;> with_reducible rfl
      simp only [Act.put, List.setIfInBounds_toArray, List.set_cons_zero, List.set_cons_succ]
      refine wpAnyK_done (by kernel_rfl) ?_ _
      have HBLK := Lib.hid hblk; have HF1 := Lib.hid hf1'; have HGW := Lib.hid (show wr.heap.size ≤ g from hgw)
      clear hblk hf1' hf1 hbw hbv hyes hgw hK hE hR d0 d1 d0' d1'
      obtain ⟨i0, hi0, hz0, hz1, hz2⟩ := info_parts info_sector
      have HI0 := Lib.hid hi0; have HZ0 := Lib.hid hz0; have HZ1 := Lib.hid hz1; have HZ2 := Lib.hid hz2; clear hi0 hz0 hz1 hz2
      go_wp2_with (refine wpList_append_lies _ rfl (.tmp 32) (.tmp 34) 78 rfl 0 94 i0 (.slice none 0 0) 1 24 Try.underlying78 HI0.out HZ0.out HZ1.out HZ2.out rfl (by omega) (.slice A k co) k (gs.map secV) rfl ?own ⟨w1.heap.size, 0, none⟩ 1 1 [secV g] rfl rfl ?news ?one (by omega) (by unfold maxLen; omega) (by omega) (Nat.zero_le _) _ rfl ?_)
      case own => exact own_fr HOWN.out (HF1.out.alloc _) (by simp)
      case one => intro u hu; simp at hu; subst hu; rfl
      case news => intro j u hu; rw [Addr.add_mid, Nat.zero_add]; exact (Blk.new w1 94 [secV g]).at_ hu
      intro g1 cap w3 hown3 hg3 hat3 hlt3
      have HO3 := Lib.hid hown3; have HG3 := Lib.hid hg3; have HAT3 := Lib.hid hat3
      clear hown3 hg3 hat3
      go_wp2
      go_roundw
      case rel => exact load_step (DiskAt.ok HD.out) (by omega) hkn HGL.out HOWN.out HGE.out HGG.out HSEC.out HF.out HF1.out HBLK.out HGW.out HO3.out HG3.out HAT3.out
      case measure => simp [intOf]; omega
    · have hkk : k = n := by omega
      subst hkk
      go_wp2
      go_ret2
      exact load_end HGL.out HOWN.out HGE.out HGG.out HSEC.out HF.out

end Go.Proofs.Ytidpleejgalljaa
