/-
  The contracts of orangeryref07's Need, Room, Reset and sector.
-/
import Derived.Test.YtbgcbikgjedkkaaKc
namespace Go.Proofs.Ytbgcbikgjedkkaa
open Go.RowKit

set_option maxRecDepth 100000 in
set_option maxHeartbeats 400000 in
theorem rneed_any (w : World) (n : Int) (h1 : -9223372036854775808 ≤ n) (h2 : n ≤ 9223372036854775807) :
    Calls Try.prog 44 #[.int .i64 n] w fun e w' => e = .returned (.int .i64 (needI n)) ∧ w = w' := by
  unfold needI
  by_cases h : n ≤ 0
  · rw [if_pos h]
    go_enter Try.func44, Try.ntmps44
    go_wp2
    go_ret
    exact ⟨rfl, rfl⟩
  · rw [if_neg h]
    have hd : Int.tdiv (n - 1) 48 = (n - 1) / 48 := Int.tdiv_eq_ediv_of_nonneg (by omega)
    go_enter Try.func44, Try.ntmps44
    go_wp2
    go_ret
    exact ⟨rfl, rfl⟩
set_option maxRecDepth 100000 in
set_option maxHeartbeats 400000 in
theorem rroom_at {w : World} {lg m f n at_ num ses : Nat} {br : Bool} (hb : Blk w lg 99 (rlog m f n at_ num ses br)) (hn : n ≤ 65536) (ha : at_ ≤ n) :
    Calls Try.prog 43 #[.pointer (some ⟨lg, 0, none⟩)] w fun e w' => e = .returned (.int .i64 ((n - at_ : Nat) : Int)) ∧ ∃ m, w' = w.drewN m := by
  have c2 := hb.at_ (i := 2) rfl
  have c3 := hb.at_ (i := 3) rfl
  clear hb
  go_enter Try.func43, Try.ntmps43
  go_wp2
  go_quiet (fail)
  go_wp2
  go_ret
  refine ⟨?_, _, rfl⟩
  show Ending.returned (.int .i64 ((n : Int) - (at_ : Int))) = _
  rw [show (n : Int) - (at_ : Int) = ((n - at_ : Nat) : Int) by omega]
set_option maxRecDepth 100000 in
set_option maxHeartbeats 400000 in
theorem rreset_at {w : World} {lg m f n at_ num ses : Nat} {br : Bool} (hb : Blk w lg 99 (rlog m f n at_ num ses br)) :
    Calls Try.prog 41 #[.pointer (some ⟨lg, 0, none⟩)] w fun e w' => e = .returned (.tuple #[]) ∧ Blk w' lg 99 (rlog m f n 0 num ses br) ∧ Fr [lg] w w' := by
  have c3 := hb.at_ (i := 3) rfl
  have cf := hb.free
  have HB := Lib.hid hb
  clear hb
  go_enter Try.func41, Try.ntmps41
  go_wp2
  go_end0
  exact ⟨rfl, HB.out.set_ 3 _, (Fr.refl _ _).setCell (.inl (by simp)) _⟩

def hdrB (ses num place count len : Nat) : List UInt8 := [165, 90, byteAt ses 3, byteAt ses 2, byteAt ses 1, byteAt ses 0, byteAt num 3, byteAt num 2, byteAt num 1, byteAt num 0, byteAt place 1, byteAt place 0, byteAt count 1, byteAt count 0, UInt8.ofNat len, 0]

theorem hdr_cells {num ses place count len : Nat} (hn : num < 4294967296) (hs : ses < 4294967296) (hp : place < 65536) (hc : count < 65536) (hl : len ≤ 48) : bcells (hdrB ses num place count len) =
    [.int .u8 165, .int .u8 90, .int .u8 ((ses : Int) / 16777216), .int .u8 ((ses : Int) / 65536 % 256), .int .u8 ((ses : Int) / 256 % 256), .int .u8 ((ses : Int) % 256), .int .u8 ((num : Int) / 16777216), .int .u8 ((num : Int) / 65536 % 256), .int .u8 ((num : Int) / 256 % 256), .int .u8 ((num : Int) % 256), .int .u8 ((place : Int) / 256), .int .u8 ((place : Int) % 256), .int .u8 ((count : Int) / 256), .int .u8 ((count : Int) % 256), .int .u8 (len : Int), .int .u8 0] := by
  have b3 : ∀ n : Nat, n < 4294967296 → ((byteAt n 3).toNat : Int) = (n : Int) / 16777216 := fun n h => by rw [byte_of, show (256 : Int) ^ 3 = 16777216 from rfl]; omega
  have b2 : ∀ n : Nat, ((byteAt n 2).toNat : Int) = (n : Int) / 65536 % 256 := fun n => by rw [byte_of, show (256 : Int) ^ 2 = 65536 from rfl]
  have b1 : ∀ n : Nat, ((byteAt n 1).toNat : Int) = (n : Int) / 256 % 256 := fun n => by rw [byte_of, show (256 : Int) ^ 1 = 256 from rfl]
  have b0 : ∀ n : Nat, ((byteAt n 0).toNat : Int) = (n : Int) % 256 := fun n => by rw [byte_of, show (256 : Int) ^ 0 = 1 from rfl]; omega
  have bl : ((UInt8.ofNat len).toNat : Int) = (len : Int) := by simp; omega
  simp only [bcells, hdrB, List.map_cons, List.map_nil, B8, b3 _ hn, b3 _ hs, b2, b1, b0, bl]
  rw [show (place : Int) / 256 % 256 = (place : Int) / 256 by omega, show (count : Int) / 256 % 256 = (count : Int) / 256 by omega]
  rfl

set_option maxRecDepth 100000 in
set_option maxHeartbeats 1000000 in
theorem rsector_at {w : World} {lg m f n at_ num ses place count gb : Nat} {br : Bool} {v : Value} {b : List UInt8} (hb : Blk w lg 99 (rlog m f n at_ num ses br)) (hn : num < 4294967296) (hs : ses < 4294967296) (hp : place < 65536) (hc : count < 65536) (hv : BytesAt w v b gb) (hl : b.length ≤ 48) :
    Calls Try.prog 56 #[.pointer (some ⟨lg, 0, none⟩), .int .i64 (place : Int), .int .i64 (count : Int), v] w fun e w' => ∃ v' g, e = .returned v' ∧ BytesAt w' v' (writtenOf ⟨⟨ses, num, count⟩, place, b⟩) g ∧ w.heap.size ≤ g ∧ Fr [] w w' := by
  have c4 := hb.at_ (i := 4) rfl
  have c5 := hb.at_ (i := 5) rfl
  have HV := Lib.hid hv
  obtain ⟨A, c, off, rfl, hbc, hcs⟩ := hv
  clear hb hcs
  rw [show writtenOf ⟨⟨ses, num, count⟩, place, b⟩ = hdrB ses num place count b.length ++ b from rfl]
  go_enter Try.func56, Try.ntmps56
  go_upto_region 4 with fail
  have hbl : Blk (w.alloc (.cells #[.int .u8 165, .int .u8 90, .int .u8 ((ses : Int) / 16777216), .int .u8 ((ses : Int) / 65536 % 256), .int .u8 ((ses : Int) / 256 % 256), .int .u8 ((ses : Int) % 256), .int .u8 ((num : Int) / 16777216), .int .u8 ((num : Int) / 65536 % 256), .int .u8 ((num : Int) / 256 % 256), .int .u8 ((num : Int) % 256), .int .u8 ((place : Int) / 256), .int .u8 ((place : Int) % 256), .int .u8 ((count : Int) / 256), .int .u8 ((count : Int) % 256), .int .u8 (b.length : Int), .int .u8 0] 5)) w.heap.size 5 (bcells (hdrB ses num place count b.length)) := by
    rw [hdr_cells hn hs hp hc hl]
    exact Blk.new w _ _
  have hfa : Fr [] w (w.alloc (.cells #[.int .u8 165, .int .u8 90, .int .u8 ((ses : Int) / 16777216), .int .u8 ((ses : Int) / 65536 % 256), .int .u8 ((ses : Int) / 256 % 256), .int .u8 ((ses : Int) % 256), .int .u8 ((num : Int) / 16777216), .int .u8 ((num : Int) / 65536 % 256), .int .u8 ((num : Int) / 256 % 256), .int .u8 ((num : Int) % 256), .int .u8 ((place : Int) / 256), .int .u8 ((place : Int) % 256), .int .u8 ((count : Int) / 256), .int .u8 ((count : Int) % 256), .int .u8 (b.length : Int), .int .u8 0] 5)) := (Fr.refl [] w).alloc _
  have hz1 : (w.alloc (.cells #[.int .u8 165, .int .u8 90, .int .u8 ((ses : Int) / 16777216), .int .u8 ((ses : Int) / 65536 % 256), .int .u8 ((ses : Int) / 256 % 256), .int .u8 ((ses : Int) % 256), .int .u8 ((num : Int) / 16777216), .int .u8 ((num : Int) / 65536 % 256), .int .u8 ((num : Int) / 256 % 256), .int .u8 ((num : Int) % 256), .int .u8 ((place : Int) / 256), .int .u8 ((place : Int) % 256), .int .u8 ((count : Int) / 256), .int .u8 ((count : Int) % 256), .int .u8 (b.length : Int), .int .u8 0] 5)).heap.size = w.heap.size + 1 := by simp
  generalize w.alloc (.cells #[.int .u8 165, .int .u8 90, .int .u8 ((ses : Int) / 16777216), .int .u8 ((ses : Int) / 65536 % 256), .int .u8 ((ses : Int) / 256 % 256), .int .u8 ((ses : Int) % 256), .int .u8 ((num : Int) / 16777216), .int .u8 ((num : Int) / 65536 % 256), .int .u8 ((num : Int) / 256 % 256), .int .u8 ((num : Int) % 256), .int .u8 ((place : Int) / 256), .int .u8 ((place : Int) % 256), .int .u8 ((count : Int) / 256), .int .u8 ((count : Int) % 256), .int .u8 (b.length : Int), .int .u8 0] 5) = w1 at *
  have hown : w1.ownsRow 0 5 1 (.slice (some ⟨w.heap.size, 0, none⟩) 16 16) 16 (bcells (hdrB ses num place count b.length)) := own_part (n := 16) hbl (by simp [bcells_len, hdrB]) (by simp [bcells_len, hdrB, maxLen])
  have HOWN := Lib.hid hown; have HFA := Lib.hid hfa
  clear hbl hown hfa c4 c5
  refine wp_region_lit ?_
  refine wpList_plain rfl fun K hK => ?_
  refine wp_run_same (v := ?au2_0) ?yu2_0 (hK _ _ ?_)
  case yu2_0 => go_simp <;> with_reducible rfl
  clear hK K
  simp only [Act.put, List.setIfInBounds_toArray, List.set_cons_zero, List.set_cons_succ]
  refine wpList_plain rfl fun K hK => ?_
  refine wp_run_same (v := ?au3_1) ?yu3_1 (hK _ _ ?_)
  case yu3_1 => go_simp <;> with_reducible rfl
  clear hK K
  simp only [Act.put, List.setIfInBounds_toArray, List.set_cons_zero, List.set_cons_succ]
  by_cases hb0 : b.length = 0
  · have hb0' : b = [] := List.eq_nil_of_length_eq_zero hb0
    subst hb0'
    refine wpList_append_none rfl (.tmp 56) (.tmp 57) 22 22 rfl 5 5 Try.underlying22 Try.underlying22 (by kernel_rfl) (some ⟨w.heap.size, 0, none⟩) A 16 16 c rfl rfl (by omega) ?_
    simp only [Act.put, List.setIfInBounds_toArray, List.set_cons_zero, List.set_cons_succ]
    refine wpList_plain rfl fun K hK => ?_
    refine wp_run_same (v := ?au4_3) ?yu4_3 (hK _ _ ?_)
    case yu4_3 => go_simp <;> with_reducible rfl
    clear hK K
    simp only [Act.put, List.setIfInBounds_toArray, List.set_cons_zero, List.set_cons_succ]
    refine wpList_nil ?_
    go_wp2
    go_ret
    first
      | exact ⟨_, w.heap.size, rfl, by rw [List.append_nil]; exact BytesAt.of_own HOWN.out, Nat.le_refl _, HFA.out⟩
      | exact ⟨_, rfl, w.heap.size, by rw [List.append_nil]; exact BytesAt.of_own HOWN.out, Nat.le_refl _, HFA.out⟩
  · obtain ⟨iu, hi, hz', hsz', hby⟩ := info_parts info_u8
    obtain ⟨A', c', off', he, _, hcs⟩ := HV.out.fr HFA.out (by simp)
    injection he with he1 he2 he3
    obtain ⟨hA', hcs2⟩ := hcs (by omega)
    subst he1 he3
    subst hA'
    refine wpList_plain rfl fun K hK => ?_
    refine wp_append_fr (.tmp 56) (.tmp 57) rfl 5 1 1 Try.underlying22 hi hz' hsz' hby rfl (by omega) (.slice (some ⟨w.heap.size, 0, none⟩) 16 16) 16 (bcells (hdrB ses num place count b.length)) rfl HOWN.out ⟨gb, off', none⟩ b.length c (bcells b) rfl (by rw [bcells_len]; omega) (fun j u hj => by rw [Addr.add_mid]; exact hcs2 j u hj) (bcells_one _) (by omega) (by unfold maxLen; omega) (by omega) (w.heap.size + 1) hz1 fun g7 cap w7 ho7 hf7 hat7 hlt7 => hK _ _ ?_
    simp only [Act.put, List.setIfInBounds_toArray, List.set_cons_zero, List.set_cons_succ]
    have hfin : ∃ v' g, Ending.returned (.slice (some ⟨g7, 0, none⟩) (16 + b.length) cap) = .returned v' ∧ BytesAt w7 v' (hdrB ses num place count b.length ++ b) g ∧ w.heap.size ≤ g ∧ Fr [] w w7 := by
      refine ⟨_, g7, rfl, BytesAt.of_own (by rw [bcells_append]; exact ho7), ?_, HFA.out.trans hf7 (fun x hx => .inr ?_)⟩
      · rcases hat7 with h | h
        · have : w.heap.size = g7 := by simpa [Value.ownBlock] using h
          omega
        · omega
      · simp [Value.ownBlock] at hx
        omega
    have HFIN := Lib.hid hfin
    clear hfin ho7 hf7 hat7 hlt7 hcs hcs2 hi hz' hsz' hby
    refine wpList_plain rfl fun K hK => ?_
    refine wp_run_same (v := ?au5_3) ?yu5_3 (hK _ _ ?_)
    case yu5_3 => go_simp <;> with_reducible rfl
    clear hK K
    simp only [Act.put, List.setIfInBounds_toArray, List.set_cons_zero, List.set_cons_succ]
    refine wpList_nil ?_
    go_wp2
    go_ret
    obtain ⟨v', g, h1, h2, h3, h4⟩ := HFIN.out
    first | exact ⟨v', h1, g, h2, h3, h4⟩ | exact ⟨v', g, h1, h2, h3, h4⟩

end Go.Proofs.Ytbgcbikgjedkkaa
