/-
  Joined by join.py: Jk DiskX Str Jl Jp Jq Jr
-/
import Derived.Lib.SlBytesConst
import Derived.Laws.BytesArg
import Derived.Test.YtpjbdpepofnleaaGreatJpl4
set_option maxRecDepth 100000
set_option maxHeartbeats 32000000
namespace Go.Proofs.YtpjbdpepofnleaaGreat
section
open Go.RowKit
theorem info_bytes : (Tryz.prog.info? 23).map (fun i => (i.zero, i.size, i.bytes)) = some (some (.slice none 0 0), 1, 24) := by kernel_rfl
def sliceLen (v : Value) : Nat := match v with | .slice _ n _ => n | _ => 0
def JOpenRel (w : World) (d f n num0 ses gp gl : Nat) (gs : List Nat) (L : List (List UInt8)) (out : Value) (wr : World) : Prop :=
 ∃ (R : List (Stamp × List UInt8)) (vs : List Value) (k at_ : Nat), R.length <= at_ /\ at_ <= n /\ n <= at_ + k /\ recordsOf n none L = R ++ recordsOf k (lastOf R) (L.drop at_) /\ at_ = (R.map (·.1.count)).sum /\
  (∀ x ∈ R, x.1.session < 4294967296 /\ x.1.number < 4294967296) /\
  RowsIn wr out (R.map (·.2)) vs (gp + 1) /\ Blk wr w.heap.size 160 (logCells d f n at_ (numAfter num0 (lastOf R)) ses false) /\ Blk wr gp 166 (lastCells (lastOf R)) /\ SecsAt wr gl 0 gs L /\ Fr [] w wr
theorem open_ok {w : World} {d f n : Nat} {D : DM} {fp : List Nat} (hd : DiskAt w d D fp) (hdead : D.dead = false) (h1 : 1 <= n) (hfit : f + n <= D.S.length) (hnew : (newestOf (D.part f n)).1 < 4294967295) :
  Calls Tryz.prog 58 #[.pointer (some ⟨d, 0, none⟩), .int .i64 (f : Int), .int .i64 (n : Int)] w fun e w' => ∃ out,
   e = .returned (.tuple #[.pointer (some ⟨w.heap.size, 0, none⟩), out, .int .i64 0]) /\
   RowsAt w' out ((recordsOf n none (D.part f n)).map (·.2)) (w.heap.size + 1) /\
   Blk w' w.heap.size 160 (logCells d f n ((recordsOf n none (D.part f n)).map (·.1.count)).sum (numAfter (((newestOf (D.part f n)).2 + 1) % 4294967296) (lastOf (recordsOf n none (D.part f n)))) ((newestOf (D.part f n)).1 + 1) false) /\ Fr [] w w' := by
 have hmost := (DiskAt.ok hd).most; have HD := lh hd; have HDEAD := lh hdead; have HNEW := lh hnew; clear hd hdead hnew; have e1 : decide ((n : Int) < 1) = false := by simp; omega
 have e2 : decide ((f : Int) < 0) = false := by simp
 have e3 : decide (((D.S.length : Nat) : Int) < (n : Int)) = false := by simp; omega
 have e4 : decide (((D.S.length : Nat) : Int) - (n : Int) < (f : Int)) = false := by simp; omega
 go_enter Tryz.func58, Tryz.ntmps58
 go_wp2_with fail; refine (dead_at HD.out).mono ?_; rintro e w1 ⟨rfl, rfl⟩; rw [HDEAD.out]; go_wp2_with fail; refine (size_at HD.out).mono ?_; rintro e w1 ⟨rfl, rfl⟩; go_wp2_with fail; refine (size_at HD.out).mono ?_; rintro e w1 ⟨rfl, rfl⟩; go_wp2_with fail; have hf1 : Fr [] w (w.alloc (.cells (logCells d f n 0 0 0 false).toArray 160)) := (Fr.refl [] w).alloc _; refine (load_ok (lg := w.heap.size) (at_ := 0) (num := 0) (ses := 0) (br := false) (Blk.new w _ (logCells d f n 0 0 0 false)) (HD.out.fr hf1 (by simp)) HDEAD.out hfit hmost).mono ?_; rintro e w2 ⟨A, c, gl, gs, rfl, hnc, hA, hs2, hgl, hgs, hf2⟩; have hz1 : (w.alloc (.cells (logCells d f n 0 0 0 false).toArray 160)).heap.size = w.heap.size + 1 := by simp
 rw [hz1] at hgl hgs; have hb2 := (Blk.new w 160 (logCells d f n 0 0 0 false)).fr hf2 (by simp); have HS2 := lh hs2; have HF2 := lh (hf1.trans hf2 (by simp)); have HB2 := lh hb2; have HGL := lh hgl; have HGS := lh hgs; clear hs2 hf2 hf1 hb2 hgl hgs hz1; go_wp2_with fail; have hLn := D.part_len f n; have hnw := newest_any (A := A) (c := c) (a := (0, 0)) HB2.out HS2.out (by rw [hLn]; exact hA) (by rw [hLn]; exact hnc) (by rw [hLn]; omega) (by have := HGL.out; omega); rw [hLn] at hnw; refine hnw.mono ?_; clear hnw; rintro e w3 ⟨rfl, hb3, hf3⟩; rw [<- newFrom_eq] at hb3 ⊢; rw [show decide ((newestOf (D.part f n)).1 < 4294967295) = true from decide_eq_true HNEW.out]; have hF3 : Fr [] w w3 := HF2.out.trans hf3 (fun x hx => .inr (by simp at hx; omega)); have hS3 := HS2.out.fr hf3 (by simp; have := HGL.out; omega) (fun g hg hm => by simp at hm; have := HGS.out g hg; omega); have hmod : ((newestOf (D.part f n)).1 + 1) % 4294967296 = (newestOf (D.part f n)).1 + 1 := Nat.mod_eq_of_lt (by have := HNEW.out; omega); rw [hmod] at hb3; have hnb : (newestOf (D.part f n)).2 < 4294967296 ∨ True := .inr trivial
 have hgl3 : gl < w3.heap.size ∨ n = 0 := by
  rcases Nat.eq_zero_or_pos n with h0 | h0
  ·exact .inr h0
  ·obtain ⟨g, s, _, hc, _⟩ := hS3.at_ (j := 0) (by rw [hLn]; exact h0); exact .inl (World.block_lt_of_cell? w3 _ hc)
 have HB3 := lh hb3; have HF3 := lh hF3; have HS3 := lh hS3; have HLN := lh hLn; have HGL3 := lh hgl3; clear hb3 hF3 hf3 hS3 hmod hnb HB2 HS2 HF2 hLn hgl3; generalize hnum0 : ((newestOf (D.part f n)).2 + 1) % 4294967296 = num0 at *; generalize hses0 : (newestOf (D.part f n)).1 + 1 = ses0 at *; have hz3 := HF3.out.size; have hl3 := HB3.out.lt; have HNUM0 := lh hnum0; have HSES0 := lh hses0; clear hnum0 hses0 e1 e2 e3 e4
 go_wp2
 go_loopw [12] (JOpenRel w d f n num0 ses0 w3.heap.size gl gs (D.part f n)) (fun out _ => n + 1 - sliceLen out)
 case atStart =>
  have hfa : Fr [] w3 (w3.alloc (.cells #[.int .u32 0, .int .u32 0, .int .i64 0] 166)) := (Fr.refl [] w3).alloc _; exact ⟨[], [], n, 0, Nat.zero_le _, Nat.zero_le _, by omega, rfl, rfl, by simp, RowsIn.nil _ _, HB3.out.fr hfa (by simp), Blk.new w3 _ _, HS3.out.fr hfa (by simp) (by simp), HF3.out.trans hfa (by simp)⟩
 case round =>
  obtain ⟨R, vs, k, at_, hRa, han, hnk, hrecs, hsum, hbd, hrows, hblk, hlast, hsecs, hfr⟩ := hrel; obtain ⟨oA, oc, rfl, hoc, _⟩ := own_shape hrows.own; have m3 := hblk.at_ (i := 3) rfl; have HRECS := lh hrecs; have HSUM := lh hsum; have HBD := lh hbd; have HROWS := lh hrows; have HBLK := lh hblk; have HLAST := lh hlast; have HSECS := lh hsecs; have HFR := lh hfr; clear hrecs hsum hbd hrows hblk hlast hsecs hfr; rw [List.length_map] at *; have hdl : (List.drop at_ (D.part f n)).length = n - at_ := by rw [List.length_drop, HLN.out]
  have hnone : recordOf ((D.part f n).drop at_) = none -> recordsOf n none (D.part f n) = R := fun h => by rw [HRECS.out, recs_none h, List.append_nil]
  have HDL := lh hdl; have HNONE := lh hnone; clear hdl hnone
  have hend : ∀ w5, recordsOf n none (D.part f n) = R -> Fr [] wr w5 -> ∃ out, Ending.returned (.tuple #[.pointer (some ⟨w.heap.size, 0, none⟩), .slice oA R.length oc, .int .i64 0]) = .returned (.tuple #[.pointer (some ⟨w.heap.size, 0, none⟩), out, .int .i64 0]) /\
    RowsAt w5 out ((recordsOf n none (D.part f n)).map (·.2)) (w.heap.size + 1) /\ Blk w5 w.heap.size 160 (logCells d f n ((recordsOf n none (D.part f n)).map (·.1.count)).sum (numAfter (((newestOf (D.part f n)).2 + 1) % 4294967296) (lastOf (recordsOf n none (D.part f n)))) ((newestOf (D.part f n)).1 + 1) false) /\ Fr [] w w5 := by
   intro w5 hR hf5; rw [hR, <- HSUM.out, HNUM0.out, HSES0.out]; refine ⟨_, rfl, ⟨vs, ((HROWS.out.fr hf5 (by simp)).mono (by omega))⟩, HBLK.out.fr hf5 (by simp), HFR.out.trans hf5 (by simp)⟩
  have HEND := lh hend; clear hend; have oAl : ∀ x, recordOf ((D.part f n).drop at_) = some x -> recordOf ((D.part f n).drop at_) ≠ none := fun x h => by rw [h]; simp
  clear oAl
  by_cases hca : c = at_
  ·have hn0 : n = at_ := by omega
   have hdr : (D.part f n).drop at_ = [] := List.eq_nil_of_length_eq_zero (by rw [HDL.out]; omega); have hR0 := HNONE.out (by rw [hdr]; rfl); have HR0 := lh hR0; clear hR0 hdr; subst hca; subst hn0; go_wp2_with fail; have hrec := record_any (A := A) (c := 0) (w := wr) (gl := gl) (off := 0) (gs := []) (L := []) ⟨rfl, by simp, by simp⟩ (by simp) (by simp) (by simp); refine hrec.mono ?_; rintro e w4 ⟨rfl, hf4⟩; have HF4 := lh hf4; clear hf4 hrec; unfold noStamp
   go_wp2
   go_ret3
   exact HEND.out _ HR0.out (HF4.out.alloc _)
  ·have hrec := record_any (A := A.map (·.add at_)) (c := c - at_) (HSECS.out.drop at_) (by intro h0; rw [HDL.out] at h0; rw [hA (by omega)]; simp [Addr.add_mid]) (by rw [HDL.out]; omega) (by rw [HDL.out]; omega); rw [HDL.out] at hrec; have HREC := lh hrec; clear hrec; go_wp2_with fail; refine HREC.out.mono ?_; intro e w4 hans; unfold RecAns at hans
   cases hro : recordOf ((D.part f n).drop at_) with
   | none =>
    rw [hro] at hans; obtain ⟨rfl, hf4⟩ := hans; have hR0 := HNONE.out hro; have HR0 := lh hR0; have HF4 := lh hf4; clear hR0 hf4 hro; unfold noStamp
    go_wp2
    go_ret3
    exact HEND.out _ HR0.out (HF4.out.alloc _)
   | some x =>
    obtain ⟨st, b⟩ := x; rw [hro] at hans; obtain ⟨v4, g4, rfl, hb4, hg4, hf4⟩ := hans; obtain ⟨q1, q2, q3, q4, q5⟩ := recordOf_bd hro; rw [HDL.out] at q2; have HRO := lh hro; have HB4 := lh hb4; have HG4 := lh hg4; have HF4 := lh hf4; clear hro hb4 hg4 hf4; have hl4 := HLAST.out.fr HF4.out (by simp); have hlt4 := hl4.lt; have hv4c : v4.cells = #[v4] := by obtain ⟨_, _, _, rfl, _⟩ := HB4.out; rfl
    have hv41 : v4.oneCell' = true := by obtain ⟨_, _, _, rfl, _⟩ := HB4.out; rfl
    have HV4C := lh hv4c; have HV41 := lh hv41; clear hv4c hv41; unfold stampV
    by_cases hR : R = []
    ·have hRn : ¬ (0 < R.length) := by rw [hR]; simp
     have hst : stops (lastOf R) st = false := by rw [hR]; rfl
     have HST := lh hst; have HL4 := lh hl4; clear hl4 hR hst; go_wp2_with fail; have hfa : Fr [] wr (w4.alloc (.cells (lastCells (some st)).toArray 166)) := HF4.out.alloc _; have hq5 : Blk (w4.alloc (.cells (lastCells (some st)).toArray 166)) w4.heap.size 166 (lastCells (some st)) := Blk.new w4 _ _; have HFA := lh hfa; have HQ5 := lh hq5; clear hfa hq5; refine wp_region_K (fun W => Blk W w4.heap.size 166 (lastCells (some st))) [0, 1, 4] (by kernel_rfl) ?_; refine tks [0, 1] ?_
     iterate 2 (refine tk rfl rfl HQ5.out rfl (fun _ _ => by go_simp <;> with_reducible rfl) ?_; simp only [nrm])
     refine tke ?_; refine tv 4 (.agg (lastCells (some st)).toArray) rfl rfl HQ5.out (yieldsIf_load_mid rfl 166 (.tmp 14) rfl w4.heap.size 0 rfl (lastCells (some st)) _ (fun W hW j v hj => by rw [Nat.zero_add]; exact hW.at_ hj) Tryz.underlying166 rfl (by kernel_rfl)) ?_; simp only [nrm]; obtain ⟨i0, hi0, hz0, hz1, hz2⟩ := info_parts info_bytes; refine sp 2 rfl rfl rfl fun K hK => ?_; refine wp_build_cell (.tmp 94) rfl Tryz.underlying22 hi0 hz0 hz1 rfl v4 rfl HV4C.out (w4.heap.size + 1) (by show (w4.alloc _).heap.size = _; simp) fun w6 hB6 hF6 hz6 => ?_; have hF6' : Fr [] wr w6 := HFA.out.drew.trans hF6 (by simp); have hq6 : Blk w6 w4.heap.size 166 (lastCells (some st)) := HQ5.out.drew.fr hF6 (by simp); refine hK _ _ (fun _ => hq6) ?_; simp only [nrm]; refine sp 3 rfl rfl rfl fun K hK => ?_; refine wp_append_fr (.tmp 93) (.tmp 95) rfl 23 1 24 Tryz.underlying22 hi0 hz0 hz1 hz2 rfl (by omega) (.slice oA R.length oc) R.length vs rfl ?own ⟨w4.heap.size + 1, 0, none⟩ 1 1 [v4] rfl rfl ?news ?one (by omega) (by unfold maxLen; omega) (by omega) (w4.heap.size + 2) hz6 fun g7 cap w7 ho7 hf7 hat7 hlt7 => ?_
     case own => have := (HROWS.out.fr hF6' (by simp)).own; rw [List.length_map] at this; exact this
     case one => intro u hu; simp at hu; subst hu; exact HV41.out
     case news => intro j u hu; rw [Addr.add_mid, Nat.zero_add]; exact hB6.at_ hu
     have hox : ∀ x ∈ (Value.slice oA R.length oc).ownBlock.toList, w3.heap.size + 1 <= x /\ x < wr.heap.size := fun x hx => by
      have h : (Value.slice oA R.length oc).ownBlock = some x := by simpa using hx
      exact ⟨HROWS.out.ge x h, own_lt HROWS.out.own x h⟩
     have hz4 := HF4.out.size; have hlw := HLAST.out.lt; obtain ⟨g4', hb4', hg4', hl4'⟩ := (HB4.out.fr (((Fr.refl [] w4).alloc (.cells (lastCells (some st)).toArray 166)).drew.trans hF6 (by simp)) (by simp)).lt HG4.out (by omega)
     have hr7 : RowsIn w7 (.slice (some ⟨g7, 0, none⟩) (R.length + 1) cap) ((R ++ [(st, b)]).map (·.2)) (vs ++ [v4]) (w3.heap.size + 1) := by
      have hr6 := HROWS.out.fr hF6' (by simp); have hb6 : BytesAt w6 v4 b g4' := hb4'; have := hr6.push (g7 := g7) (cap := cap) (w7 := w7) hb6 (by omega) (by omega) (fun hx => by have := hox g4' (by simp [hx]); omega) HV41.out (by rw [List.length_map]; exact ho7) hf7 (by rw [hz6]; exact hat7) (by omega); rw [List.length_map] at this; rw [List.map_append]; exact this
     have hq7 := hq6.fr hf7 (fun hm => by have := hox _ hm; omega); have hb7 := (HBLK.out.fr hF6' (by simp)).fr hf7 (fun hm => by have := hox _ hm; omega); have hl7 := (HLAST.out.fr hF6' (by simp)).fr hf7 (fun hm => by have := hox _ hm; omega); have hs7 := (HSECS.out.fr hF6' (by simp) (by simp)).fr hf7 (fun hm => by have := hox _ hm; have := HGL3.out; omega) (fun g hg hm => by have := hox _ hm; have := HS3.out.lt g hg; omega); have hfw7 := (HFR.out.trans hF6' (by simp)).trans hf7 (fun x hx => .inr (by have := hox _ hx; omega)); refine hK _ _ (fun _ => hq7) ?_; simp only [nrm]; refine sp 5 rfl rfl rfl fun K hK => ?_; refine wp_run_same (v := ?aq1_5) ?yq1_5 (hK _ _ (fun _ => hq7) ?_)
     case yq1_5 => go_simp <;> with_reducible rfl
     simp only [nrm]; refine wpAnyK_step (j := 6) none rfl rfl (by kernel_rfl) rfl fun K hK => ?_; refine wp_store_blk 166 (.tmp 13) (.tmp 97) rfl (lastCells (some st)) rfl rfl hl7 (by kernel_rfl) (by cases lastOf R <;> rfl) (by intro u hu; simp only [lastCells, List.mem_cons, List.not_mem_nil, or_false] at hu; rcases hu with rfl | rfl | rfl <;> rfl) fun w8 hB8 hF8 _ => hK _ _ (fun h => absurd h (by decide +kernel)) ?_; simp only [Act.put]; refine wd ?_ _; have hq8 := hq7.fr hF8 (by simp; omega); have hb8 := hb7.fr hF8 (by simp; omega); have hs8 := hs7.fr hF8 (by simp; have := HGL3.out; omega) (fun g hg hm => by simp at hm; have := HS3.out.lt g hg; omega); have hr8 := hr7.fr hF8 (fun x hx => .inl (by simp at hx; omega)); have hfw8 := hfw7.trans hF8 (fun x hx => .inr (by simp at hx; omega)); have HQ8 := lh hq8; have HB8 := lh hb8; have HS8 := lh hs8; have HR8 := lh hr8; have HFW8 := lh hfw8; have HL8 := lh hB8; clear hq8 hb8 hs8 hr8 hfw8 hB8 hF8 hfw7 hs7 hl7 hb7 hq7 hr7 hb4' hg4' hl4' hox hat7 ho7 hf7 hlt7 hq6 hF6 hF6' hB6 hz6 hK hi0 hz0 hz1 hz2 m3; have l3 := HB8.out.at_ (i := 3) rfl; have lf := HB8.out.free; have p0 := HQ8.out.at_ (i := 0) rfl; have p1 := HQ8.out.at_ (i := 1) rfl; have p2 := HQ8.out.at_ (i := 2) rfl; have wadd : IntKind.i64.wrap ((at_ : Int) + (st.count : Int)) = (at_ : Int) + (st.count : Int) := by rw [IntKind.wrap_i64]; omega
     go_wp2_with fail; refine wp_region_K (fun W => W.cell? ⟨w.heap.size, 3, none⟩ = some (.int .i64 (at_ : Int)) /\ W.cell? ⟨w4.heap.size, 2, none⟩ = some (.int .i64 (st.count : Int))) [0, 1, 2, 3, 4, 5, 6] (by kernel_rfl) ?_; refine tks [0, 1, 2, 3, 4, 5, 6] ?_
     iterate 7 (refine tk rfl rfl ⟨l3, p2⟩ rfl (fun _ hW => by (obtain ⟨c3, c2⟩ := hW; go_simp) <;> with_reducible rfl) ?_; simp only [nrm])
     refine tke ?_; refine sp 7 rfl rfl rfl fun K hK => ?_; refine wp_run_same (v := ?aq2_7) ?yq2_7 (hK _ _ (fun h => absurd h (by decide +kernel)) ?_)
     case yq2_7 => go_simp <;> with_reducible rfl
     simp only [nrm]; refine sp 8 rfl rfl rfl fun K hK => ?_; refine wp_run_same (v := ?aq2_8) ?yq2_8 (hK _ _ (fun h => absurd h (by decide +kernel)) ?_)
     case yq2_8 => go_simp <;> with_reducible rfl
     simp only [nrm]; refine wpAnyK_step (j := 9) none rfl rfl (by kernel_rfl) rfl fun K hK => ?_; refine wp_run_skip (w' := w8.drew.setCell ⟨w.heap.size, 3, none⟩ (.int .i64 ((at_ : Int) + (st.count : Int)))) (by go_simp) (hK _ _ (fun h => absurd h (by decide +kernel)) ?_); simp only [Act.put]; refine wd ?_ _
     have hb9 : Blk (w8.drew.setCell ⟨w.heap.size, 3, none⟩ (.int .i64 ((at_ : Int) + (st.count : Int)))) w.heap.size 160 (logCells d f n (at_ + st.count) (numAfter num0 (lastOf R)) ses0 false) := by
      have h := HB8.out.drew.set_ 3 (.int .i64 ((at_ : Int) + (st.count : Int))); rw [show (at_ : Int) + (st.count : Int) = ((at_ + st.count : Nat) : Int) by omega] at h ⊢; exact h
     have hf9 : Fr [w.heap.size] w8 (w8.drew.setCell ⟨w.heap.size, 3, none⟩ (.int .i64 ((at_ : Int) + (st.count : Int)))) := (Fr.refl [w.heap.size] w8).drew.setCell (.inl (by simp)) _; generalize (w8.drew.setCell ⟨w.heap.size, 3, none⟩ (.int .i64 ((at_ : Int) + (st.count : Int)))) = w9 at *; clear l3 lf p0 p1 p2 wadd hK; have l4 := hb9.at_ (i := 4) rfl; have lf := hb9.free; have p1 := (HQ8.out.fr hf9 (by simp; omega)).at_ (i := 1) rfl; have HB9 := lh hb9; have HF9 := lh hf9; clear hb9 hf9; have wadd : IntKind.u32.wrap ((st.number : Int) + 1) = (((st.number + 1) % 4294967296 : Nat) : Int) := by rw [IntKind.wrap_u32]; omega
     go_wp2
     have hfs : ∀ w10, Fr [w.heap.size] w8 w10 -> Blk w10 w.heap.size 160 (logCells d f n (at_ + st.count) ((st.number + 1) % 4294967296) ses0 false) ->
       JOpenRel w d f n num0 ses0 w3.heap.size gl gs (D.part f n) (.slice (some ⟨g7, 0, none⟩) (R.length + 1) cap) w10 := by
      intro w10 hf10 hb10; refine ⟨R ++ [(st, b)], vs ++ [v4], k - 1, at_ + st.count, by simp; omega, by omega, by omega, ?_, by simp [HSUM.out], ?_, HR8.out.fr hf10 (fun x hx => .inl (by simp at hx; omega)), ?_, ?_, ?_, HFW8.out.trans hf10 (fun x hx => .inr (by simp at hx; omega))⟩
      ·have hk1 : k = (k - 1) + 1 := by omega
       rw [HRECS.out, hk1, recs_on HRO.out HST.out, lastOf_snoc, List.drop_drop, <- hk1]
       simp
      ·intro x hx; rcases List.mem_append.1 hx with hx | hx
       ·exact HBD.out x hx
       ·simp at hx; subst hx; exact ⟨q3, q4⟩
      ·rw [lastOf_snoc]; exact hb10
      ·rw [lastOf_snoc]; exact HL8.out.fr hf10 (by simp; omega)
      ·exact HS8.out.fr hf10 (by simp; have := HGL.out; omega) (fun g hg hm => by simp at hm; have := HS3.out.lt g hg; have := HGS.out g hg; omega)
     refine ⟨hfs _ ?_ ?_, ?_⟩
     ·first | exact HF9.out.setCell (.inl (by simp)) _ | exact (HF9.out.drew).setCell (.inl (by simp)) _ | exact (HF9.out.setCell (.inl (by simp)) _).drew
     ·first | exact HB9.out.set_ 4 _ | exact HB9.out.drew.set_ 4 _ | exact (HB9.out.set_ 4 _).drew
     ·simp only [sliceLen]; omega
    ·obtain ⟨l, hl⟩ : ∃ l, lastOf R = some l := by
      unfold lastOf
      cases hg : R.getLast? with
      | none => rw [List.getLast?_eq_none_iff] at hg; exact absurd hg hR
      | some x => exact ⟨x.1, rfl⟩
     have hRp : 0 < R.length := by rcases Nat.eq_zero_or_pos R.length with h | h; exact absurd (List.eq_nil_of_length_eq_zero h) hR; exact h
     have hlb : l.number < 4294967296 /\ l.session < 4294967296 := by
      unfold lastOf at hl; obtain ⟨x, hx, rfl⟩ := Option.map_eq_some_iff.1 hl; have := HBD.out x (List.mem_of_getLast? hx); exact ⟨this.2, this.1⟩
     rw [hl] at hl4; have HL4 := lh hl4; have o0 := hl4.at_ (i := 0) rfl; have o1 := hl4.at_ (i := 1) rfl; have HL := lh hl; clear hl4 hl hR; have wadd0 : IntKind.u32.wrap ((l.number : Int) + 1) = (((l.number + 1) % 4294967296 : Nat) : Int) := by rw [IntKind.wrap_u32]; omega
     cases hst : stops (lastOf R) st with
     | true =>
      have hR0 : recordsOf n none (D.part f n) = R := by rw [HRECS.out, recs_stop HRO.out hst, List.append_nil]
      have HR0 := lh hR0; clear hR0; rw [HL.out] at hst; simp only [stops, decide_eq_true_eq] at hst
      by_cases hnn : (st.number : Int) = (((l.number + 1) % 4294967296 : Nat) : Int)
      ·have hss : (st.session : Int) < (l.session : Int) := by omega
       clear hst
       go_wp2
       go_ret3
       exact HEND.out _ HR0.out (HF4.out.alloc _)
      ·clear hst
       go_wp2
       go_ret3
       exact HEND.out _ HR0.out (HF4.out.alloc _)
     | false =>
      have HST := lh hst; rw [HL.out] at hst; simp only [stops, decide_eq_false_iff_not] at hst; have hnn : (st.number : Int) = (((l.number + 1) % 4294967296 : Nat) : Int) := by omega
      have hss : ¬ ((st.session : Int) < (l.session : Int)) := by omega
      have wadd1 : IntKind.u32.wrap ((l.number : Int) + 1) = (st.number : Int) := by rw [wadd0, hnn]
      clear hst wadd0 hnn; go_wp2_with fail; have hfa : Fr [] wr (w4.alloc (.cells (lastCells (some st)).toArray 166)) := HF4.out.alloc _; have hq5 : Blk (w4.alloc (.cells (lastCells (some st)).toArray 166)) w4.heap.size 166 (lastCells (some st)) := Blk.new w4 _ _; have HFA := lh hfa; have HQ5 := lh hq5; clear hfa hq5; refine wp_region_K (fun W => Blk W w4.heap.size 166 (lastCells (some st))) [0, 1, 4] (by kernel_rfl) ?_; refine tks [0, 1] ?_
      iterate 2 (refine tk rfl rfl HQ5.out rfl (fun _ _ => by go_simp <;> with_reducible rfl) ?_; simp only [nrm])
      refine tke ?_; refine tv 4 (.agg (lastCells (some st)).toArray) rfl rfl HQ5.out (yieldsIf_load_mid rfl 166 (.tmp 14) rfl w4.heap.size 0 rfl (lastCells (some st)) _ (fun W hW j v hj => by rw [Nat.zero_add]; exact hW.at_ hj) Tryz.underlying166 rfl (by kernel_rfl)) ?_; simp only [nrm]; obtain ⟨i0, hi0, hz0, hz1, hz2⟩ := info_parts info_bytes; refine sp 2 rfl rfl rfl fun K hK => ?_; refine wp_build_cell (.tmp 94) rfl Tryz.underlying22 hi0 hz0 hz1 rfl v4 rfl HV4C.out (w4.heap.size + 1) (by show (w4.alloc _).heap.size = _; simp) fun w6 hB6 hF6 hz6 => ?_; have hF6' : Fr [] wr w6 := HFA.out.drew.trans hF6 (by simp); have hq6 : Blk w6 w4.heap.size 166 (lastCells (some st)) := HQ5.out.drew.fr hF6 (by simp); refine hK _ _ (fun _ => hq6) ?_; simp only [nrm]; refine sp 3 rfl rfl rfl fun K hK => ?_; refine wp_append_fr (.tmp 93) (.tmp 95) rfl 23 1 24 Tryz.underlying22 hi0 hz0 hz1 hz2 rfl (by omega) (.slice oA R.length oc) R.length vs rfl ?own ⟨w4.heap.size + 1, 0, none⟩ 1 1 [v4] rfl rfl ?news ?one (by omega) (by unfold maxLen; omega) (by omega) (w4.heap.size + 2) hz6 fun g7 cap w7 ho7 hf7 hat7 hlt7 => ?_
      case own => have := (HROWS.out.fr hF6' (by simp)).own; rw [List.length_map] at this; exact this
      case one => intro u hu; simp at hu; subst hu; exact HV41.out
      case news => intro j u hu; rw [Addr.add_mid, Nat.zero_add]; exact hB6.at_ hu
      have hox : ∀ x ∈ (Value.slice oA R.length oc).ownBlock.toList, w3.heap.size + 1 <= x /\ x < wr.heap.size := fun x hx => by
       have h : (Value.slice oA R.length oc).ownBlock = some x := by simpa using hx
       exact ⟨HROWS.out.ge x h, own_lt HROWS.out.own x h⟩
      have hz4 := HF4.out.size; have hlw := HLAST.out.lt; obtain ⟨g4', hb4', hg4', hl4'⟩ := (HB4.out.fr (((Fr.refl [] w4).alloc (.cells (lastCells (some st)).toArray 166)).drew.trans hF6 (by simp)) (by simp)).lt HG4.out (by omega)
      have hr7 : RowsIn w7 (.slice (some ⟨g7, 0, none⟩) (R.length + 1) cap) ((R ++ [(st, b)]).map (·.2)) (vs ++ [v4]) (w3.heap.size + 1) := by
       have hr6 := HROWS.out.fr hF6' (by simp); have hb6 : BytesAt w6 v4 b g4' := hb4'; have := hr6.push (g7 := g7) (cap := cap) (w7 := w7) hb6 (by omega) (by omega) (fun hx => by have := hox g4' (by simp [hx]); omega) HV41.out (by rw [List.length_map]; exact ho7) hf7 (by rw [hz6]; exact hat7) (by omega); rw [List.length_map] at this; rw [List.map_append]; exact this
      have hq7 := hq6.fr hf7 (fun hm => by have := hox _ hm; omega); have hb7 := (HBLK.out.fr hF6' (by simp)).fr hf7 (fun hm => by have := hox _ hm; omega); have hl7 := (HLAST.out.fr hF6' (by simp)).fr hf7 (fun hm => by have := hox _ hm; omega); have hs7 := (HSECS.out.fr hF6' (by simp) (by simp)).fr hf7 (fun hm => by have := hox _ hm; have := HGL3.out; omega) (fun g hg hm => by have := hox _ hm; have := HS3.out.lt g hg; omega); have hfw7 := (HFR.out.trans hF6' (by simp)).trans hf7 (fun x hx => .inr (by have := hox _ hx; omega)); refine hK _ _ (fun _ => hq7) ?_; simp only [nrm]; refine sp 5 rfl rfl rfl fun K hK => ?_; refine wp_run_same (v := ?aq3_5) ?yq3_5 (hK _ _ (fun _ => hq7) ?_)
      case yq3_5 => go_simp <;> with_reducible rfl
      simp only [nrm]; refine wpAnyK_step (j := 6) none rfl rfl (by kernel_rfl) rfl fun K hK => ?_; refine wp_store_blk 166 (.tmp 13) (.tmp 97) rfl (lastCells (some st)) rfl rfl hl7 (by kernel_rfl) (by cases lastOf R <;> rfl) (by intro u hu; simp only [lastCells, List.mem_cons, List.not_mem_nil, or_false] at hu; rcases hu with rfl | rfl | rfl <;> rfl) fun w8 hB8 hF8 _ => hK _ _ (fun h => absurd h (by decide +kernel)) ?_; simp only [Act.put]; refine wd ?_ _; have hq8 := hq7.fr hF8 (by simp; omega); have hb8 := hb7.fr hF8 (by simp; omega); have hs8 := hs7.fr hF8 (by simp; have := HGL3.out; omega) (fun g hg hm => by simp at hm; have := HS3.out.lt g hg; omega); have hr8 := hr7.fr hF8 (fun x hx => .inl (by simp at hx; omega)); have hfw8 := hfw7.trans hF8 (fun x hx => .inr (by simp at hx; omega)); have HQ8 := lh hq8; have HB8 := lh hb8; have HS8 := lh hs8; have HR8 := lh hr8; have HFW8 := lh hfw8; have HL8 := lh hB8; clear hq8 hb8 hs8 hr8 hfw8 hB8 hF8 hfw7 hs7 hl7 hb7 hq7 hr7 hb4' hg4' hl4' hox hat7 ho7 hf7 hlt7 hq6 hF6 hF6' hB6 hz6 hK hi0 hz0 hz1 hz2 m3; have l3 := HB8.out.at_ (i := 3) rfl; have lf := HB8.out.free; have p0 := HQ8.out.at_ (i := 0) rfl; have p1 := HQ8.out.at_ (i := 1) rfl; have p2 := HQ8.out.at_ (i := 2) rfl; have wadd : IntKind.i64.wrap ((at_ : Int) + (st.count : Int)) = (at_ : Int) + (st.count : Int) := by rw [IntKind.wrap_i64]; omega
      go_wp2_with fail; refine wp_region_K (fun W => W.cell? ⟨w.heap.size, 3, none⟩ = some (.int .i64 (at_ : Int)) /\ W.cell? ⟨w4.heap.size, 2, none⟩ = some (.int .i64 (st.count : Int))) [0, 1, 2, 3, 4, 5, 6] (by kernel_rfl) ?_; refine tks [0, 1, 2, 3, 4, 5, 6] ?_
      iterate 7 (refine tk rfl rfl ⟨l3, p2⟩ rfl (fun _ hW => by (obtain ⟨c3, c2⟩ := hW; go_simp) <;> with_reducible rfl) ?_; simp only [nrm])
      refine tke ?_; refine sp 7 rfl rfl rfl fun K hK => ?_; refine wp_run_same (v := ?aq4_7) ?yq4_7 (hK _ _ (fun h => absurd h (by decide +kernel)) ?_)
      case yq4_7 => go_simp <;> with_reducible rfl
      simp only [nrm]; refine sp 8 rfl rfl rfl fun K hK => ?_; refine wp_run_same (v := ?aq4_8) ?yq4_8 (hK _ _ (fun h => absurd h (by decide +kernel)) ?_)
      case yq4_8 => go_simp <;> with_reducible rfl
      simp only [nrm]; refine wpAnyK_step (j := 9) none rfl rfl (by kernel_rfl) rfl fun K hK => ?_; refine wp_run_skip (w' := w8.drew.setCell ⟨w.heap.size, 3, none⟩ (.int .i64 ((at_ : Int) + (st.count : Int)))) (by go_simp) (hK _ _ (fun h => absurd h (by decide +kernel)) ?_); simp only [Act.put]; refine wd ?_ _
      have hb9 : Blk (w8.drew.setCell ⟨w.heap.size, 3, none⟩ (.int .i64 ((at_ : Int) + (st.count : Int)))) w.heap.size 160 (logCells d f n (at_ + st.count) (numAfter num0 (lastOf R)) ses0 false) := by
       have h := HB8.out.drew.set_ 3 (.int .i64 ((at_ : Int) + (st.count : Int))); rw [show (at_ : Int) + (st.count : Int) = ((at_ + st.count : Nat) : Int) by omega] at h ⊢; exact h
      have hf9 : Fr [w.heap.size] w8 (w8.drew.setCell ⟨w.heap.size, 3, none⟩ (.int .i64 ((at_ : Int) + (st.count : Int)))) := (Fr.refl [w.heap.size] w8).drew.setCell (.inl (by simp)) _; generalize (w8.drew.setCell ⟨w.heap.size, 3, none⟩ (.int .i64 ((at_ : Int) + (st.count : Int)))) = w9 at *; clear l3 lf p0 p1 p2 wadd hK; have l4 := hb9.at_ (i := 4) rfl; have lf := hb9.free; have p1 := (HQ8.out.fr hf9 (by simp; omega)).at_ (i := 1) rfl; have HB9 := lh hb9; have HF9 := lh hf9; clear hb9 hf9; have wadd : IntKind.u32.wrap ((st.number : Int) + 1) = (((st.number + 1) % 4294967296 : Nat) : Int) := by rw [IntKind.wrap_u32]; omega
      go_wp2
      have hfs : ∀ w10, Fr [w.heap.size] w8 w10 -> Blk w10 w.heap.size 160 (logCells d f n (at_ + st.count) ((st.number + 1) % 4294967296) ses0 false) ->
        JOpenRel w d f n num0 ses0 w3.heap.size gl gs (D.part f n) (.slice (some ⟨g7, 0, none⟩) (R.length + 1) cap) w10 := by
       intro w10 hf10 hb10; refine ⟨R ++ [(st, b)], vs ++ [v4], k - 1, at_ + st.count, by simp; omega, by omega, by omega, ?_, by simp [HSUM.out], ?_, HR8.out.fr hf10 (fun x hx => .inl (by simp at hx; omega)), ?_, ?_, ?_, HFW8.out.trans hf10 (fun x hx => .inr (by simp at hx; omega))⟩
       ·have hk1 : k = (k - 1) + 1 := by omega
        rw [HRECS.out, hk1, recs_on HRO.out HST.out, lastOf_snoc, List.drop_drop, <- hk1]
        simp
       ·intro x hx; rcases List.mem_append.1 hx with hx | hx
        ·exact HBD.out x hx
        ·simp at hx; subst hx; exact ⟨q3, q4⟩
       ·rw [lastOf_snoc]; exact hb10
       ·rw [lastOf_snoc]; exact HL8.out.fr hf10 (by simp; omega)
       ·exact HS8.out.fr hf10 (by simp; have := HGL.out; omega) (fun g hg hm => by simp at hm; have := HS3.out.lt g hg; have := HGS.out g hg; omega)
      refine ⟨hfs _ ?_ ?_, ?_⟩
      ·first | exact HF9.out.setCell (.inl (by simp)) _ | exact (HF9.out.drew).setCell (.inl (by simp)) _ | exact (HF9.out.setCell (.inl (by simp)) _).drew
      ·first | exact HB9.out.set_ 4 _ | exact HB9.out.drew.set_ 4 _ | exact (HB9.out.set_ 4 _).drew
      ·simp only [sliceLen]; omega
theorem bytes_mark {w : World} {C : List UInt8} {fz : Nat × Nat} (w1 : World) (hw : w1 = w.alloc (.cells (bcells C).toArray 5 fz)) : BytesAt w1 (.slice (some ⟨w.heap.size, 0, none⟩) C.length C.length) C w.heap.size :=
 ⟨_, _, 0, rfl, Nat.le_refl _, fun _ => ⟨rfl, fun j u hu => by
  subst hw; have : (w.alloc (.cells (bcells C).toArray 5 fz)).heap[w.heap.size]? = some (.cells (bcells C).toArray 5 fz) := heap_alloc_new w _; simp only [World.cell?, this, Nat.zero_add]
  simpa using hu⟩⟩
section
variable {w0 w w' : World} {d : Nat} {D D' : DM}
end
theorem run_string_of {P : Program} {w : World} {src e dst : TypeId} (hs : P.underlying src = some (.slice e)) (he : P.underlying e = some (.int .u8)) (hd : P.underlying dst = some .string) {v : Value} {bs : List UInt8} {g : Nat} (h : BytesAt w v bs g) :
  (convert src dst v).run P w = .ok (.string ⟨bs.toArray⟩) w := by
 obtain ⟨A, c, off, rfl, hc, hb⟩ := h; rw [run_convert_bytes_string w src dst e _ _ c hs he hd]
 cases A with
 | none =>
  have h0 : bs = [] := by
   cases bs with
   | nil => rfl
   | cons x xs => have := (hb (by simp)).1; cases this
  subst h0
  simp [Conv.bytesToString]
  rfl
 | some a =>
  have hl : (loadCells a bs.length).run P w = .ok ((bs.map fun (c : UInt8) => (c.toNat : Int)).map (Value.int .u8)).toArray w := by
   have := run_loadCells_list (P := P) w a (bcells bs) (fun j v hj => by
    have h0 : 0 < bs.length := by have := (List.getElem?_eq_some_iff.1 hj).1; rw [bcells_len] at this; omega
    obtain ⟨ha, hcell⟩ := hb h0; injection ha with ha; subst ha; rw [Addr.add_mid]; exact hcell j v hj)
   rw [bcells_len] at this; rw [this]
   congr 2
   simp [bcells, B8, Function.comp_def]
  rw [run_bytesToString w a bs.length c _ hl, foldl_push_bytes]
  have e : (bs.map fun (c : UInt8) => (c.toNat : Int)).map (fun n => UInt8.ofNat n.toNat) = bs := by
   rw [List.map_map]
   conv => rhs; rw [<- List.map_id bs]
   apply List.map_congr_left
   intro x _
   simp
  rw [e]
  simp [ByteArray.empty, ByteArray.emptyWithCapacity]
  rfl
def DkX (w0 w : World) (d : Nat) (D : DM) (X : Nat -> Prop) : Prop := ∃ fp, DiskAt w d D fp /\ (∀ k ∈ fp, w0.heap.size <= k /\ ¬ X k) /\ Fr [] w0 w /\ ∀ k, X k -> k < w.heap.size
def Kp (X : Nat -> Prop) (w w' : World) : Prop := ∃ S, Fr S w w' /\ ∀ x ∈ S, ¬ X x
section
variable {w0 w w' : World} {d : Nat} {D D' : DM} {X Y : Nat -> Prop}
theorem Kp.blk (h : Kp X w w') {g : Nat} {t : TypeId} {cs : List Value} (hb : Blk w g t cs) (hx : X g) : Blk w' g t cs := by
 obtain ⟨S, hf, hS⟩ := h; exact hb.fr hf (fun hm => hS _ hm hx)
theorem Kp.bytes (h : Kp X w w') {g : Nat} {v : Value} {bs : List UInt8} (hb : BytesAt w v bs g) (hx : X g) : BytesAt w' v bs g := by
 obtain ⟨S, hf, hS⟩ := h; exact hb.fr hf (fun hm => hS _ hm hx)
theorem Kp.of (hf : Fr [] w w') : Kp X w w' := ⟨[], hf, by simp⟩
theorem new_X (w0 w : World) (n : Nat) (h1 : 1 <= n) (hn : n <= 65536) (hf : Fr [] w0 w) (hX : ∀ k, X k -> k < w.heap.size) :
  Calls Tryz.prog 28 #[.int .i64 n] w fun e w' => ∃ d, e = .returned (.tuple #[.pointer (some ⟨d, 0, none⟩), .int .i64 0]) /\ DkX w0 w' d (DM.new n) X /\ Fr [] w w' := by
 refine (new_ok n w h1 hn).mono ?_; rintro e w' ⟨d, fp, he, hd, hf', hk⟩; have hz := hf'.size; exact ⟨d, he, ⟨fp, hd, fun k hm => ⟨Nat.le_trans hf.size (hk k hm), fun hx => by have := hX k hx; have := hk k hm; omega⟩, hf.trans hf' (by simp), fun k hx => Nat.lt_of_lt_of_le (hX k hx) hz⟩, hf'⟩
end
def openR (D : DM) (f n : Nat) : List (Stamp × List UInt8) := recordsOf n none (D.part f n)
def openL (D : DM) (f n : Nat) : LG :=
 { f := f, n := n, at_ := ((openR D f n).map (·.1.count)).sum, num := numAfter (((newestOf (D.part f n)).2 + 1) % 4294967296) (lastOf (openR D f n)), ses := (newestOf (D.part f n)).1 + 1, br := false }
structure LG.ok (l : LG) (D : DM) : Prop where
 at_ : l.at_ <= l.n
 fit : l.f + l.n <= D.S.length
 num : l.num < 4294967296
 ses : l.ses < 4294967296
theorem recs_sum : ∀ (k : Nat) (last : Option Stamp) (L : List (List UInt8)), ((recordsOf k last L).map (·.1.count)).sum <= L.length
 | 0, _, L => by simp [recordsOf]
 | k + 1, last, L => by
  cases hr : recordOf L with
  | none => rw [recs_none hr]; simp
  | some x =>
   obtain ⟨st, b⟩ := x; have hb := recordOf_bd hr
   cases hs : stops last st with
   | true => rw [recs_stop hr hs]; simp
   | false =>
    rw [recs_on hr hs]; have := recs_sum k (some st) (L.drop st.count); simp only [List.map_cons, List.sum_cons, List.length_drop] at this ⊢; omega
theorem openL_ok {D : DM} {f n : Nat} (hfit : f + n <= D.S.length) (hnew : (newestOf (D.part f n)).1 < 4294967295) : (openL D f n).ok D := by
 refine ⟨?_, hfit, ?_, ?_⟩
 ·have := recs_sum n none (D.part f n); rw [D.part_len] at this; exact this
 ·show numAfter _ _ < _
  unfold numAfter
  split <;> omega
 ·show _ + 1 < _; omega
section
variable {w0 w w' : World} {d : Nat} {D D' : DM} {X Y : Nat -> Prop}
end
end
section
theorem word4 (n : Nat) (h : n < 4294967296) : wordOf [byteAt n 3, byteAt n 2, byteAt n 1, byteAt n 0] = n := by
 simp [wordOf, byteAt]
 omega
theorem word2 (n : Nat) (h : n < 65536) : wordOf [byteAt n 1, byteAt n 0] = n := by
 simp [wordOf, byteAt]
 omega
theorem piece_written (p : Pc) (h1 : p.st.session < 4294967296) (h2 : p.st.number < 4294967296) (h3 : p.st.count < 65536) (h4 : p.place < 65536) (h5 : p.b.length <= 48) : pieceOf (pad (writtenOf p)) = some p := by
 have hl : (pad (writtenOf p)).length = 64 := pad_len (by rw [writtenOf_len]; omega)
 obtain ⟨Z, hZ⟩ : ∃ Z, pad (writtenOf p) = 165 :: 90 :: byteAt p.st.session 3 :: byteAt p.st.session 2 :: byteAt p.st.session 1 :: byteAt p.st.session 0 :: byteAt p.st.number 3 :: byteAt p.st.number 2 :: byteAt p.st.number 1 :: byteAt p.st.number 0 ::
   byteAt p.place 1 :: byteAt p.place 0 :: byteAt p.st.count 1 :: byteAt p.st.count 0 :: UInt8.ofNat p.b.length :: 0 :: (p.b ++ Z) := ⟨List.replicate (64 - (writtenOf p).length) 0, by simp [pad, writtenOf]⟩
 have hb : (UInt8.ofNat p.b.length).toNat = p.b.length := by simp; omega
 unfold pieceOf; rw [if_pos ⟨hl, by rw [hZ]; rfl, by rw [hZ]; rfl, by rw [hZ]; show (UInt8.ofNat p.b.length).toNat <= 48; omega⟩, hZ]; have e1 := word4 _ h1; have e2 := word4 _ h2; have e3 := word2 _ h3; have e4 := word2 _ h4
 simp [e1, e2, e3, e4]
 rw [Nat.mod_eq_of_lt (by omega), List.take_left]
def secP (ses num : Nat) (b : List UInt8) (k : Nat) : List UInt8 := pad (writtenOf (pieceAt ses num b k))
def secsP (ses num : Nat) (b : List UInt8) : List (List UInt8) := (List.range (needOf b.length)).map (secP ses num b)
theorem secsP_eq (ses num : Nat) (b : List UInt8) : (sectorsOf ses num b).map pad = secsP ses num b := by simp [sectorsOf, secsP, secP]
theorem secsP_len (ses num : Nat) (b : List UInt8) : (secsP ses num b).length = needOf b.length := by simp [secsP]
theorem secsP_at (ses num : Nat) (b : List UInt8) {k : Nat} (hk : k < needOf b.length) : (secsP ses num b)[k]? = some (secP ses num b k) := by simp [secsP, hk]
theorem need_pos (n : Nat) : 1 <= needOf n := by unfold needOf; split <;> omega
theorem need_hi (n : Nat) : n <= 48 * needOf n := by unfold needOf; split <;> omega
structure Fits (ses num : Nat) (b : List UInt8) : Prop where
 ses : ses < 4294967296
 num : num < 4294967296
 need : needOf b.length <= 65535
theorem pieceAt_len (ses num : Nat) (b : List UInt8) (k : Nat) : (pieceAt ses num b k).b.length = min 48 (b.length - 48 * k) := by simp [pieceAt]
theorem piece_secP {ses num : Nat} {b : List UInt8} (h : Fits ses num b) {k : Nat} (hk : k < needOf b.length) : pieceOf (secP ses num b k) = some (pieceAt ses num b k) := by
 have := h.need; exact piece_written _ h.ses h.num (by show needOf b.length < 65536; omega) (by show k < 65536; omega) (by rw [pieceAt_len]; omega)
def stampAt (ses num : Nat) (b : List UInt8) : Stamp := ⟨ses, num, needOf b.length⟩
theorem collect_laid {ses num : Nat} {b : List UInt8} (h : Fits ses num b) : ∀ (j k : Nat), k + j = needOf b.length -> collect (stampAt ses num b) k ((List.range' k j).map (secP ses num b)) = some (b.drop (48 * k))
 | 0, k, hk => by
  have := need_hi b.length; rw [List.drop_of_length_le (by omega)]
  rfl
 | j + 1, k, hk => by
  have hkn : k < needOf b.length := by omega
  rw [List.range'_succ, List.map_cons]; simp only [collect, piece_secP h hkn]
  have hlen : k + 1 < (stampAt ses num b).count -> (pieceAt ses num b k).b.length = 48 := fun hc => by
   rw [pieceAt_len]; have := need_lo (m := b.length) (k := k + 1) hc; omega
  rw [if_pos ⟨rfl, rfl, hlen⟩, collect_laid h j (k + 1) (by omega)]; simp only [Option.map_some, Option.some.injEq]
  show (b.drop (48 * k)).take 48 ++ b.drop (48 * (k + 1)) = b.drop (48 * k)
  rw [show 48 * (k + 1) = 48 * k + 48 by omega, <- List.drop_drop, List.take_append_drop]
theorem recordOf_laid {ses num : Nat} {b : List UInt8} (h : Fits ses num b) (T : List (List UInt8)) : recordOf (secsP ses num b ++ T) = some (stampAt ses num b, b) := by
 have hp := need_pos b.length; have hc := collect_laid h (needOf b.length) 0 (by omega); have ht : (secsP ses num b ++ T).take (needOf b.length) = secsP ses num b := by rw [<- secsP_len ses num b, List.take_left]
 obtain ⟨r, hr⟩ : ∃ r, secsP ses num b ++ T = secP ses num b 0 :: r := by
  cases hs : secsP ses num b ++ T with
  | nil => have := congrArg List.length hs; rw [List.length_append, secsP_len] at this; simp at this; omega
  | cons x r =>
   have h0 : (secsP ses num b ++ T)[0]? = some (secP ses num b 0) := by rw [List.getElem?_append_left (by rw [secsP_len]; omega), secsP_at ses num b hp]
   rw [hs] at h0
   simp at h0
   exact ⟨r, by rw [h0]⟩
 have hl : needOf b.length <= (secsP ses num b ++ T).length := by rw [List.length_append, secsP_len]; omega
 rw [hr] at ht hl ⊢; simp only [recordOf, piece_secP h hp]; rw [if_neg (by show ¬ (needOf b.length < 1 ∨ _ < needOf b.length); omega)]
 show (collect (stampAt ses num b) 0 ((secP ses num b 0 :: r).take (needOf b.length))).map _ = _
 rw [ht]; unfold secsP; rw [List.range_eq_range', hc]
 rfl
theorem collect_at {st : Stamp} : ∀ (L : List (List UInt8)) (k : Nat) (b : List UInt8), collect st k L = some b -> ∀ j s, L[j]? = some s -> ∃ q, pieceOf s = some q /\ q.st = st /\ q.place = k + j
 | [], k, b, h, j, s, hj => by simp at hj
 | x :: L, k, b, h, j, s, hj => by
  simp only [collect] at h
  cases hp : pieceOf x with
  | none => rw [hp] at h; cases h
  | some q =>
   rw [hp] at h
   simp only at h
   split at h
   ·rename_i hq
    obtain ⟨c, hc, _⟩ := Option.map_eq_some_iff.1 h
    cases j with
    | zero => simp at hj; subst hj; exact ⟨q, hp, hq.1, by omega⟩
    | succ j =>
     obtain ⟨q', h1, h2, h3⟩ := collect_at L (k + 1) c hc j s (by simpa using hj); exact ⟨q', h1, h2, by omega⟩
   ·cases h
theorem record_at {L : List (List UInt8)} {st : Stamp} {b : List UInt8} (h : recordOf L = some (st, b)) {k : Nat} (hk : k < st.count) : ∃ s q, L[k]? = some s /\ pieceOf s = some q /\ q.st = st /\ q.place = k := by
 have hb := recordOf_bd h
 cases L with
 | nil => simp [recordOf] at h
 | cons s L =>
  simp only [recordOf] at h
  cases hp : pieceOf s with
  | none => rw [hp] at h; cases h
  | some p =>
   rw [hp] at h
   simp only at h
   split at h
   ·cases h
   ·obtain ⟨c, hc2, he⟩ := Option.map_eq_some_iff.1 h; simp only [Prod.mk.injEq] at he; obtain ⟨rfl, rfl⟩ := he; have hk2 : k < (s :: L).length := by omega
    obtain ⟨q, h1, h2, h3⟩ := collect_at _ 0 c hc2 k _ (by rw [List.getElem?_take, if_pos hk]; exact List.getElem?_eq_getElem hk2); exact ⟨_, q, List.getElem?_eq_getElem hk2, h1, h2, by omega⟩
theorem record_congr {L L' : List (List UInt8)} {st : Stamp} {b : List UInt8} (h : recordOf L = some (st, b)) (hL : ∀ k, k < st.count -> L'[k]? = L[k]?) : recordOf L' = some (st, b) := by
 have hb := recordOf_bd h
 have hl : st.count <= L'.length := by
  have h1 := hL (st.count - 1) (by omega); rw [List.getElem?_eq_getElem (show st.count - 1 < L.length by omega)] at h1; have := (List.getElem?_eq_some_iff.1 h1).1; omega
 have ht : L'.take st.count = L.take st.count := by
  apply List.ext_getElem?
  intro i; rw [List.getElem?_take, List.getElem?_take]
  split
  ·exact hL i (by assumption)
  ·rfl
 have h0 := hL 0 (by omega)
 cases L with
 | nil => simp [recordOf] at h
 | cons s L =>
  cases L' with
  | nil => simp at h0
  | cons s' L' =>
   simp at h0
   subst h0; simp only [recordOf] at h ⊢
   cases hp : pieceOf s' with
   | none => rw [hp] at h; cases h
   | some p =>
    rw [hp] at h
    simp only at h ⊢
    split at h
    ·cases h
    ·obtain ⟨c, hc2, he⟩ := Option.map_eq_some_iff.1 h; simp only [Prod.mk.injEq] at he; obtain ⟨rfl, rfl⟩ := he; rw [if_neg (by omega), ht, hc2]
     rfl
def Torn (L L' : List (List UInt8)) (ses num : Nat) (b : List UInt8) : Prop :=
 L'.length = L.length /\ ∀ j, L'[j]? = L[j]? ∨ (j < needOf b.length /\ L'[j]? = some (secP ses num b j))
def NoneOf (L : List (List UInt8)) (ses num : Nat) : Prop := ∀ s ∈ L, ∀ q, pieceOf s = some q -> ¬ (q.st.session = ses /\ q.st.number = num)
theorem torn_record {L L' : List (List UInt8)} {ses num : Nat} {b : List UInt8} (hT : Torn L L' ses num b) (hF : Fits ses num b) (hN : NoneOf L ses num) {st : Stamp} {b' : List UInt8} (h : recordOf L' = some (st, b')) :
  (st = stampAt ses num b /\ b' = b /\ L' = secsP ses num b ++ L.drop (needOf b.length)) ∨ recordOf L = some (st, b') := by
 have hb := recordOf_bd h
 by_cases hs : st.session = ses /\ st.number = num
 ·left
  have hnew : ∀ k, k < st.count -> k < needOf b.length /\ L'[k]? = some (secP ses num b k) := by
   intro k hk; obtain ⟨s, q, h1, h2, h3, h4⟩ := record_at h hk; rcases hT.2 k with h5 | h5
   ·rw [h1] at h5; exact absurd (by rw [h3]; exact hs) (hN s (List.mem_of_getElem? h5.symm) q h2)
   ·exact h5
  obtain ⟨h6, h7⟩ := hnew 0 (by omega); obtain ⟨s, q, h1, h2, h3, h4⟩ := record_at h (k := 0) (by omega); rw [h1] at h7; injection h7 with h7; subst h7; rw [piece_secP hF h6] at h2; injection h2 with h2; subst h2; have hst : st = stampAt ses num b := h3.symm; subst hst
  have e : L' = secsP ses num b ++ L'.drop (needOf b.length) := by
   conv => lhs; rw [<- List.take_append_drop (needOf b.length) L']
   congr 1
   apply List.ext_getElem?
   intro i; rw [List.getElem?_take]
   split
   ·rw [(hnew i (by assumption)).2, secsP_at ses num b (by assumption)]
   ·rw [List.getElem?_eq_none (by rw [secsP_len]; omega)]
  refine ⟨rfl, ?_, ?_⟩
  ·rw [e, recordOf_laid hF] at h
   simp at h
   exact h.symm
  ·rw [e]
   congr 1
   apply List.ext_getElem?
   intro i; rw [List.getElem?_drop, List.getElem?_drop]; rcases hT.2 (needOf b.length + i) with h5 | h5
   ·rw [h5]
   ·omega
 ·right
  refine record_congr h fun k hk => ?_; obtain ⟨s, q, h1, h2, h3, h4⟩ := record_at h hk; rcases hT.2 k with h5 | ⟨h5, h6⟩
  ·exact h5.symm
  ·rw [h1] at h6; injection h6 with h6; subst h6; rw [piece_secP hF h5] at h2; injection h2 with h2; subst h2; exact absurd (by rw [<- h3]; exact ⟨rfl, rfl⟩) hs
theorem torn_keep {L L' : List (List UInt8)} {ses num : Nat} {b : List UInt8} (hT : Torn L L' ses num b) (h : ∀ k, k < needOf b.length -> k < L.length -> L'[k]? = some (secP ses num b k)) (hl : needOf b.length <= L.length) : L' = secsP ses num b ++ L.drop (needOf b.length) := by
 apply List.ext_getElem?
 intro i; rcases Nat.lt_or_ge i (needOf b.length) with hi | hi
 ·rw [List.getElem?_append_left (by rw [secsP_len]; exact hi), secsP_at ses num b hi]; exact h i hi (by omega)
 ·rw [List.getElem?_append_right (by rw [secsP_len]; exact hi), secsP_len, List.getElem?_drop, show needOf b.length + (i - needOf b.length) = i by omega]; rcases hT.2 i with h5 | h5
  ·exact h5
  ·omega
def zsec : List UInt8 := List.replicate 64 0
theorem piece_zero : pieceOf zsec = none := by decide +kernel
theorem zero_none {L : List (List UInt8)} (h : ∀ s ∈ L, s = zsec) : recordOf L = none := by
 cases L with
 | nil => rfl
 | cons s L =>
  have := h s (List.mem_cons_self ..); subst this; simp only [recordOf, piece_zero]
theorem newFold_ge (L : List (List UInt8)) : ∀ a : Nat × Nat, a.1 <= (newFrom a L).1 /\ a.2 <= (newFrom a L).2 /\ ∀ s ∈ L, ∀ q, pieceOf s = some q -> q.st.session <= (newFrom a L).1 /\ q.st.number <= (newFrom a L).2 := by
 induction L with
 | nil => intro a; exact ⟨Nat.le_refl _, Nat.le_refl _, by simp⟩
 | cons s L ih =>
  intro a; have h := ih (newStep a s); have e : newFrom a (s :: L) = newFrom (newStep a s) L := rfl; rw [e]
  have hs : a.1 <= (newStep a s).1 /\ a.2 <= (newStep a s).2 /\ ∀ q, pieceOf s = some q -> q.st.session <= (newStep a s).1 /\ q.st.number <= (newStep a s).2 := by
   unfold newStep
   cases hp : pieceOf s with
   | none => exact ⟨Nat.le_refl _, Nat.le_refl _, by simp⟩
   | some p => exact ⟨Nat.le_max_left .., Nat.le_max_left .., fun q hq => by simp at hq; subst hq; exact ⟨Nat.le_max_right .., Nat.le_max_right ..⟩⟩
  refine ⟨by omega, by omega, fun x hx q hq => ?_⟩; rcases List.mem_cons.1 hx with rfl | hx
  ·have := hs.2.2 q hq; omega
  ·exact h.2.2 x hx q hq
theorem newFold_le (L : List (List UInt8)) (c e : Nat) (h : ∀ s ∈ L, ∀ q, pieceOf s = some q -> q.st.session <= c /\ q.st.number <= e) : ∀ a : Nat × Nat, a.1 <= c -> a.2 <= e -> (newFrom a L).1 <= c /\ (newFrom a L).2 <= e := by
 induction L with
 | nil => intro a h1 h2; exact ⟨h1, h2⟩
 | cons s L ih =>
  intro a h1 h2
  have hs : (newStep a s).1 <= c /\ (newStep a s).2 <= e := by
   unfold newStep
   cases hp : pieceOf s with
   | none => exact ⟨h1, h2⟩
   | some p => have := h s (List.mem_cons_self ..) p hp; exact ⟨by show max _ _ <= _; omega, by show max _ _ <= _; omega⟩
  exact ih (fun x hx => h x (List.mem_cons_of_mem _ hx)) _ hs.1 hs.2
end
section
def zipAt (pos : Nat) : List (List UInt8) -> List (Nat × List UInt8)
 | [] => []
 | s :: ss => (pos, pad s) :: zipAt (pos + 1) ss
theorem zip_mem (ss : List (List UInt8)) : ∀ pos, ∀ p ∈ zipAt pos ss, ∃ i s, ss[i]? = some s /\ p = (pos + i, pad s) := by
 induction ss with
 | nil => intro pos p hp; simp [zipAt] at hp
 | cons s ss ih =>
  intro pos p hp; rcases List.mem_cons.1 hp with rfl | hp
  ·exact ⟨0, s, rfl, rfl⟩
  ·obtain ⟨i, s', h1, h2⟩ := ih (pos + 1) p hp; exact ⟨i + 1, s', by simpa using h1, by rw [h2, show pos + 1 + i = pos + (i + 1) by omega]⟩
theorem layJ_ok (ss : List (List UInt8)) : ∀ (D : DM) (pos : Nat), D.dead = false -> pos + ss.length <= D.S.length -> (∀ s ∈ ss, s.length <= 64) -> (D.limit = -1 ∨ (ss.length : Int) < D.limit) ->
  layJ D pos ss = ({ S := layAll D.S (D.P ++ zipAt pos ss), P := [], limit := if D.limit = -1 then -1 else D.limit - ss.length - 1, dead := false, done := D.done + ss.length + 1 }, 0) := by
 induction ss with
 | nil =>
  intro D pos hd hp hs hl; simp only [List.length_nil] at hl
  show (D.sync, D.syncE) = _
  have h0 : D.limit ≠ 0 := by omega
  simp only [DM.sync, DM.syncE, hd, Bool.false_eq_true, if_false, h0, DM.spent, zipAt, List.append_nil, List.length_nil]
  congr 2
  split
  ·rw [if_neg (by omega)]; simp
  ·rw [if_pos (by omega)]; omega
 | cons s ss ih =>
  intro D pos hd hp hs hl; simp only [List.length_cons] at hl hp; have hsl := hs s (List.mem_cons_self ..); have h0 : D.limit ≠ 0 := by omega
  have hE : D.writeE (pos : Int) s = 0 := by
   unfold DM.writeE; rw [hd, if_neg (by simp), if_neg (by omega), if_neg h0]
  rw [layJ_on hE, write_eq hd (by omega) hsl h0]; rw [ih { D.spent with P := D.P ++ [(pos, pad s)] } (pos + 1) hd (by show pos + 1 + ss.length <= D.S.length; omega) (fun x hx => hs x (List.mem_cons_of_mem _ hx)) (by show (if 0 < D.limit then D.limit - 1 else D.limit) = -1 ∨ (ss.length : Int) < (if 0 < D.limit then D.limit - 1 else D.limit); split <;> omega)]; simp only [DM.spent, zipAt, List.append_assoc, List.singleton_append, List.length_cons]
  congr 2
  ·rcases hl with hl | hl <;> (repeat' split) <;> omega
  ·omega
theorem layJ_dead (ss : List (List UInt8)) : ∀ (D : DM) (pos : Nat), D.dead = false -> pos + ss.length <= D.S.length -> (∀ s ∈ ss, s.length <= 64) -> 0 <= D.limit -> D.limit <= ss.length ->
  layJ D pos ss = ({ S := D.S, P := D.P ++ (zipAt pos ss).take D.limit.toNat, limit := 0, dead := true, done := D.done + D.limit.toNat }, 10) := by
 induction ss with
 | nil =>
  intro D pos hd hp hs hl0 hl; have h0 : D.limit = 0 := by simp at hl; omega
  show (D.sync, D.syncE) = _
  simp [DM.sync, DM.syncE, hd, h0, DM.died, zipAt]
 | cons s ss ih =>
  intro D pos hd hp hs hl0 hl; simp only [List.length_cons] at hl hp; have hsl := hs s (List.mem_cons_self ..)
  by_cases h0 : D.limit = 0
  ·have hE : D.writeE (pos : Int) s = 10 := by
    unfold DM.writeE; rw [hd, if_neg (by simp), if_neg (by omega), if_pos h0]
   have hW : D.write (pos : Int) s = D.died := by
    unfold DM.write; rw [hd, if_neg (by simp), if_neg (by omega), if_pos h0]
   rw [layJ_stop (by rw [hE]; decide), hE, hW, h0]
   simp [DM.died, h0]
  ·have hE : D.writeE (pos : Int) s = 0 := by
    unfold DM.writeE; rw [hd, if_neg (by simp), if_neg (by omega), if_neg h0]
   rw [layJ_on hE, write_eq hd (by omega) hsl h0]; have hpos : 0 < D.limit := by omega
   rw [ih { D.spent with P := D.P ++ [(pos, pad s)] } (pos + 1) hd (by show pos + 1 + ss.length <= D.S.length; omega) (fun x hx => hs x (List.mem_cons_of_mem _ hx)) (by show 0 <= (if 0 < D.limit then D.limit - 1 else D.limit); rw [if_pos hpos]; omega) (by show (if 0 < D.limit then D.limit - 1 else D.limit) <= _; rw [if_pos hpos]; omega)]; simp only [DM.spent, zipAt, List.append_assoc, List.singleton_append, hpos, if_true]; have e : D.limit.toNat = (D.limit - 1).toNat + 1 := by omega
   rw [e, List.take_succ_cons]
   congr 2
   omega
theorem lay_whole (ss : List (List UInt8)) : ∀ A B, ss.length <= B.length -> layAll (A ++ B) (zipAt A.length ss) = A ++ (ss.map pad ++ B.drop ss.length) := by
 induction ss with
 | nil => intro A B _; simp [zipAt, layAll]
 | cons s ss ih =>
  intro A B hB
  cases B with
  | nil => simp at hB
  | cons x B =>
   show layAll ((A ++ x :: B).set A.length (pad s)) (zipAt (A.length + 1) ss) = _
   have e : (A ++ x :: B).set A.length (pad s) = (A ++ [pad s]) ++ B := by simp
   have h := ih (A ++ [pad s]) B (by simpa using hB); rw [List.length_append, List.length_singleton] at h; rw [e, h]
   simp
theorem lay_torn (ss : List (List UInt8)) (pos : Nat) : ∀ (Ps : List (Nat × List UInt8)) (S : List (List UInt8)), (∀ p ∈ Ps, ∃ i s, ss[i]? = some s /\ p = (pos + i, pad s)) ->
  (layAll S Ps).length = S.length /\ ∀ j, (layAll S Ps)[j]? = S[j]? ∨ ∃ i s, ss[i]? = some s /\ j = pos + i /\ (layAll S Ps)[j]? = some (pad s)
 | [], S, _ => ⟨rfl, fun j => .inl rfl⟩
 | p :: Ps, S, h => by
  obtain ⟨i, s, hi, rfl⟩ := h p (List.mem_cons_self ..); obtain ⟨h1, h2⟩ := lay_torn ss pos Ps (S.set (pos + i) (pad s)) (fun q hq => h q (List.mem_cons_of_mem _ hq)); refine ⟨by rw [show layAll S ((pos + i, pad s) :: Ps) = layAll (S.set (pos + i) (pad s)) Ps from rfl, h1]; simp, fun j => ?_⟩; rw [show layAll S ((pos + i, pad s) :: Ps) = layAll (S.set (pos + i) (pad s)) Ps from rfl]; rcases h2 j with h3 | h3
  ·rw [h3, List.getElem?_set]
   by_cases hj : pos + i = j
   ·rw [if_pos hj]
    by_cases hl : pos + i < S.length
    ·right; exact ⟨i, s, hi, hj.symm, by simp [hl]⟩
    ·left; simp [hl]; rw [<- hj]; omega
   ·left; rw [if_neg hj]
  ·exact .inr h3
structure St (D : DM) (f : Nat) (V : List (List UInt8)) : Prop where
 dead : D.dead = false
 pend : D.P = []
 part : ∃ S0 S1, D.S = S0 ++ (V ++ S1) /\ S0.length = f
theorem St.fit {D : DM} {f : Nat} {V : List (List UInt8)} (h : St D f V) : f + V.length <= D.S.length := by
 obtain ⟨S0, S1, h1, h2⟩ := h.part; rw [h1]; simp; omega
theorem St.view {D : DM} {f : Nat} {V : List (List UInt8)} (h : St D f V) {n : Nat} (hn : V.length = n) : D.part f n = V := by
 obtain ⟨S0, S1, h1, h2⟩ := h.part
 apply List.ext_getElem?
 intro i; unfold DM.part; rw [List.getElem?_map]; rcases Nat.lt_or_ge i n with hi | hi
 ·rw [List.getElem?_range hi]; simp only [Option.map_some, DM.look, h.pend, lookAll, List.foldl_nil, h1]; rw [List.getD_eq_getElem?_getD, List.getElem?_append_right (by omega), h2, show f + i - f = i by omega, List.getElem?_append_left (by omega), List.getElem?_eq_getElem (by omega)]
  rfl
 ·rw [List.getElem?_eq_none (by simpa using hi), List.getElem?_eq_none (by omega)]
  rfl
theorem sectors_short {ses num : Nat} {b : List UInt8} : ∀ s ∈ sectorsOf ses num b, s.length <= 64 := by
 intro s hs; unfold sectorsOf at hs; obtain ⟨k, _, rfl⟩ := List.mem_map.1 hs; rw [writtenOf_len, pieceAt_len]; omega
structure LgAt (l : LG) (f n at_ : Nat) : Prop where
 f : l.f = f
 n : l.n = n
 at_ : l.at_ = at_
 br : l.br = false
section
variable {D : DM} {l : LG} {f : Nat} {A B : List (List UInt8)} {b : List UInt8}
theorem append_whole (hS : St D f (A ++ B)) (hA : LgAt l f (A ++ B).length A.length) (hm : needOf b.length <= B.length) (h65 : needOf b.length <= 65535) (hlim : D.limit = -1 ∨ (needOf b.length : Int) < D.limit) :
  appendE D l b = 0 /\ St (appendD D l b) f (A ++ (secsP l.ses l.num b ++ B.drop (needOf b.length))) /\ appendL D l b = { l with at_ := A.length + needOf b.length, num := (l.num + 1) % 4294967296 } /\ (appendD D l b).limit = (if D.limit = -1 then -1 else D.limit - needOf b.length - 1) /\ (appendD D l b).done = D.done + needOf b.length + 1 := by
 have h1 : ¬ (l.br = true) := by rw [hA.br]; simp
 have h2 : ¬ (l.n - l.at_ < needOf b.length) := by rw [hA.n, hA.at_, List.length_append]; omega
 have hfit := hS.fit; rw [List.length_append] at hfit; have hr := layJ_ok (sectorsOf l.ses l.num b) D (l.f + l.at_) hS.dead (by rw [sectorsOf_len, hA.f, hA.at_]; omega) sectors_short (by rw [sectorsOf_len]; exact hlim); rw [sectorsOf_len] at hr; unfold appendE appendD appendL; simp only [h1, if_false, h2, show ¬ (65535 < needOf b.length) by omega]; rw [hr]; refine ⟨rfl, ⟨rfl, rfl, ?_⟩, by simp [hA.at_], rfl, rfl⟩; obtain ⟨S0, S1, e1, e2⟩ := hS.part; refine ⟨S0, S1, ?_, e2⟩
 show layAll D.S (D.P ++ zipAt (l.f + l.at_) (sectorsOf l.ses l.num b)) = _
 have e3 : D.S = (S0 ++ A) ++ (B ++ S1) := by rw [e1]; simp
 have e4 : l.f + l.at_ = (S0 ++ A).length := by rw [hA.f, hA.at_, List.length_append, e2]
 rw [hS.pend, List.nil_append, e3, e4, lay_whole _ _ _ (by rw [sectorsOf_len, List.length_append]; omega), secsP_eq, sectorsOf_len, List.drop_append_of_le_length hm]
 simp
theorem append_torn (hS : St D f (A ++ B)) (hA : LgAt l f (A ++ B).length A.length) (hm : needOf b.length <= B.length) (h65 : needOf b.length <= 65535) (hl0 : 0 <= D.limit) (hlim : D.limit <= needOf b.length) (K : List Bool) :
  appendE D l b = 10 /\ (appendD D l b).dead = true /\ (appendD D l b).done <= D.done + needOf b.length /\ (∃ T, St ((appendD D l b).reopen K) f (A ++ T) /\ Torn B T l.ses l.num b) /\ appendL D l b = { l with br := true } := by
 have h1 : ¬ (l.br = true) := by rw [hA.br]; simp
 have h2 : ¬ (l.n - l.at_ < needOf b.length) := by rw [hA.n, hA.at_, List.length_append]; omega
 have hfit := hS.fit; rw [List.length_append] at hfit; have hr := layJ_dead (sectorsOf l.ses l.num b) D (l.f + l.at_) hS.dead (by rw [sectorsOf_len, hA.f, hA.at_]; omega) sectors_short hl0 (by rw [sectorsOf_len]; exact hlim); unfold appendE appendD appendL; simp only [h1, if_false, h2, show ¬ (65535 < needOf b.length) by omega]; rw [hr]; refine ⟨rfl, rfl, by show D.done + D.limit.toNat <= _; omega, ?_, rfl⟩; obtain ⟨S0, S1, e1, e2⟩ := hS.part; have e4 : l.f + l.at_ = (S0 ++ A).length := by rw [hA.f, hA.at_, List.length_append, e2]
 obtain ⟨t1, t2⟩ := lay_torn (sectorsOf l.ses l.num b) (l.f + l.at_) (keptOf (D.P ++ (zipAt (l.f + l.at_) (sectorsOf l.ses l.num b)).take D.limit.toNat) K) D.S (fun p hp => by
  have := keptOf_mem _ _ p hp; rw [hS.pend, List.nil_append] at this; exact zip_mem _ _ p (List.mem_of_mem_take this))
 obtain ⟨S', hS'⟩ : ∃ S', S' = layAll D.S (keptOf (D.P ++ (zipAt (l.f + l.at_) (sectorsOf l.ses l.num b)).take D.limit.toNat) K) := ⟨_, rfl⟩; rw [<- hS'] at t1 t2; have e3 : D.S = (S0 ++ A) ++ (B ++ S1) := by rw [e1]; simp
 have hsl : ∀ (i : Nat) (s : List UInt8), (sectorsOf l.ses l.num b)[i]? = some s -> i < needOf b.length /\ pad s = secP l.ses l.num b i := fun i s hi => by
  have hlt := (List.getElem?_eq_some_iff.1 hi).1; rw [sectorsOf_len] at hlt; have h5 := secsP_at l.ses l.num b hlt; rw [<- secsP_eq, List.getElem?_map, hi] at h5
  simp at h5
  exact ⟨hlt, h5⟩
 have hpt : ∀ j, j < (S0 ++ A).length ∨ (S0 ++ A).length + B.length <= j -> S'[j]? = D.S[j]? := fun j hj => by
  rcases t2 j with h | ⟨i, s, hi, hji, _⟩
  ·exact h
  ·have := (hsl i s hi).1; rw [e4] at hji; omega
 have q1 : S'.take (S0 ++ A).length = S0 ++ A := by
  have : S'.take (S0 ++ A).length = D.S.take (S0 ++ A).length := by
   apply List.ext_getElem?
   intro i; rw [List.getElem?_take, List.getElem?_take]
   split
   ·exact hpt i (.inl (by assumption))
   ·rfl
  rw [this, e3, List.take_left]
 have q2 : S'.drop ((S0 ++ A).length + B.length) = S1 := by
  have : S'.drop ((S0 ++ A).length + B.length) = D.S.drop ((S0 ++ A).length + B.length) := by
   apply List.ext_getElem?
   intro i; rw [List.getElem?_drop, List.getElem?_drop]; exact hpt _ (.inr (by omega))
  rw [this, e3, List.drop_length_add_append, List.drop_left]
 have q3 : S' = (S0 ++ A) ++ ((S'.drop (S0 ++ A).length).take B.length ++ S1) := by
  conv => lhs; rw [<- List.take_append_drop (S0 ++ A).length S', q1]
  congr 1
  conv => lhs; rw [<- List.take_append_drop B.length (S'.drop (S0 ++ A).length)]
  rw [List.drop_drop, q2]
 refine ⟨(S'.drop (S0 ++ A).length).take B.length, ⟨rfl, rfl, S0, S1, ?_, e2⟩, ?_, ?_⟩
 ·show layAll D.S (keptOf (D.P ++ (zipAt (l.f + l.at_) (sectorsOf l.ses l.num b)).take D.limit.toNat) K) = _
  rw [<- hS']
  conv => lhs; rw [q3]
  simp
 ·rw [List.length_take, List.length_drop, t1, e3]
  simp
  omega
 ·intro j; rw [List.getElem?_take]
  by_cases hj : j < B.length
  ·rw [if_pos hj, List.getElem?_drop]; rcases t2 ((S0 ++ A).length + j) with h | ⟨i, s, hi, hji, h⟩
   ·left
    rw [h, e3, List.getElem?_append_right (by omega), show (S0 ++ A).length + j - (S0 ++ A).length = j by omega, List.getElem?_append_left hj]
   ·right
    rw [e4] at hji; have : i = j := by omega
    subst this; rw [h, (hsl i s hi).2]; exact ⟨(hsl i s hi).1, rfl⟩
  ·left
   rw [if_neg hj, List.getElem?_eq_none (by omega)]
end
end
section
theorem newestOf_eq (L : List (List UInt8)) : newestOf L = newFrom (0, 0) L := newFrom_eq L
theorem rep_zero (n : Nat) : ∀ s ∈ List.replicate n zsec, s = zsec := fun _ hs => (List.mem_replicate.1 hs).2
theorem recs_cons {ses num : Nat} {b : List UInt8} (h : Fits ses num b) (T : List (List UInt8)) (k : Nat) (last : Option Stamp) (hs : stops last (stampAt ses num b) = false) :
  recordsOf (k + 1) last (secsP ses num b ++ T) = (stampAt ses num b, b) :: recordsOf k (some (stampAt ses num b)) T := by
 rw [recs_on (recordOf_laid h T) hs]
 congr 2
 show List.drop (needOf b.length) _ = T
 rw [<- secsP_len ses num b, List.drop_left]
end
end Go.Proofs.YtpjbdpepofnleaaGreat
