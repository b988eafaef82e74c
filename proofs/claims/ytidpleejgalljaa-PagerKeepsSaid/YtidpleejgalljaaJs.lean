/-
  The journal over the disk as plain data: an Append under a limit, and what is told behind it. No program in sight.
-/
import Derived.Test.YtidpleejgalljaaJr
namespace Go.Proofs.Ytidpleejgalljaa

theorem appendS_len (D : DM) (l : LG) (b : List UInt8) : (appendD D l b).S.length = D.S.length := by
  unfold appendD
  split
  · rfl
  · split
    · rfl
    · split
      · rfl
      · exact layJ_S _ _ _
theorem torn_all {L : List (List UInt8)} {b : List UInt8} (ses num : Nat) (h : needOf b.length ≤ L.length) : Torn L (secsP ses num b ++ L.drop (needOf b.length)) ses num b := by
  refine ⟨by simp [secsP_len]; omega, fun j => ?_⟩
  rcases Nat.lt_or_ge j (needOf b.length) with hj | hj
  · right
    exact ⟨hj, by rw [List.getElem?_append_left (by rw [secsP_len]; exact hj), secsP_at ses num b hj]⟩
  · left
    rw [List.getElem?_append_right (by rw [secsP_len]; exact hj), secsP_len, List.getElem?_drop, show needOf b.length + (j - needOf b.length) = j by omega]
/-- Whatever the limit is, and whatever is kept. -/
theorem append_any {D : DM} {l : LG} {f : Nat} {A B : List (List UInt8)} {b : List UInt8} (hS : St D f (A ++ B)) (hA : LgAt l f (A ++ B).length A.length) (hm : needOf b.length ≤ B.length) (h65 : needOf b.length ≤ 65535) (hl0 : 0 ≤ D.limit) (K : List Bool) :
    ∃ T, St ((appendD D l b).reopen K) f (A ++ T) ∧ Torn B T l.ses l.num b ∧ (appendE D l b = 0 ∧ T = secsP l.ses l.num b ++ B.drop (needOf b.length) ∨ appendE D l b = 10) ∧ (appendD D l b).done ≤ D.done + needOf b.length + 1 := by
  by_cases hlim : D.limit ≤ needOf b.length
  · obtain ⟨h1, _, h3, ⟨T, h4, h5⟩, _⟩ := append_torn hS hA hm h65 hl0 hlim K
    exact ⟨T, h4, h5, .inr h1, by omega⟩
  · obtain ⟨h1, h2, _, _, h3⟩ := append_whole hS hA hm h65 (.inr (by omega))
    exact ⟨_, h2.reopen K, torn_all _ _ hm, .inl ⟨h1, rfl⟩, by omega⟩
/-- A record laid, whole or torn, where there was none: it is told, or nothing. -/
theorem torn_recs {B T : List (List UInt8)} {ses num : Nat} {b : List UInt8} (hT : Torn B T ses num b) (hF : Fits ses num b) (hN : NoneOf B ses num) (hB : recordOf B = none) (hH : NoHead B) {last : Option Stamp} (hs : stops last (stampAt ses num b) = false) (k : Nat) :
    (recordsOf (k + 1) last T = [] ∧ recordOf T = none) ∨ (recordsOf (k + 1) last T = [(stampAt ses num b, b)] ∧ T = secsP ses num b ++ B.drop (needOf b.length)) := by
  cases hr : recordOf T with
  | none => exact .inl ⟨recs_none hr, rfl⟩
  | some x =>
    obtain ⟨st, b'⟩ := x
    rcases torn_record hT hF hN hr with ⟨h1, h2, h3⟩ | h1
    · right
      refine ⟨?_, h3⟩
      rw [h3, recs_cons hF _ k last hs, recs_none (hH.drop (need_pos _))]
    · rw [hB] at h1; cases h1
theorem torn_whole_some {B T : List (List UInt8)} {ses num : Nat} {b : List UInt8} (hF : Fits ses num b) (h : T = secsP ses num b ++ B.drop (needOf b.length)) : recordOf T ≠ none := by
  rw [h, recordOf_laid hF]
  simp

/-! ### JournalAgain -/
structure AgainFacts (x y : List UInt8) (q1 q2 : Nat) (K1 K2 : List Bool) (l0 l3 : LG) (D2 D3 D5 D6 : DM) (E1 E2 : Int) (M R : List (List UInt8)) : Prop where
  a1 : openL (DM.new 16) 0 16 = l0
  a2 : (newestOf ((DM.new 16).part 0 16)).1 < 4294967295
  a3 : l0.ok ((DM.new 16).limited q1)
  a4 : appendE ((DM.new 16).limited q1) l0 x = E1
  a5 : appendD ((DM.new 16).limited q1) l0 x = D2
  a6 : D2.reopen K1 = D3
  a7 : D3.dead = false
  a8 : D3.S.length = 16
  a9 : (newestOf (D3.part 0 16)).1 < 4294967295
  a10 : (openR D3 0 16).map (·.2) = M
  a11 : M = [] ∨ M = [x]
  a12 : E1 = 0 → M = [x]
  a13 : openL D3 0 16 = l3
  a14 : l3.ok (D3.limited q2)
  a15 : D3.done + 65536 < 1099511627776
  a16 : appendE (D3.limited q2) l3 y = E2
  a17 : appendD (D3.limited q2) l3 y = D5
  a18 : D5.reopen K2 = D6
  a19 : D6.dead = false
  a20 : D6.S.length = 16
  a21 : (newestOf (D6.part 0 16)).1 < 4294967295
  a22 : (openR D6 0 16).map (·.2) = R
  a23 : (R = M ∧ E2 ≠ 0) ∨ R = M ++ [y]

theorem again_facts (x y : List UInt8) (q1 q2 : Nat) (K1 K2 : List Bool) (hx : x.length ≤ 511) (hy : y.length ≤ 511) : ∃ l0 l3 D2 D3 D5 D6 E1 E2 M R, AgainFacts x y q1 q2 K1 K2 l0 l3 D2 D3 D5 D6 E1 E2 M R := by
  have hS0 := St.new 0 16 16 (by omega)
  have hZ := rep_zero 16
  obtain ⟨r0, l0, n0⟩ := open_zero (n := 16) hS0 (by simp) hZ
  have hmx : needOf x.length ≤ 11 := need_le (by omega) (by omega)
  have hmy : needOf y.length ≤ 11 := need_le (by omega) (by omega)
  have hFx : Fits 1 1 x := ⟨by omega, by omega, by omega⟩
  have hlen16 : (DM.new 16).S.length = 16 := by decide
  have hok0 := openL_ok (D := DM.new 16) (f := 0) (n := 16) (by rw [hlen16]; omega) (by rw [n0]; omega)
  rw [l0] at hok0
  obtain ⟨T1, s3, t1, e1, dn3⟩ := append_any (A := []) (B := List.replicate 16 zsec) (l := ⟨0, 16, 0, 1, 1, false⟩) (b := x) (hS0.limited q1) ⟨rfl, by simp, rfl, rfl⟩ (by simp; omega) (by omega) (by show 0 ≤ max (q1 : Int) (-1); omega) K1
  rw [List.nil_append] at s3
  have hSt : ∀ K, (appendD ((DM.new 16).limited q1) ⟨0, 16, 0, 1, 1, false⟩ x).reopen K = (appendD ((DM.new 16).limited q1) ⟨0, 16, 0, 1, 1, false⟩ x).reopen K := fun _ => rfl
  clear hSt
  have hD3 : ((appendD ((DM.new 16).limited q1) ⟨0, 16, 0, 1, 1, false⟩ x).reopen K1).S.length = 16 := by
    show (layAll _ _).length = 16
    rw [layAll_len, appendS_len]
    exact hlen16
  have hdn3 : ((appendD ((DM.new 16).limited q1) ⟨0, 16, 0, 1, 1, false⟩ x).reopen K1).done ≤ 12 := by
    show (appendD ((DM.new 16).limited q1) ⟨0, 16, 0, 1, 1, false⟩ x).done ≤ 12
    have : ((DM.new 16).limited q1).done = 0 := rfl
    omega
  have hT1 : T1.length = 16 := by rw [t1.1]; simp
  have hL1 : SesLe T1 1 := (SesLe.zero hZ 1).torn hFx t1 (Nat.le_refl 1)
  have hH1 : NoHead T1 := (NoHead.zero hZ).torn hFx t1
  obtain ⟨D2, hD2⟩ : ∃ D2, appendD ((DM.new 16).limited q1) ⟨0, 16, 0, 1, 1, false⟩ x = D2 := ⟨_, rfl⟩
  obtain ⟨E1, hE1⟩ : ∃ E1, appendE ((DM.new 16).limited q1) ⟨0, 16, 0, 1, 1, false⟩ x = E1 := ⟨_, rfl⟩
  rw [hD2] at s3 hD3 hdn3
  rw [hE1] at e1
  obtain ⟨D3, hD3e⟩ : ∃ D3, D2.reopen K1 = D3 := ⟨_, rfl⟩
  rw [hD3e] at s3 hD3 hdn3
  have hv3 := s3.view hT1
  have hn3 : (newestOf (D3.part 0 16)).1 ≤ 1 := by rw [hv3]; exact newest_le hL1
  have hok3 := openL_ok (D := D3) (f := 0) (n := 16) (by rw [hD3]; omega) (by omega)
  have hses : (openL D3 0 16).ses = (newestOf T1).1 + 1 := by show (newestOf (D3.part 0 16)).1 + 1 = _; rw [hv3]
  have hses2 : (openL D3 0 16).ses ≤ 2 := by show (newestOf (D3.part 0 16)).1 + 1 ≤ 2; omega
  have hNone : NoneOf T1 (openL D3 0 16).ses (openL D3 0 16).num := fun s hs q hq ⟨h1, _⟩ => by
    have := ((newFold_ge T1 (0, 0)).2.2 s hs q hq).1
    rw [← newestOf_eq] at this
    omega
  have hFy : Fits (openL D3 0 16).ses (openL D3 0 16).num y := ⟨hok3.ses, hok3.num, by omega⟩
  have hlim4 : 0 ≤ (D3.limited q2).limit := by show 0 ≤ max (q2 : Int) (-1); omega
  have hD5S : ((appendD (D3.limited q2) (openL D3 0 16) y).reopen K2).S.length = 16 := by
    show (layAll _ _).length = 16
    rw [layAll_len, appendS_len]
    exact hD3
  rcases torn_recs t1 hFx (NoneOf.zero hZ 1 1) (zero_none hZ) (NoHead.zero hZ) (last := none) rfl 15 with ⟨m1, m2⟩ | ⟨m1, m2⟩
  · -- nothing is told of x
    have hR3 : openR D3 0 16 = [] := by unfold openR; rw [hv3]; exact m1
    have hat : (openL D3 0 16).at_ = 0 := by unfold openL; rw [hR3]; rfl
    have hE1' : E1 ≠ 0 := fun h => by
      rcases e1 with ⟨_, h2⟩ | h2
      · exact torn_whole_some hFx h2 m2
      · rw [h] at h2; cases h2
    obtain ⟨T2, s6, t2, e2, dn6⟩ := append_any (A := []) (B := T1) (l := openL D3 0 16) (b := y) (s3.limited q2) ⟨rfl, by simp [hT1]; rfl, by rw [hat]; rfl, rfl⟩ (by rw [hT1]; omega) (by omega) hlim4 K2
    rw [List.nil_append] at s6
    have hT2 : T2.length = 16 := by rw [t2.1]; exact hT1
    have hv6 := s6.view hT2
    have hL2 : SesLe T2 2 := SesLe.torn (fun s hs q hq => Nat.le_trans (hL1 s hs q hq) (by omega)) hFy t2 hses2
    refine ⟨_, _, _, _, _, _, _, _, _, _, ⟨l0, by rw [n0]; omega, ⟨hok0.at_, hok0.fit, hok0.num, hok0.ses⟩, hE1, hD2, hD3e, s3.dead, hD3, by omega, by rw [hR3]; rfl, .inl rfl, fun h => absurd h hE1', rfl, ⟨hok3.at_, hok3.fit, hok3.num, hok3.ses⟩, by omega, rfl, rfl, rfl, s6.dead, hD5S, ?_, rfl, ?_⟩⟩
    · rw [hv6]; exact Nat.lt_of_le_of_lt (newest_le hL2) (by omega)
    · unfold openR
      rw [hv6]
      rcases torn_recs t2 hFy hNone m2 hH1 (last := none) rfl 15 with ⟨p1, p2⟩ | ⟨p1, p2⟩
      · left
        refine ⟨by rw [p1]; rfl, fun h => ?_⟩
        rcases e2 with ⟨_, h2⟩ | h2
        · exact torn_whole_some hFy h2 p2
        · rw [h] at h2; cases h2
      · right
        rw [p1]
        rfl
  · -- x is told
    have hZx : ∀ s ∈ (List.replicate 16 zsec).drop (needOf x.length), s = zsec := fun s hs => hZ s (List.mem_of_mem_drop hs)
    rw [m2] at s3 hT1
    obtain ⟨hR3, hat, hnum⟩ := open_one s3 hT1 hFx (zero_none hZx)
    obtain ⟨Z, hZe⟩ : ∃ Z, (List.replicate 16 zsec).drop (needOf x.length) = Z := ⟨_, rfl⟩
    rw [hZe] at s3 hT1 hZx
    have hsx : (secsP 1 1 x).length = needOf x.length := secsP_len 1 1 x
    have hLg : LgAt (openL D3 0 16) 0 (secsP 1 1 x ++ Z).length (secsP 1 1 x).length := ⟨rfl, by rw [hT1]; rfl, by rw [hat, hsx], rfl⟩
    have hA1 : SesLe (secsP 1 1 x) 2 := SesLe.secs hFx (by omega)
    by_cases hfull : needOf y.length ≤ Z.length
    · obtain ⟨T2, s6, t2, e2, dn6⟩ := append_any (A := secsP 1 1 x) (B := Z) (l := openL D3 0 16) (b := y) (s3.limited q2) hLg hfull (by omega) hlim4 K2
      have hT2 : (secsP 1 1 x ++ T2).length = 16 := by rw [List.length_append, t2.1, ← List.length_append]; exact hT1
      have hv6 := s6.view hT2
      have hL2 : SesLe (secsP 1 1 x ++ T2) 2 := hA1.append (SesLe.torn (SesLe.zero hZx 2) hFy t2 hses2)
      have hstop : stops (some (stampAt 1 1 x)) (stampAt (openL D3 0 16).ses (openL D3 0 16).num y) = false := by
        simp only [stops, stampAt, decide_eq_false_iff_not, hnum, hses]
        omega
      refine ⟨_, _, _, _, _, _, _, _, _, _, ⟨l0, by rw [n0]; omega, ⟨hok0.at_, hok0.fit, hok0.num, hok0.ses⟩, hE1, hD2, hD3e, s3.dead, hD3, by omega, by rw [hR3]; rfl, .inr rfl, fun _ => rfl, rfl, ⟨hok3.at_, hok3.fit, hok3.num, hok3.ses⟩, by omega, rfl, rfl, rfl, s6.dead, hD5S, ?_, rfl, ?_⟩⟩
      · rw [hv6]; exact Nat.lt_of_le_of_lt (newest_le hL2) (by omega)
      · unfold openR
        rw [hv6, recs_cons hFx T2 15 none rfl]
        rcases torn_recs t2 hFy (NoneOf.zero hZx _ _) (zero_none hZx) (NoHead.zero hZx) hstop 14 with ⟨p1, p2⟩ | ⟨p1, p2⟩
        · left
          refine ⟨by rw [p1]; rfl, fun h => ?_⟩
          rcases e2 with ⟨_, h2⟩ | h2
          · exact torn_whole_some hFy h2 p2
          · rw [h] at h2; cases h2
        · right
          rw [p1]
          rfl
    · obtain ⟨e2, d2, _⟩ := append_full (D := D3.limited q2) (b := y) hLg (by rw [hT1]; omega) (by omega) (by omega)
      have s6 := (s3.limited q2).reopen K2
      rw [← d2] at s6
      refine ⟨_, _, _, _, _, _, _, _, _, _, ⟨l0, by rw [n0]; omega, ⟨hok0.at_, hok0.fit, hok0.num, hok0.ses⟩, hE1, hD2, hD3e, s3.dead, hD3, by omega, by rw [hR3]; rfl, .inr rfl, fun _ => rfl, rfl, ⟨hok3.at_, hok3.fit, hok3.num, hok3.ses⟩, by omega, rfl, rfl, rfl, s6.dead, hD5S, ?_, rfl, ?_⟩⟩
      · rw [s6.view hT1]; exact Nat.lt_of_le_of_lt (newest_le (hA1.append (SesLe.zero hZx 2))) (by omega)
      · left
        refine ⟨?_, by rw [e2]; decide⟩
        unfold openR
        rw [s6.view hT1, recs_cons hFx Z 15 none rfl, recs_none (zero_none hZx)]
        rfl

end Go.Proofs.Ytidpleejgalljaa
