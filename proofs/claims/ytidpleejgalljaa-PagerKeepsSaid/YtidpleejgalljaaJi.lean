/-
  The contract of (*Log).Append.
-/
import Derived.Test.YtidpleejgalljaaJh
namespace Go.Proofs.Ytidpleejgalljaa
open Go.RowKit

/-- A log as plain data. -/
structure LG where
  f : Nat
  n : Nat
  at_ : Nat
  num : Nat
  ses : Nat
  br : Bool
def LG.cells (l : LG) (d : Nat) : List Value := logCells d l.f l.n l.at_ l.num l.ses l.br
def appendE (D : DM) (l : LG) (b : List UInt8) : Int :=
  if l.br then 10 else if 65535 < needOf b.length then 4 else if l.n - l.at_ < needOf b.length then 5 else (layJ D (l.f + l.at_) (sectorsOf l.ses l.num b)).2
def appendD (D : DM) (l : LG) (b : List UInt8) : DM :=
  if l.br then D else if 65535 < needOf b.length then D else if l.n - l.at_ < needOf b.length then D else (layJ D (l.f + l.at_) (sectorsOf l.ses l.num b)).1
def appendL (D : DM) (l : LG) (b : List UInt8) : LG :=
  if l.br then l else if 65535 < needOf b.length then l else if l.n - l.at_ < needOf b.length then l else
  if (layJ D (l.f + l.at_) (sectorsOf l.ses l.num b)).2 ≠ 0 then { l with br := true } else { l with at_ := l.at_ + needOf b.length, num := (l.num + 1) % 4294967296 }

theorem needI_nat (n : Nat) : needI (n : Int) = (needOf n : Int) := by
  unfold needI needOf
  by_cases h : n = 0
  · subst h; rfl
  · rw [if_neg (by omega), if_neg h]; omega

/-- A log and its disk. -/
structure Jn (w : World) (lg d : Nat) (l : LG) (D : DM) (fp : List Nat) : Prop where
  log : Blk w lg 77 (l.cells d)
  disk : DiskAt w d D fp
  apart : lg ∉ fp
  at_ : l.at_ ≤ l.n
  fit : l.f + l.n ≤ D.S.length
  num : l.num < 4294967296
  ses : l.ses < 4294967296
def JStep (w w' : World) (lg d : Nat) (l : LG) (D : DM) (fp : List Nat) : Prop := ∃ fp', Jn w' lg d l D fp' ∧ Fr (lg :: fp) w w' ∧ ∀ k ∈ fp', k ∈ fp ∨ w.heap.size ≤ k
theorem JStep.same {w : World} {lg d : Nat} {l : LG} {D : DM} {fp : List Nat} (h : Jn w lg d l D fp) : JStep w w lg d l D fp := ⟨fp, h, Fr.refl _ _, fun _ hk => .inl hk⟩
theorem Jn.fr {S : List Nat} {w w' : World} {lg d : Nat} {l : LG} {D : DM} {fp : List Nat} (h : Jn w lg d l D fp) (hf : Fr S w w') (h1 : lg ∉ S) (h2 : ∀ k ∈ fp, k ∉ S) : Jn w' lg d l D fp :=
  ⟨h.log.fr hf h1, h.disk.fr hf h2, h.apart, h.at_, h.fit, h.num, h.ses⟩
theorem layJ_S (ss : List (List UInt8)) : ∀ (D : DM) (pos : Nat), (layJ D pos ss).1.S.length = D.S.length := by
  induction ss with
  | nil =>
    intro D pos
    show D.sync.S.length = _
    unfold DM.sync
    split
    · rfl
    · split
      · rfl
      · simp [layAll_len]
  | cons s ss ih =>
    intro D pos
    show (if _ then _ else _ : DM × Int).1.S.length = _
    split
    · show (D.write (pos : Int) s).S.length = _; rw [write_S]
    · rw [ih, write_S]
theorem layJ_done (ss : List (List UInt8)) : ∀ (D : DM) (pos : Nat), (layJ D pos ss).1.done ≤ D.done + ss.length + 1 := by
  induction ss with
  | nil =>
    intro D pos
    show D.sync.done ≤ _
    unfold DM.sync
    split
    · omega
    · split
      · show D.done ≤ _; omega
      · show D.done + 1 ≤ _; simp
  | cons s ss ih =>
    intro D pos
    have h1 := write_done D (pos : Int) s
    show (if _ then _ else _ : DM × Int).1.done ≤ _
    rw [List.length_cons]
    split
    · show (D.write (pos : Int) s).done ≤ _; omega
    · have := ih (D.write (pos : Int) s) (pos + 1); omega

set_option maxRecDepth 100000 in
set_option maxHeartbeats 400000 in
theorem append_nil (w : World) (v : Value) (A : Option Addr) (n c : Nat) (hv : v = .slice A n c) (hn : n ≤ 9223372036854775807) :
    Calls Try.prog 40 #[.pointer none, v] w fun e w' => e = .returned (.int .i64 10) ∧ w = w' := by
  subst hv
  go_enter Try.func40, Try.ntmps40
  go_wp2_with fail
  refine (need_any _ _ (by omega) (by omega)).mono ?_
  rintro e w1 ⟨rfl, rfl⟩
  go_wp2
  go_ret
  exact ⟨rfl, rfl⟩

set_option maxRecDepth 100000 in
set_option maxHeartbeats 1000000 in
theorem append_at {w : World} {lg d gb : Nat} {l : LG} {D : DM} {fp : List Nat} {v : Value} {b : List UInt8} (h : Jn w lg d l D fp) (hv : BytesAt w v b gb) (hgb : gb ∉ fp) (hgw : gb < w.heap.size) (hbl : b.length ≤ 9223372036854775807) (hdone : D.done + 65536 < 1099511627776) :
    Calls Try.prog 40 #[.pointer (some ⟨lg, 0, none⟩), v] w fun e w' => e = .returned (.int .i64 (appendE D l b)) ∧ JStep w w' lg d (appendL D l b) (appendD D l b) fp := by
  have H := Lib.hid h
  have hat := h.at_; have hfit := h.fit; have hmost := (DiskAt.ok h.disk).most
  have l0 := h.log.at_ (i := 0) rfl
  have l6 := h.log.at_ (i := 6) rfl
  clear h
  have HV := Lib.hid hv
  obtain ⟨A, c, off, rfl, hbc, hcs⟩ := hv
  clear hcs
  unfold appendE appendL appendD
  by_cases hbr : l.br = true
  · rw [if_pos hbr, if_pos hbr, if_pos hbr]
    rw [hbr] at l6
    clear hbr
    go_enter Try.func40, Try.ntmps40
    go_wp2_with fail
    refine (need_any _ _ (by omega) (by omega)).mono ?_
    rintro e w1 ⟨rfl, rfl⟩
    go_wp2
    go_ret
    exact ⟨rfl, JStep.same H.out⟩
  · have hbr' : l.br = false := by simpa using hbr
    rw [if_neg hbr, if_neg hbr, if_neg hbr]
    rw [hbr'] at l6
    have HBR := Lib.hid hbr'
    clear hbr hbr'
    by_cases h1 : 65535 < needOf b.length
    · rw [if_pos h1, if_pos h1, if_pos h1]
      go_enter Try.func40, Try.ntmps40
      go_wp2_with fail
      refine (need_any _ _ (by omega) (by omega)).mono ?_
      rintro e w1 ⟨rfl, rfl⟩
      rw [needI_nat]
      go_wp2
      go_ret
      exact ⟨rfl, JStep.same H.out⟩
    · rw [if_neg h1, if_neg h1, if_neg h1]
      by_cases h2 : l.n - l.at_ < needOf b.length
      · rw [if_pos h2, if_pos h2, if_pos h2]
        go_enter Try.func40, Try.ntmps40
        go_wp2_with fail
        refine (need_any _ _ (by omega) (by omega)).mono ?_
        rintro e w1 ⟨rfl, rfl⟩
        rw [needI_nat]
        go_wp2_with fail
        refine (room_at H.out.log (by omega) hat).mono ?_
        rintro e w1 ⟨rfl, m, rfl⟩
        go_wp2
        go_ret
        exact ⟨rfl, fp, H.out.fr ((Fr.refl [] w).drewN m) (by simp) (by simp), (Fr.refl _ w).drewN m, fun _ hk => .inl hk⟩
      · rw [if_neg h2, if_neg h2, if_neg h2]
        obtain ⟨D2, e2, hr⟩ : ∃ D2 e2, layJ D (l.f + l.at_) (sectorsOf l.ses l.num b) = (D2, e2) := ⟨_, _, rfl⟩
        have hS := layJ_S (sectorsOf l.ses l.num b) D (l.f + l.at_)
        rw [hr] at hS ⊢
        simp only at hS ⊢
        have HR := Lib.hid hr; have HS := Lib.hid hS; clear hr hS
        go_enter Try.func40, Try.ntmps40
        go_wp2_with fail
        refine (need_any _ _ (by omega) (by omega)).mono ?_
        rintro e w1 ⟨rfl, rfl⟩
        rw [needI_nat]
        go_wp2_with fail
        refine (room_at H.out.log (by omega) hat).mono ?_
        rintro e w1 ⟨rfl, m, rfl⟩
        go_wp2_with fail
        have hm := H.out.fr ((Fr.refl [] w).drewN m) (by simp) (by simp)
        refine (lay_at hm.log hm.disk hm.apart (HV.out.fr ((Fr.refl [] w).drewN m) (by simp)) hgb (by exact hgw) (by omega) (by omega) hfit hm.num hm.ses hdone).mono ?_
        rintro e w2 ⟨rfl, fp2, hd2, hf2, hn2⟩
        rw [HR.out] at hd2 ⊢
        simp only at hd2 ⊢
        have hf2' : Fr fp w w2 := ((Fr.refl fp w).drewN m).trans hf2 (fun x hx => .inl hx)
        have hb2 := H.out.log.fr hf2' H.out.apart
        have b3 := hb2.at_ (i := 3) rfl
        have b4 := hb2.at_ (i := 4) rfl
        have b6 := hb2.at_ (i := 6) rfl
        have bf := hb2.free
        have hap : lg ∉ fp2 := fun hm2 => by
          rcases hn2 _ hm2 with h | h
          · exact H.out.apart h
          · exact absurd H.out.log.lt (by simp only [World.drewN] at h; omega)
        have HB2 := Lib.hid hb2; have HD2 := Lib.hid hd2; have HF2 := Lib.hid hf2'; have HN2 := Lib.hid hn2; have HAP := Lib.hid hap
        clear hb2 hd2 hf2 hf2' hn2 hm hap
        have hfg : ∀ w3, Fr [lg] w2 w3 → Fr (lg :: fp) w w3 := fun w3 h3 => (HF2.out.mono (fun x hx => .inl (List.mem_cons_of_mem _ hx))).trans h3 (fun x hx => .inl (by simp at hx; simp [hx]))
        have hdg : ∀ w3, Fr [lg] w2 w3 → DiskAt w3 d D2 fp2 := fun w3 h3 => HD2.out.fr h3 (fun k hk hm2 => by simp at hm2; subst hm2; exact HAP.out hk)
        have HFG := Lib.hid hfg; have HDG := Lib.hid hdg; clear hfg hdg
        by_cases he : e2 = 0
        · subst he
          go_wp2
          go_ret
          have hfin : Fr [lg] w2 ((w2.setCell ⟨lg, 3, none⟩ (.int .i64 ((l.at_ : Int) + (needOf b.length : Int)))).setCell ⟨lg, 4, none⟩ (.int .u32 (((l.num : Int) + 1) % 4294967296))) := (((Fr.refl [lg] w2).setCell (.inl (by simp)) _).setCell (.inl (by simp)) _)
          refine ⟨rfl, fp2, ⟨?_, HDG.out _ hfin, HAP.out, ?_, ?_, ?_, H.out.ses⟩, HFG.out _ hfin, HN2.out⟩
          · have hx := (HB2.out.set_ 3 (.int .i64 ((l.at_ : Int) + (needOf b.length : Int)))).set_ 4 (.int .u32 (((l.num : Int) + 1) % 4294967296))
            have e1 : ((l.num : Int) + 1) % 4294967296 = (((l.num + 1) % 4294967296 : Nat) : Int) := by omega
            have e2 : (l.at_ : Int) + (needOf b.length : Int) = ((l.at_ + needOf b.length : Nat) : Int) := by omega
            rw [e1, e2] at hx ⊢
            exact hx
          · show l.at_ + needOf b.length ≤ l.n; omega
          · show l.f + l.n ≤ D2.S.length; rw [HS.out]; exact hfit
          · show (l.num + 1) % 4294967296 < _; omega
        · have hne : (e2 != 0) = true := by rw [bne_iff_ne]; exact he
          have HE := Lib.hid he
          clear he
          go_wp2
          go_ret
          have hfin : Fr [lg] w2 (w2.setCell ⟨lg, 6, none⟩ (.bool true)) := ((Fr.refl [lg] w2).setCell (.inl (by simp)) _)
          refine ⟨rfl, fp2, ⟨HB2.out.set_ 6 _, HDG.out _ hfin, HAP.out, hat, ?_, H.out.num, H.out.ses⟩, HFG.out _ hfin, HN2.out⟩
          show l.f + l.n ≤ D2.S.length; rw [HS.out]; exact hfit

end Go.Proofs.Ytidpleejgalljaa
