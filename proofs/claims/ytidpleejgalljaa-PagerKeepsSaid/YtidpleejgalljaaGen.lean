/-
  Laws of single operations that serve any package: calls that may panic; slices of cells; values of several cells. Over any program.
-/
import Derived.Test.YtidpleejgalljaaRegion
import Derived.Test.YtidpleejgalljaaSl
namespace Go.Proofs.Ytidpleejgalljaa
open Go.RowKit

section
variable {P : Program} {o : Oper} {a : Act} {w : World} {K : Act → World → Prop} {Q : Exit → Act → World → Prop}
/-- A call of a function of the program, by its contract: it may panic. -/
theorem wp_callp {f : FuncId} {l : List Operand} {tys : Array TypeId} (ho : o.op = .call { callee := .value (.func f), args := l.toArray, argTypes := tys }) (vs : List Value) (hvs : l.map a.eval = vs)
    (he : ∀ w, (callFunc f vs.toArray).run P w = .ok (.enter f vs.toArray) w)
    (hc : Calls P f vs.toArray w (fun e w' => (∃ v, e = .returned v ∧ K (a.put o.dst v) w') ∨ (∃ c, e = .panicked c ∧ Q (.panic c) a w'))) : Oper.wp P o a w K Q := by
  unfold Oper.wp
  have hm : l.toArray.map a.eval = vs.toArray := by rw [← hvs]; simp
  have hrun : (execOp a.eval o).run P w = .ok (.enter f vs.toArray) w := by
    simp only [execOp, ho, resolve, hm]
    simp [invoke, Act.eval, he, Deferred.ofValue]
  rw [hrun]
  refine hc.mono ?_
  rintro e w' (⟨v, rfl, h⟩ | ⟨c, rfl, h⟩) <;> exact h
end

/-- The post behind a letter: the walk does not look into it. -/
theorem calls_post {P : Program} {f : FuncId} {args : Array Value} {w : World} {R0 : Ending → World → Prop} (h : ∀ R : Ending → World → Prop, Hid (∀ e w', R0 e w' → R e w') → Calls P f args w R) : Calls P f args w R0 := h R0 (Lib.hid fun _ _ h => h)

/-- A function whose one result is a struct that lies in a block known whole. -/
theorem ret_blk {P : Program} {fn : Func} {R : Ending → World → Prop} {tmps : Array Value} {w : World} {k : Tmp} {t t' : TypeId} {g : Nat} {cs : List Value} {d : TypeDesc} (hr : fn.results = #[.cell k t]) (ha : tmps.getD k undef = .pointer (some ⟨g, 0, none⟩)) (hb : Blk w g t' cs)
    (hu : P.underlying t = some d) (hd : d.isRow = true) (hi : (P.info? t).map (·.size) = some cs.length) (h : R (.returned (.agg cs.toArray)) w) : bodyPost P fn R .ret ⟨tmps, []⟩ w := by
  refine bodyPost_ret (v := .agg cs.toArray) ?_ rfl h
  have hl := run_loadVar_row (P := P) w g t' t cs.toArray (0, 0) d hb hu (by cases d <;> simp_all) (by simpa using hi)
  have ha' : tmps[k]?.getD undef = .pointer (some ⟨g, 0, none⟩) := by simpa using ha
  simp [results, hr, ha', hl, asAddr, Sem.run_bind, Sem.run_pure]

/-- Six cells stored one by one. -/
def set6 (w : World) (g : Nat) (a0 a1 a2 a3 a4 a5 : Value) : World := (((((w.setCell ⟨g, 0, none⟩ a0).setCell ⟨g, 1, none⟩ a1).setCell ⟨g, 2, none⟩ a2).setCell ⟨g, 3, none⟩ a3).setCell ⟨g, 4, none⟩ a4).setCell ⟨g, 5, none⟩ a5
theorem Blk.set6 {w : World} {g : Nat} {t : TypeId} {x0 x1 x2 x3 x4 x5 : Value} (h : Blk w g t [x0, x1, x2, x3, x4, x5]) (a0 a1 a2 a3 a4 a5 : Value) : Blk (set6 w g a0 a1 a2 a3 a4 a5) g t [a0, a1, a2, a3, a4, a5] :=
  (((((h.set_ 0 a0).set_ 1 a1).set_ 2 a2).set_ 3 a3).set_ 4 a4).set_ 5 a5
theorem Fr.set6 (w : World) (g : Nat) (a0 a1 a2 a3 a4 a5 : Value) : Fr [g] w (set6 w g a0 a1 a2 a3 a4 a5) :=
  ((((((Fr.refl [g] w).setCell (.inl (by simp)) _).setCell (.inl (by simp)) _).setCell (.inl (by simp)) _).setCell (.inl (by simp)) _).setCell (.inl (by simp)) _).setCell (.inl (by simp)) _

/-! ### A slice that reads as cells -/
/-- A slice value of n elements; its cells xs lie in block g (if there are any), which N lets. -/
def SlAt (w : World) (v : Value) (n : Nat) (xs : List Value) (g : Nat) : Prop :=
  ∃ A c off, v = .slice A n c ∧ n ≤ c ∧ (0 < n → A = some ⟨g, off, none⟩ ∧ ∀ (j : Nat) (u : Value), xs[j]? = some u → w.cell? ⟨g, off + j, none⟩ = some u)
theorem SlAt.fr {S : List Nat} {w w' : World} {v : Value} {n : Nat} {xs : List Value} {g : Nat} (h : SlAt w v n xs g) (hf : Fr S w w') (hg : 0 < n → g ∉ S) : SlAt w' v n xs g := by
  obtain ⟨A, c, off, hv, hc, hb⟩ := h
  refine ⟨A, c, off, hv, hc, fun h0 => ⟨(hb h0).1, fun j u hu => ?_⟩⟩
  have h1 := (hb h0).2 j u hu
  rw [hf.cell (World.block_lt_of_cell? w _ h1) (hg h0)]
  exact h1
theorem SlAt.nil (w : World) (xs : List Value) (g : Nat) : SlAt w (.slice none 0 0) 0 xs g := ⟨none, 0, 0, rfl, Nat.le_refl _, fun h => by simp at h⟩
theorem SlAt.of_own {w : World} {e : TypeId} {size n b : Nat} {v : Value} {xs : List Value} (h : w.ownsRow b e size v n xs) (g0 : Nat) : ∃ g, SlAt w v n xs g ∧ (0 < n → v.ownBlock = some g) ∧ (n = 0 → g = g0) := by
  obtain ⟨A, c, rfl, hc, _⟩ := own_shape h
  by_cases h0 : 0 < n
  · obtain ⟨g, rfl, hg⟩ := own_cell h h0
    exact ⟨g, ⟨_, c, 0, rfl, hc, fun _ => ⟨rfl, fun j u hj => by rw [Nat.zero_add]; exact hg j u hj⟩⟩, fun _ => rfl, fun h1 => by omega⟩
  · exact ⟨g0, ⟨A, c, 0, rfl, hc, fun h => absurd h h0⟩, fun h => absurd h h0, fun _ => rfl⟩
theorem SlAt.of_blk {w : World} {g : Nat} {t : TypeId} {xs : List Value} (h : Blk w g t xs) (n c : Nat) (hc : n ≤ c) : SlAt w (.slice (some ⟨g, 0, none⟩) n c) n xs g :=
  ⟨_, c, 0, rfl, hc, fun _ => ⟨rfl, fun j u hu => by rw [Nat.zero_add]; exact h.at_ hu⟩⟩
/-- v[k:] of cells of one each. -/
theorem SlAt.from_ {w : World} {A : Option Addr} {n c g : Nat} {xs : List Value} (h : SlAt w (.slice A n c) n xs g) (k : Nat) (hk : k ≤ n) :
    SlAt w (.slice (if c = k then A else A.map (·.add k)) (n - k) (c - k)) (n - k) (xs.drop k) g := by
  obtain ⟨A', c', off, hv, hc, hb⟩ := h
  injection hv with h1 h2 h3
  subst h1 h3
  refine ⟨_, _, off + k, rfl, by omega, fun h0 => ?_⟩
  obtain ⟨rfl, hcell⟩ := hb (by omega)
  rw [if_neg (by omega)]
  refine ⟨by simp [Addr.add_mid], fun j u hu => ?_⟩
  rw [Nat.add_assoc]
  exact hcell _ u (by rw [List.getElem?_drop] at hu; exact hu)

end Go.Proofs.Ytidpleejgalljaa
