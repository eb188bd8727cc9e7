/-
  A map keyed by pairs of numbers: where each pair stands in a list of pairs.
-/
import Derived.Test.YtajajkganamfiaaMSamW
import Derived.DeepKeys4
import Derived.Maps.OwnSet
namespace Go.Proofs.Ytajajkganamfiaa
open Go.RowKit Go.Maps
set_option linter.unusedVariables false
set_option linter.unusedSimpArgs false

theorem laidOut0 : laidOutB Try.prog = true := by kernel_rfl
theorem plaw : Keyed Try.prog 97 := Keyed.of_law (deep_law_laid laidOut0 (m := 100) (by decide) (by decide +kernel) (by kernel_rfl) (by kernel_rfl))
/-- a pair as a value -/
def pval (k : Nat × Nat) : Value := .agg #[.int .i64 (k.1 : Nat), .int .i64 (k.2 : Nat)]
/-- what a pair reads as -/
def pkd (k : Nat × Nat) : Lit := .string (keyBytes [.int .i64 (k.1 : Nat), .int .i64 (k.2 : Nat)])
def PK (k : Nat × Nat) : Prop := k.1 < 4294967296 ∧ k.2 < 4294967296

theorem pkd_of {k : Nat × Nat} (h : PK k) : keyOf Try.prog 97 (pval k) = some (pkd k) := by
  have w1 := wf_nat h.1
  have w2 := wf_nat h.2
  have hkt : Try.prog.keyType 97 = true := by kernel_rfl
  have hc : Try.prog.cellsOf 97 = 2 := by kernel_rfl
  have hc1 : Try.prog.cellsOf 3 = 1 := by kernel_rfl
  have h1 := Try.underlying97
  have hf : Value.formed Try.prog 97 (.agg #[.int .i64 (k.1 : Nat), .int .i64 (k.2 : Nat)]) = true := by simp [Value.formed, h1, hc]
  obtain ⟨m, hm⟩ : ∃ m, Try.prog.types.size = m + 1 := ⟨Try.prog.types.size - 1, by decide +kernel⟩
  unfold keyOf pval
  simp only [h1]
  rw [if_pos (by simp [hkt, hf]), hm]
  unfold Program.keyLits
  simp only [h1, Value.cells]
  have hr : List.range 2 = [0, 1] := rfl
  simp [Program.keyLits, Try.underlying3, hc1, hc, w1, w2, pkd, hr, List.mapM_cons]

theorem pkd_key {k : Nat × Nat} (h : PK k) : WideAt.IsKeyLit (pkd k) := plaw.key (pkd_of h)
theorem pkd_inj {k k' : Nat × Nat} (h : PK k) (h' : PK k') (e : pkd k = pkd k') : k = k' := by
  have h1 := pkd_of h
  have h2 := pkd_of h'
  rw [← e] at h2
  have := plaw.inj h1 h2
  unfold pval at this
  simp at this
  exact Prod.ext (by have := this.1; omega) (by have := this.2; omega)

def PMapIs (D : DataW Unit) (W : List (Nat × Nat)) : Prop :=
  ∀ k, PK k → Maps.has D (pkd k) = decide (k ∈ W) ∧ (k ∈ W → ∀ z, D.atKey (pkd k) z = .lit (.int .i64 (ix W k : Nat)))
theorem pmapIs_start : PMapIs (.map []) [] := fun k hk => ⟨rfl, fun h => by cases h⟩
theorem PMapIs.put {D : DataW Unit} {W : List (Nat × Nat)} (h : PMapIs D W) (hD : IsMap D) {k : Nat × Nat} (hk : PK k) (hx : k ∉ W) : PMapIs (D.put (pkd k) (.lit (.int .i64 (W.length : Nat)))) (W ++ [k]) := by
  intro q hq
  by_cases e : q = k
  · subst e
    refine ⟨?_, fun _ z => ?_⟩
    · rw [has_put_same hD (pkd_key hq)]; symm; rw [decide_eq_true_eq]; simp
    · rw [atKey_put_same hD (pkd_key hq)]
      have := idx_new hx
      rw [ddStep_out hx] at this
      rw [this]
  · have hne : pkd q ≠ pkd k := fun e2 => e (pkd_inj hq hk e2)
    obtain ⟨g1, g2⟩ := h q hq
    refine ⟨?_, fun hm z => ?_⟩
    · rw [has_put_other hne, g1]
      rw [decide_eq_decide, List.mem_append, List.mem_singleton]
      exact ⟨.inl, fun h => h.elim id (fun h => absurd h e)⟩
    · rw [atKey_put_other hne]
      have hm2 : q ∈ W := by
        rcases List.mem_append.1 hm with h | h
        · exact h
        · exact absurd (List.mem_singleton.1 h) e
      rw [g2 hm2]
      have := idx_old (k := k) hm2
      rw [ddStep_out hx] at this
      rw [this]

/-- the map at block bm holds where each pair stands -/
def PP (w : World) (bm : Nat) (W : List (Nat × Nat)) : Prop := ∃ D : DataW Unit, w.ownsMap Try.prog 97 (plainElem Try.prog 3) bm W.length D ∧ PMapIs D W
theorem PP.fr {w w' : World} {bm : Nat} {W : List (Nat × Nat)} {S : Nat → Prop} (h : PP w bm W) (hf : Fr S w w') (hn : ¬ S bm) : PP w' bm W := by
  obtain ⟨D, h1, h2⟩ := h
  exact ⟨D, ownsMap_fr h1 hf hn, h2⟩
theorem PP.below {w w' : World} {bm : Nat} {W : List (Nat × Nat)} (h : PP w bm W) (hb : Below w.heap.size w w') : PP w' bm W := h.fr (S := fun _ => False) (.of_below hb) (fun h => h)
theorem PP.lt {w : World} {bm : Nat} {W : List (Nat × Nat)} (h : PP w bm W) : bm < w.heap.size := by
  obtain ⟨D, ⟨es, clock, hb, _⟩, _⟩ := h
  exact (Array.getElem?_eq_some_iff.1 hb).1

section
variable {w : World} {ops : Array Oper} {rest : List Oper} {o : Oper} {a : Act} {Q : Exit → Act → World → Prop}
theorem plook_hit (hg : o.guard = none) (m x : Operand) (hop : o.op = Op.lookup 95 m x true) {bm : Nat} {W : List (Nat × Nat)} (hmap : PP w bm W)
    (hm : a.eval m = .map (some bm)) (k : Nat × Nat) (hk : PK k) (hx : a.eval x = pval k) (hmem : k ∈ W)
    (hK : wpList Try.prog ops Q rest (a.put o.dst (.tuple #[.int .i64 (ix W k : Nat), .bool true])) w) : wpList Try.prog ops Q (o :: rest) a w := by
  obtain ⟨D, hown, hM⟩ := hmap
  obtain ⟨g1, g2⟩ := hM k hk
  refine wpList_lookup_own_ok_int w hg m x _ hop 97 3 .i64 plaw Try.underlying95 Try.underlying3 (zeroI _) bm _ D hm hown _ _ hx (pkd_of hk) ?_
  intro c hat _
  rw [g2 hmem] at hat
  have hc : (ix W k : Nat) = c := by simpa using hat
  rw [← hc, g1, decide_eq_true hmem]
  exact hK
theorem plook_miss (hg : o.guard = none) (m x : Operand) (hop : o.op = Op.lookup 95 m x true) {bm : Nat} {W : List (Nat × Nat)} (hmap : PP w bm W)
    (hm : a.eval m = .map (some bm)) (k : Nat × Nat) (hk : PK k) (hx : a.eval x = pval k) (hmem : k ∉ W)
    (hK : wpList Try.prog ops Q rest (a.put o.dst (.tuple #[.int .i64 0, .bool false])) w) : wpList Try.prog ops Q (o :: rest) a w := by
  obtain ⟨D, hown, hM⟩ := hmap
  obtain ⟨g1, _⟩ := hM k hk
  refine wpList_lookup_own_ok_int w hg m x _ hop 97 3 .i64 plaw Try.underlying95 Try.underlying3 (zeroI _) bm _ D hm hown _ _ hx (pkd_of hk) ?_
  intro c hat _
  have hno : Maps.has D (pkd k) = false := by rw [g1, decide_eq_false_iff_not]; exact hmem
  rw [atKey_of_not_has hno] at hat
  have hc : (0 : Int) = c := by simpa using hat
  rw [← hc, hno]
  exact hK
theorem pupd_key (hg : o.guard = none) (m x v : Operand) (hop : o.op = Op.mapUpdate 95 m x v) {bm : Nat} {W : List (Nat × Nat)} (hmap : PP w bm W)
    (hm : a.eval m = .map (some bm)) (k : Nat × Nat) (hk : PK k) (hx : a.eval x = pval k) (hv : a.eval v = .int .i64 (W.length : Nat)) (hl : W.length < 4294967296) (hmem : k ∉ W)
    (hK : ∀ w', PP w' bm (W ++ [k]) → w.grownBy w' (some bm) → wpList Try.prog ops Q rest (a.put o.dst undef) w') : wpList Try.prog ops Q (o :: rest) a w := by
  obtain ⟨D, hown, hM⟩ := hmap
  refine wpList_mapUpdate_own w hg m x v _ hop 97 3 plaw Try.underlying95 _ bm _ D hm hown (by unfold maxLen; omega) _ _ _ hx hv (pkd_of hk) _ [] (plainElem_int Try.underlying3 (wf_nat hl)) ?_
  intro w' ho hgr
  exact hK w' ⟨_, by rw [List.length_append]; exact ho, hM.put hown.isMap hk hmem⟩ hgr
/-- an entry of a map literal -/
theorem pins_key (hg : o.guard = none) (m x v : Operand) (hop : o.op = Op.insert 95 m x v) {bm : Nat} {W : List (Nat × Nat)} (hmap : PP w bm W)
    (hm : a.eval m = .map (some bm)) (k : Nat × Nat) (hk : PK k) (hx : a.eval x = pval k) (hv : a.eval v = .int .i64 (W.length : Nat)) (hl : W.length < 4294967296) (hmem : k ∉ W)
    (hK : ∀ w', PP w' bm (W ++ [k]) → w.grownBy w' (some bm) → wpList Try.prog ops Q rest (a.put o.dst undef) w') : wpList Try.prog ops Q (o :: rest) a w := by
  obtain ⟨D, hown, hM⟩ := hmap
  refine wpList_plain hg fun K' hK' => ?_
  obtain ⟨w', hrun, r1, r2⟩ := hown.update plaw Try.underlying95 (by unfold maxLen; omega) (pkd_of hk) (plainElem_int Try.underlying3 (wf_nat hl))
  unfold Oper.wp
  simp [execOp, hop, hm, hx, hv, hrun, Result.andThen]
  exact hK' _ _ (hK w' ⟨_, by rw [List.length_append]; exact r1, hM.put hown.isMap hk hmem⟩ r2)
end

/-- the cells of a list of pairs -/
def pcells : List (Nat × Nat) → List Value
  | [] => []
  | k :: r => .int .i64 (k.1 : Nat) :: .int .i64 (k.2 : Nat) :: pcells r
theorem pcells_len : ∀ l, (pcells l).length = l.length * 2
  | [] => rfl
  | k :: r => by simp [pcells, pcells_len r]; omega
theorem pcells_snoc : ∀ l (k : Nat × Nat), pcells (l ++ [k]) = pcells l ++ [.int .i64 (k.1 : Nat), .int .i64 (k.2 : Nat)]
  | [], k => rfl
  | a :: r, k => by simp [pcells, pcells_snoc r k]
theorem pcells_get : ∀ (l : List (Nat × Nat)) (i : Nat) (k : Nat × Nat), l[i]? = some k → (pcells l)[i * 2]? = some (.int .i64 (k.1 : Nat)) ∧ (pcells l)[i * 2 + 1]? = some (.int .i64 (k.2 : Nat))
  | [], i, k, h => by cases h
  | a :: r, 0, k, h => by cases h; exact ⟨rfl, rfl⟩
  | a :: r, i + 1, k, h => by
    have := pcells_get r i k h
    rw [show (i + 1) * 2 = i * 2 + 2 by omega, show i * 2 + 2 + 1 = (i * 2 + 1) + 2 by omega]
    exact this
theorem E2I : EltG Try.prog 96 97 (.agg #[.int .i64 0, .int .i64 0]) 2 16 := ⟨Try.underlying96, info_parts (by kernel_rfl), rfl, by decide⟩

end Go.Proofs.Ytajajkganamfiaa
