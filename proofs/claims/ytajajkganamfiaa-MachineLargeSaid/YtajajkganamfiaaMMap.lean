/-
  A map keyed by strings of bytes: where each key stands in a list of keys.
-/
import Derived.Test.YtajajkganamfiaaMReach
import Derived.Maps.OwnSet
import Derived.Laws.BytesArg
namespace Go.Proofs.Ytajajkganamfiaa
open Go.RowKit Go.Maps
set_option linter.unusedVariables false
set_option linter.unusedSimpArgs false

theorem slaw : Keyed Try.prog 9 := string_keyed Try.underlying9
theorem zeroI (w : World) : (zeroValue 3).run Try.prog w = .ok (.int .i64 0) w := by kernel_rfl

abbrev nints (us : List Nat) : List Int := us.map fun (u : Nat) => (u : Int)
/-- bytes as a string -/
def kstr (k : List Nat) : ByteArray := strOfNums (nints k)
/-- what a key reads as -/
def kd (k : List Nat) : Lit := .string (kstr k).data.toList
/-- a key: bytes -/
def Ky (k : List Nat) : Prop := k.length ≤ 1000 ∧ ∀ u ∈ k, u < 256

theorem kd_of {k : List Nat} (h : Ky k) : keyOf Try.prog 9 (.string (kstr k)) = some (kd k) :=
  WideMaps.keyOf_string_mk Try.underlying9 (by unfold kstr; rw [strOfNums_size]; have := h.1; simp; unfold maxLen; omega)
theorem kd_key {k : List Nat} (h : Ky k) : WideAt.IsKeyLit (kd k) := slaw.key (kd_of h)

theorem kd_inj {k k' : List Nat} (h : Ky k) (h' : Ky k') (e : kd k = kd k') : k = k' := by
  unfold kd at e
  have e2 : (kstr k).data.toList = (kstr k').data.toList := by simpa using e
  unfold kstr at e2
  rw [strOfNums_data, strOfNums_data] at e2
  have key : ∀ (l : List Nat), (∀ u ∈ l, u < 256) → ((nints l).map fun n => UInt8.ofNat n.toNat).map (fun b => b.toNat) = l := by
    intro l hl
    rw [List.map_map, List.map_map]
    conv => rhs; rw [← List.map_id l]
    apply List.map_congr_left
    intro u hu
    have := hl u hu
    simp only [Function.comp, Int.toNat_natCast, id]
    rw [UInt8.toNat_ofNat', Nat.mod_eq_of_lt this]
  rw [← key k h.2, ← key k' h'.2, e2]

def MapIs (D : DataW Unit) (W : List (List Nat)) : Prop :=
  ∀ k, Ky k → Maps.has D (kd k) = decide (k ∈ W) ∧ (k ∈ W → ∀ z, D.atKey (kd k) z = .lit (.int .i64 (ix W k : Nat)))

theorem mapIs_start : MapIs (.map []) [] := fun k hk => ⟨rfl, fun h => by cases h⟩

theorem MapIs.put {D : DataW Unit} {W : List (List Nat)} (h : MapIs D W) (hD : IsMap D) {k : List Nat} (hk : Ky k) (hx : k ∉ W) : MapIs (D.put (kd k) (.lit (.int .i64 (W.length : Nat)))) (W ++ [k]) := by
  intro q hq
  by_cases e : q = k
  · subst e
    refine ⟨?_, fun _ z => ?_⟩
    · rw [has_put_same hD (kd_key hq)]; symm; rw [decide_eq_true_eq]; simp
    · rw [atKey_put_same hD (kd_key hq)]
      have := idx_new hx
      rw [ddStep_out hx] at this
      rw [this]
  · have hne : kd q ≠ kd k := fun e2 => e (kd_inj hq hk e2)
    obtain ⟨g1, g2⟩ := h q hq
    refine ⟨?_, fun hm z => ?_⟩
    · rw [has_put_other hne, g1]
      rw [decide_eq_decide, List.mem_append, List.mem_singleton]
      exact ⟨.inl, fun h => h.elim id (fun h => absurd h e)⟩
    · rw [atKey_put_other hne]
      have hm2 : q ∈ W := by
        rcases List.mem_append.1 hm with h | h
        · exact h
        · exact absurd (List.mem_singleton.1 h) e
      rw [g2 hm2]
      have := idx_old (k := k) hm2
      rw [ddStep_out hx] at this
      rw [this]

theorem wf_nat {i : Nat} (h : i < 4294967296) : (Lit.int .i64 (i : Int)).wf = true := by
  simp [Lit.wf, IntKind.min, IntKind.max, IntKind.signed, IntKind.bits]; omega

theorem ownsMap_fr {H : Type} {P : Program} {k : TypeId} {R : Value → Option (DataW H × List MemPlace)} {w w' : World} {b n : Nat} {D : DataW H} {S : Nat → Prop} (h : w.ownsMap P k R b n D) (hf : Fr S w w') (hn : ¬ S b) : w'.ownsMap P k R b n D := by
  obtain ⟨es, clock, hb, r⟩ := h
  exact ⟨es, clock, (hf.block b (Array.getElem?_eq_some_iff.1 hb).1 hn).trans hb, r⟩

/-- the map at block bm holds where each key stands -/
def MP (w : World) (bm : Nat) (W : List (List Nat)) : Prop := ∃ D : DataW Unit, w.ownsMap Try.prog 9 (plainElem Try.prog 3) bm W.length D ∧ MapIs D W

theorem MP.fr {w w' : World} {bm : Nat} {W : List (List Nat)} {S : Nat → Prop} (h : MP w bm W) (hf : Fr S w w') (hn : ¬ S bm) : MP w' bm W := by
  obtain ⟨D, h1, h2⟩ := h
  exact ⟨D, ownsMap_fr h1 hf hn, h2⟩

section
variable {w : World} {ops : Array Oper} {rest : List Oper} {o : Oper} {a : Act} {Q : Exit → Act → World → Prop}
theorem look_hit (hg : o.guard = none) (m x : Operand) (hop : o.op = Op.lookup 99 m x true) {bm : Nat} {W : List (List Nat)} (hmap : MP w bm W)
    (hm : a.eval m = .map (some bm)) (k : List Nat) (hk : Ky k) (hx : a.eval x = .string (kstr k)) (hmem : k ∈ W)
    (hK : wpList Try.prog ops Q rest (a.put o.dst (.tuple #[.int .i64 (ix W k : Nat), .bool true])) w) : wpList Try.prog ops Q (o :: rest) a w := by
  obtain ⟨D, hown, hM⟩ := hmap
  obtain ⟨g1, g2⟩ := hM k hk
  refine wpList_lookup_own_ok_int w hg m x _ hop 9 3 .i64 slaw Try.underlying99 Try.underlying3 (zeroI _) bm _ D hm hown _ _ hx (kd_of hk) ?_
  intro c hat _
  rw [g2 hmem] at hat
  have hc : (ix W k : Nat) = c := by simpa using hat
  rw [← hc, g1, decide_eq_true hmem]
  exact hK
theorem look_miss (hg : o.guard = none) (m x : Operand) (hop : o.op = Op.lookup 99 m x true) {bm : Nat} {W : List (List Nat)} (hmap : MP w bm W)
    (hm : a.eval m = .map (some bm)) (k : List Nat) (hk : Ky k) (hx : a.eval x = .string (kstr k)) (hmem : k ∉ W)
    (hK : wpList Try.prog ops Q rest (a.put o.dst (.tuple #[.int .i64 0, .bool false])) w) : wpList Try.prog ops Q (o :: rest) a w := by
  obtain ⟨D, hown, hM⟩ := hmap
  obtain ⟨g1, _⟩ := hM k hk
  refine wpList_lookup_own_ok_int w hg m x _ hop 9 3 .i64 slaw Try.underlying99 Try.underlying3 (zeroI _) bm _ D hm hown _ _ hx (kd_of hk) ?_
  intro c hat _
  have hno : Maps.has D (kd k) = false := by rw [g1, decide_eq_false_iff_not]; exact hmem
  rw [atKey_of_not_has hno] at hat
  have hc : (0 : Int) = c := by simpa using hat
  rw [← hc, hno]
  exact hK
theorem upd_key (hg : o.guard = none) (m x v : Operand) (hop : o.op = Op.mapUpdate 99 m x v) {bm : Nat} {W : List (List Nat)} (hmap : MP w bm W)
    (hm : a.eval m = .map (some bm)) (k : List Nat) (hk : Ky k) (hx : a.eval x = .string (kstr k)) (hv : a.eval v = .int .i64 (W.length : Nat)) (hl : W.length < 4294967296) (hmem : k ∉ W)
    (hK : ∀ w', MP w' bm (W ++ [k]) → w.grownBy w' (some bm) → wpList Try.prog ops Q rest (a.put o.dst undef) w') : wpList Try.prog ops Q (o :: rest) a w := by
  obtain ⟨D, hown, hM⟩ := hmap
  refine wpList_mapUpdate_own w hg m x v _ hop 9 3 slaw Try.underlying99 _ bm _ D hm hown (by unfold maxLen; omega) _ _ _ hx hv (kd_of hk) _ [] (plainElem_int Try.underlying3 (wf_nat hl)) ?_
  intro w' ho hgr
  exact hK w' ⟨_, by rw [List.length_append]; exact ho, hM.put hown.isMap hk hmem⟩ hgr
end

end Go.Proofs.Ytajajkganamfiaa
