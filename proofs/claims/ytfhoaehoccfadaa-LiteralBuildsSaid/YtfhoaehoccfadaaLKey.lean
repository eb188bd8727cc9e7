/-
  the trie's map: keyed by a node and a letter; what it holds, in words.
-/
import Derived.Test.YtfhoaehoccfadaaLSets
import Derived.Test.YtfhoaehoccfadaaFrame
import Derived.Maps.OwnSet
import Derived.DeepKeys4
namespace Go.Proofs.Ytfhoaehoccfadaa
open Go.RowKit Go.Maps
set_option linter.unusedVariables false
set_option linter.unusedSimpArgs false

theorem laidOut0 : laidOutB Try.prog = true := by kernel_rfl
theorem klaw : Keyed Try.prog 69 := Keyed.of_law (deep_law_laid laidOut0 (m := 100) (by decide) (by decide +kernel) (by kernel_rfl) (by kernel_rfl))
theorem zeroI (w : World) : (zeroValue 3).run Try.prog w = .ok (.int .i64 0) w := by kernel_rfl

/-- what a key reads as -/
def kd (i b : Int) : Lit := .string (keyBytes [.int .i64 i, .int .u8 b])

theorem keyOf_edge {i b : Int} (wi : (Lit.int .i64 i).wf = true) (wb : (Lit.int .u8 b).wf = true) : keyOf Try.prog 69 (.agg #[.int .i64 i, .int .u8 b]) = some (kd i b) := by
  have hkt : Try.prog.keyType 69 = true := by kernel_rfl
  have hc : Try.prog.cellsOf 69 = 2 := by kernel_rfl
  have hc1 : Try.prog.cellsOf 3 = 1 := by kernel_rfl
  have hc2 : Try.prog.cellsOf 5 = 1 := by kernel_rfl
  have h1 := Try.underlying69
  have hf : Value.formed Try.prog 69 (.agg #[.int .i64 i, .int .u8 b]) = true := by simp [Value.formed, h1, hc]
  obtain ⟨m, hm⟩ : ∃ m, Try.prog.types.size = m + 1 := ⟨Try.prog.types.size - 1, by decide +kernel⟩
  unfold keyOf
  simp only [h1]
  rw [if_pos (by simp [hkt, hf]), hm]
  unfold Program.keyLits
  simp only [h1, Value.cells]
  rw [if_pos ⟨by rw [hc]; rfl, by decide +kernel⟩]
  simp [Program.keyLits, Try.underlying3, Try.underlying5, hc1, hc2, wi, wb, kd]

theorem kd_inj {i j a b : Int} (wi : (Lit.int .i64 i).wf = true) (wa : (Lit.int .u8 a).wf = true) (wj : (Lit.int .i64 j).wf = true) (wb : (Lit.int .u8 b).wf = true) (h : kd i a = kd j b) : i = j ∧ a = b := by
  have h1 := keyOf_edge wi wa
  have h2 := keyOf_edge wj wb
  rw [← h] at h2
  have := klaw.inj h1 h2
  simpa using this
theorem kd_key {i b : Int} (wi : (Lit.int .i64 i).wf = true) (wb : (Lit.int .u8 b).wf = true) : WideAt.IsKeyLit (kd i b) := klaw.key (keyOf_edge wi wb)

/-- what the map holds of the words: from each word, by each letter, the word that is one longer -/
def MapIs (D : DataW Unit) (W : List (List Int)) : Prop :=
  ∀ (i : Nat) (b : Int), i < 4294967296 → 0 ≤ b → b ≤ 255 → Maps.has D (kd i b) = decide (i < W.length ∧ W.getD i [] ++ [b] ∈ W) ∧
    (i < W.length → W.getD i [] ++ [b] ∈ W → ∀ z, D.atKey (kd i b) z = .lit (.int .i64 (W.idxOf (W.getD i [] ++ [b]) : Nat)))

theorem wf_u8 {b : Int} (h0 : 0 ≤ b) (h1 : b ≤ 255) : (Lit.int .u8 b).wf = true := by
  simp [Lit.wf, IntKind.min, IntKind.max, IntKind.signed, IntKind.bits]; omega
theorem wf_nat {i : Nat} (h : i < 4294967296) : (Lit.int .i64 (i : Int)).wf = true := by
  simp [Lit.wf, IntKind.min, IntKind.max, IntKind.signed, IntKind.bits]; omega

theorem mapIs_start : MapIs (.map []) [[]] := by
  intro i b hi h0 h1
  refine ⟨?_, fun h hm => ?_⟩
  · show false = _
    symm
    rw [decide_eq_false_iff_not]
    rintro ⟨_, h⟩
    rw [List.mem_singleton] at h
    simp at h
  · rw [List.mem_singleton] at hm; simp at hm

theorem MapIs.put {D : DataW Unit} {W : List (List Int)} (h : MapIs D W) (hD : IsMap D) (hn : W.Nodup) (hc : Closed W) (hl : W.length < 4294967296) {j : Nat} {b : Int} (hj : j < W.length) (h0 : 0 ≤ b) (h1 : b ≤ 255) (hx : W.getD j [] ++ [b] ∉ W) :
    MapIs (D.put (kd j b) (.lit (.int .i64 (W.length : Nat)))) (W ++ [W.getD j [] ++ [b]]) := by
  have wj := wf_nat (i := j) (by omega)
  have wb := wf_u8 h0 h1
  intro i c hi c0 c1
  have wi := wf_nat hi
  have wc := wf_u8 c0 c1
  by_cases e : (i : Int) = j ∧ c = b
  · obtain ⟨e1, e2⟩ := e
    obtain rfl : i = j := by omega
    subst e2
    have hg : (W ++ [W.getD i [] ++ [c]]).getD i [] = W.getD i [] := by simp [List.getD, List.getElem?_append, hj]
    rw [hg]
    refine ⟨?_, fun _ _ z => ?_⟩
    · rw [has_put_same hD (kd_key wi wc)]
      symm
      rw [decide_eq_true_eq]
      exact ⟨by simp; omega, by simp⟩
    · rw [atKey_put_same hD (kd_key wi wc), idx_new hx]
  · have hne : kd i c ≠ kd j b := fun h => e (kd_inj wi wc wj wb h)
    obtain ⟨g1, g2⟩ := h i c hi c0 c1
    rw [has_put_other hne, g1]
    by_cases hiW : i < W.length
    · have hg : (W ++ [W.getD j [] ++ [b]]).getD i [] = W.getD i [] := by simp [List.getD, List.getElem?_append, hiW]
      rw [hg]
      have hne2 : W.getD i [] ++ [c] ≠ W.getD j [] ++ [b] := by
        intro h
        have h3 := List.append_inj' h rfl
        have h4 : i = j := by rw [← idx_getD hn hiW, ← idx_getD hn hj, h3.1]
        exact e ⟨by omega, by simpa using h3.2⟩
      refine ⟨?_, fun _ hm z => ?_⟩
      · rw [decide_eq_decide]
        simp only [hiW, true_and, List.mem_append, List.mem_singleton, hne2, or_false, List.length_append, List.length_singleton]
        constructor
        · intro h; exact ⟨by omega, h⟩
        · intro h; exact h.2
      · rw [atKey_put_other hne]
        have hm2 : W.getD i [] ++ [c] ∈ W := by
          rcases List.mem_append.1 hm with h | h
          · exact h
          · rw [List.mem_singleton] at h; exact absurd h hne2
        rw [g2 hiW hm2, idx_app hm2]
    · have hno : ¬ (i < (W ++ [W.getD j [] ++ [b]]).length ∧ (W ++ [W.getD j [] ++ [b]]).getD i [] ++ [c] ∈ W ++ [W.getD j [] ++ [b]]) := by
        rintro ⟨h2, h3⟩
        simp only [List.length_append, List.length_singleton] at h2
        obtain rfl : i = W.length := by omega
        have hg : (W ++ [W.getD j [] ++ [b]]).getD W.length [] = W.getD j [] ++ [b] := by simp [List.getD]
        rw [hg] at h3
        rcases List.mem_append.1 h3 with h | h
        · exact hx (hc.pre h)
        · rw [List.mem_singleton] at h
          have := congrArg List.length h
          simp at this
      refine ⟨?_, fun h2 h3 => absurd ⟨h2, h3⟩ hno⟩
      rw [decide_eq_decide]
      constructor
      · rintro ⟨h, _⟩; exact absurd h hiW
      · intro h; exact absurd h hno

end Go.Proofs.Ytfhoaehoccfadaa
