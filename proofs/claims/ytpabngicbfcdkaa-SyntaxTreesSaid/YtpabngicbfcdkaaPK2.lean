/-
  Maps keyed by pairs of addresses.
-/
import Derived.Test.YtpabngicbfcdkaaSizeW
import Derived.Laws.StructEq
namespace Go.Proofs.Ytpabngicbfcdkaa
open Go.RowKit
set_option linter.unusedVariables false
set_option linter.unusedSimpArgs false

abbrev penc2 : Addr × Addr → Value := fun p => .agg #[.pointer (some p.1), .pointer (some p.2)]
def OkA2 (w : World) (p : Addr × Addr) : Prop := OkA w p.1 ∧ OkA w p.2
theorem pair_part0 (a b : Value) (w : World) : (part 64 #[a, b] 0).run Try.prog w = .ok a w := by kernel_rfl
theorem pair_part1 (a b : Value) (w : World) : (part 64 #[a, b] 1).run Try.prog w = .ok b w := by kernel_rfl
theorem pair_fields : ∃ f g : Field, (Try.prog.fieldsOf 77).toList = [f, g] ∧ f.name ≠ "_" ∧ g.name ≠ "_" ∧ f.type = 64 ∧ g.type = 64 ∧ f.offset = 0 ∧ g.offset = 1 := by
  unfold Program.fieldsOf
  rw [Try.underlying77]
  exact ⟨_, _, rfl, by decide, by decide, rfl, rfl, rfl, rfl⟩
theorem pk2 : PKey Try.prog 77 penc2 OkA2 where
  inj x y h := by
    obtain ⟨a, b⟩ := x; obtain ⟨c, d⟩ := y
    simpa [penc2] using h
  und := ⟨_, Try.underlying77, fun _ _ => rfl⟩
  chk w em x := by
    obtain ⟨a, b⟩ := x
    cases em <;> kernel_rfl
  eq w x y hx hy := by
    obtain ⟨a, b⟩ := x; obtain ⟨c, d⟩ := y
    have h : (Try.prog.info? 38).map (fun i => i.size) = some 4 := by kernel_rfl
    obtain ⟨j, hj, hs⟩ := Option.map_eq_some_iff.1 h
    have e1 := fun n => eqIn_ptr Try.underlying64 hj (by rw [hs]; decide) w a c hx.1 hy.1 n
    have e2 := fun n => eqIn_ptr Try.underlying64 hj (by rw [hs]; decide) w b d hx.2 hy.2 n
    obtain ⟨f, g, hfs, n1, n2, t1, t2, o1, o2⟩ := pair_fields
    refine ⟨decide (a = c) && decide (b = d), ?_, by simp⟩
    show (Op.equalIn (9998 + 1 + 1) 77 _ _).run Try.prog w = _
    rw [run_equalIn_struct w (9998 + 1) 77 _ _ (by unfold Program.fieldsOf; rw [Try.underlying77]) (by kernel_rfl), hfs]
    simp only [Op.eqFields, n1, n2, ne_eq, not_false_eq_true, if_true, t1, t2, o1, o2, Sem.run_bind, pair_part0, pair_part1, Result.andThen_ok, e1, e2]
    by_cases h1 : a = c
    · have e2' := e2 9998
      simp only [Nat.reduceAdd] at e2'
      by_cases h2 : b = d
      · simp [h1, h2, pair_part1] at e2' ⊢
        simp [e2']
      · simp [h1, h2, pair_part1] at e2' ⊢
        simp [e2']
    · simp [h1]
  stay w x := by simp [Instr.keyThatStays, Instr.sameBits]

end Go.Proofs.Ytpabngicbfcdkaa
