/-
  The reference's bytes of references.
-/
import Derived.Test.YtpabngicbfcdkaaPar10
namespace Go.Proofs.Ytpabngicbfcdkaa
open Go.RowKit
set_option linter.unusedVariables false
set_option linter.unusedSimpArgs false

set_option maxRecDepth 100000 in
theorem refByte_any (c : Nat) (hc : c < 256) (w : World) : Calls Try.prog 37 #[.int .u8 c] w fun e w' => e = .returned (.bool (refB c)) ∧ w = w' := by
  have hca : c ≤ 255 := by omega
  by_cases h1 : 97 ≤ c
  · by_cases h2 : c ≤ 122
    · have d1 : decide ((97 : Int) ≤ (c : Int)) = true := decide_eq_true (by omega)
      have d2 : decide ((c : Int) ≤ 122) = true := decide_eq_true (by omega)
      have HE : Hid (refB c = true) := Lib.hid (by simp [refB, letB, digB]; omega)
      clear hca hc h1 h2
      go_enter Try.func37, Try.ntmps37
      go_wp2
      go_ret
      exact ⟨ret_eq (by rw [HE.out]; rfl), rfl⟩
    · by_cases h3 : c = 126
      · have d1 : decide ((97 : Int) ≤ (c : Int)) = true := decide_eq_true (by omega)
        have d2 : decide ((c : Int) ≤ 122) = false := decide_eq_false (by omega)
        have d3 : decide ((48 : Int) ≤ (c : Int)) = true := decide_eq_true (by omega)
        have d4 : decide ((c : Int) ≤ 57) = false := decide_eq_false (by omega)
        have d5 : ((c : Int) == 45) = false := by rw [beq_eq_false_iff_ne]; omega
        have d6 : ((c : Int) == 126) = true := by rw [beq_iff_eq]; omega
        have HE : Hid (refB c = true) := Lib.hid (by simp [refB, letB, digB]; omega)
        clear hca hc h1 h2 h3
        go_enter Try.func37, Try.ntmps37
        go_wp2
        go_ret
        exact ⟨ret_eq (by rw [HE.out]; rfl), rfl⟩
      · have d1 : decide ((97 : Int) ≤ (c : Int)) = true := decide_eq_true (by omega)
        have d2 : decide ((c : Int) ≤ 122) = false := decide_eq_false (by omega)
        have d3 : decide ((48 : Int) ≤ (c : Int)) = true := decide_eq_true (by omega)
        have d4 : decide ((c : Int) ≤ 57) = false := decide_eq_false (by omega)
        have d5 : ((c : Int) == 45) = false := by rw [beq_eq_false_iff_ne]; omega
        have d6 : ((c : Int) == 126) = false := by rw [beq_eq_false_iff_ne]; omega
        have d7 : ((c : Int) == 35) = false := by rw [beq_eq_false_iff_ne]; omega
        have HE : Hid (refB c = false) := Lib.hid (by simp [refB, letB, digB]; omega)
        clear hca hc h1 h2 h3
        go_enter Try.func37, Try.ntmps37
        go_wp2
        go_ret
        exact ⟨ret_eq (by rw [HE.out]; rfl), rfl⟩
  · by_cases h2 : 48 ≤ c
    · by_cases h3 : c ≤ 57
      · have d1 : decide ((97 : Int) ≤ (c : Int)) = false := decide_eq_false (by omega)
        have d3 : decide ((48 : Int) ≤ (c : Int)) = true := decide_eq_true (by omega)
        have d4 : decide ((c : Int) ≤ 57) = true := decide_eq_true (by omega)
        have HE : Hid (refB c = true) := Lib.hid (by simp [refB, letB, digB]; omega)
        clear hca hc h1 h2 h3
        go_enter Try.func37, Try.ntmps37
        go_wp2
        go_ret
        exact ⟨ret_eq (by rw [HE.out]; rfl), rfl⟩
      · have d1 : decide ((97 : Int) ≤ (c : Int)) = false := decide_eq_false (by omega)
        have d3 : decide ((48 : Int) ≤ (c : Int)) = true := decide_eq_true (by omega)
        have d4 : decide ((c : Int) ≤ 57) = false := decide_eq_false (by omega)
        have d5 : ((c : Int) == 45) = false := by rw [beq_eq_false_iff_ne]; omega
        have d6 : ((c : Int) == 126) = false := by rw [beq_eq_false_iff_ne]; omega
        have d7 : ((c : Int) == 35) = false := by rw [beq_eq_false_iff_ne]; omega
        have HE : Hid (refB c = false) := Lib.hid (by simp [refB, letB, digB]; omega)
        clear hca hc h1 h2 h3
        go_enter Try.func37, Try.ntmps37
        go_wp2
        go_ret
        exact ⟨ret_eq (by rw [HE.out]; rfl), rfl⟩
    · by_cases h3 : c = 45
      · have d1 : decide ((97 : Int) ≤ (c : Int)) = false := decide_eq_false (by omega)
        have d3 : decide ((48 : Int) ≤ (c : Int)) = false := decide_eq_false (by omega)
        have d5 : ((c : Int) == 45) = true := by rw [beq_iff_eq]; omega
        have HE : Hid (refB c = true) := Lib.hid (by simp [refB, letB, digB]; omega)
        clear hca hc h1 h2 h3
        go_enter Try.func37, Try.ntmps37
        go_wp2
        go_ret
        exact ⟨ret_eq (by rw [HE.out]; rfl), rfl⟩
      · by_cases h4 : c = 35
        · have d1 : decide ((97 : Int) ≤ (c : Int)) = false := decide_eq_false (by omega)
          have d3 : decide ((48 : Int) ≤ (c : Int)) = false := decide_eq_false (by omega)
          have d5 : ((c : Int) == 45) = false := by rw [beq_eq_false_iff_ne]; omega
          have d6 : ((c : Int) == 126) = false := by rw [beq_eq_false_iff_ne]; omega
          have d7 : ((c : Int) == 35) = true := by rw [beq_iff_eq]; omega
          have HE : Hid (refB c = true) := Lib.hid (by simp [refB, letB, digB]; omega)
          clear hca hc h1 h2 h3 h4
          go_enter Try.func37, Try.ntmps37
          go_wp2
          go_ret
          exact ⟨ret_eq (by rw [HE.out]; rfl), rfl⟩
        · have d1 : decide ((97 : Int) ≤ (c : Int)) = false := decide_eq_false (by omega)
          have d3 : decide ((48 : Int) ≤ (c : Int)) = false := decide_eq_false (by omega)
          have d5 : ((c : Int) == 45) = false := by rw [beq_eq_false_iff_ne]; omega
          have d6 : ((c : Int) == 126) = false := by rw [beq_eq_false_iff_ne]; omega
          have d7 : ((c : Int) == 35) = false := by rw [beq_eq_false_iff_ne]; omega
          have HE : Hid (refB c = false) := Lib.hid (by simp [refB, letB, digB]; omega)
          clear hca hc h1 h2 h3 h4
          go_enter Try.func37, Try.ntmps37
          go_wp2
          go_ret
          exact ⟨ret_eq (by rw [HE.out]; rfl), rfl⟩

end Go.Proofs.Ytpabngicbfcdkaa
