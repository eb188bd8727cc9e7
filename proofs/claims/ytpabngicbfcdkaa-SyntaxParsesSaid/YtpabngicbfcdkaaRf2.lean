/-
  The reference's hexadecimal digits.
-/
import Derived.Test.YtpabngicbfcdkaaRf1
namespace Go.Proofs.Ytpabngicbfcdkaa
open Go.RowKit
set_option linter.unusedVariables false
set_option linter.unusedSimpArgs false

def rdP (c : Nat) : Int := match hexP c with
  | some n => (n : Int)
  | none => -1
set_option maxRecDepth 100000 in
theorem rdigit_any (c : Nat) (hc : c < 256) (w : World) : Calls Try.prog 52 #[.int .u8 c] w fun e w' => e = .returned (.int .i64 (rdP c)) ∧ w = w' := by
  by_cases h1 : 48 ≤ c ∧ c ≤ 57
  · obtain ⟨n, hn⟩ : ∃ n, n = c - 48 := ⟨_, rfl⟩
    have HE : Hid (rdP c = (n : Int)) := Lib.hid (by unfold rdP hexP; rw [if_pos h1, hn])
    have hni : (c : Int) - 48 = (n : Int) := by omega
    have hlo : (48 : Int) ≤ (c : Int) := by omega
    have hhi : (c : Int) ≤ 57 := by omega
    clear h1 hc hn
    go_enter Try.func52, Try.ntmps52
    go_wp2
    go_ret
    exact ⟨by rw [HE.out]; rfl, rfl⟩
  · by_cases h2 : 97 ≤ c ∧ c ≤ 102
    · obtain ⟨n, hn⟩ : ∃ n, n = c - 87 := ⟨_, rfl⟩
      have HE : Hid (rdP c = (n : Int)) := Lib.hid (by unfold rdP hexP; rw [if_neg h1, if_pos h2, hn])
      have hni : (c : Int) - 97 + 10 = (n : Int) := by omega
      have d0 : decide ((48 : Int) ≤ (c : Int)) = true := decide_eq_true (by omega)
      have d1 : decide ((c : Int) ≤ 57) = false := decide_eq_false (by omega)
      have hlo : (97 : Int) ≤ (c : Int) := by omega
      have hhi : (c : Int) ≤ 102 := by omega
      clear h1 h2 hc hn
      go_enter Try.func52, Try.ntmps52
      go_wp2
      go_ret
      exact ⟨by rw [HE.out]; rfl, rfl⟩
    · by_cases h3 : 65 ≤ c ∧ c ≤ 70
      · obtain ⟨n, hn⟩ : ∃ n, n = c - 55 := ⟨_, rfl⟩
        have HE : Hid (rdP c = (n : Int)) := Lib.hid (by unfold rdP hexP; rw [if_neg h1, if_neg h2, if_pos h3, hn])
        have hni : (c : Int) - 65 + 10 = (n : Int) := by omega
        have d0 : decide ((48 : Int) ≤ (c : Int)) = true := decide_eq_true (by omega)
        have d1 : decide ((c : Int) ≤ 57) = false := decide_eq_false (by omega)
        have d2 : decide ((97 : Int) ≤ (c : Int)) = false := decide_eq_false (by omega)
        have hlo : (65 : Int) ≤ (c : Int) := by omega
        have hhi : (c : Int) ≤ 70 := by omega
        clear h1 h2 h3 hc hn
        go_enter Try.func52, Try.ntmps52
        go_wp2
        go_ret
        exact ⟨by rw [HE.out]; rfl, rfl⟩
      · have HE : Hid (rdP c = -1) := Lib.hid (by unfold rdP hexP; rw [if_neg h1, if_neg h2, if_neg h3])
        by_cases e1 : 48 ≤ c
        · by_cases e2 : 65 ≤ c
          · by_cases e3 : 97 ≤ c
            · have d0 : decide ((48 : Int) ≤ (c : Int)) = true := decide_eq_true (by omega)
              have d1 : decide ((c : Int) ≤ 57) = false := decide_eq_false (by omega)
              have d2 : decide ((97 : Int) ≤ (c : Int)) = true := decide_eq_true (by omega)
              have d3 : decide ((c : Int) ≤ 102) = false := decide_eq_false (by omega)
              have d4 : decide ((65 : Int) ≤ (c : Int)) = true := decide_eq_true (by omega)
              have d5 : decide ((c : Int) ≤ 70) = false := decide_eq_false (by omega)
              clear h1 h2 h3 hc e1 e2 e3
              go_enter Try.func52, Try.ntmps52
              go_wp2
              go_ret
              exact ⟨by rw [HE.out]; rfl, rfl⟩
            · have d0 : decide ((48 : Int) ≤ (c : Int)) = true := decide_eq_true (by omega)
              have d1 : decide ((c : Int) ≤ 57) = false := decide_eq_false (by omega)
              have d2 : decide ((97 : Int) ≤ (c : Int)) = false := decide_eq_false (by omega)
              have d4 : decide ((65 : Int) ≤ (c : Int)) = true := decide_eq_true (by omega)
              have d5 : decide ((c : Int) ≤ 70) = false := decide_eq_false (by omega)
              clear h1 h2 h3 hc e1 e2 e3
              go_enter Try.func52, Try.ntmps52
              go_wp2
              go_ret
              exact ⟨by rw [HE.out]; rfl, rfl⟩
          · have d0 : decide ((48 : Int) ≤ (c : Int)) = true := decide_eq_true (by omega)
            have d1 : decide ((c : Int) ≤ 57) = false := decide_eq_false (by omega)
            have d2 : decide ((97 : Int) ≤ (c : Int)) = false := decide_eq_false (by omega)
            have d4 : decide ((65 : Int) ≤ (c : Int)) = false := decide_eq_false (by omega)
            clear h1 h2 h3 hc e1 e2
            go_enter Try.func52, Try.ntmps52
            go_wp2
            go_ret
            exact ⟨by rw [HE.out]; rfl, rfl⟩
        · have d0 : decide ((48 : Int) ≤ (c : Int)) = false := decide_eq_false (by omega)
          have d2 : decide ((97 : Int) ≤ (c : Int)) = false := decide_eq_false (by omega)
          have d4 : decide ((65 : Int) ≤ (c : Int)) = false := decide_eq_false (by omega)
          clear h1 h2 h3 hc e1
          go_enter Try.func52, Try.ntmps52
          go_wp2
          go_ret
          exact ⟨by rw [HE.out]; rfl, rfl⟩

end Go.Proofs.Ytpabngicbfcdkaa
