/-
  syntax: the value of digits.
-/
import Derived.Test.YtpabngicbfcdkaaTok1
namespace Go.Proofs.Ytpabngicbfcdkaa
open Go.RowKit
set_option linter.unusedVariables false
set_option linter.unusedSimpArgs false

/-- the number that digits denote, as long as it is no greater than 2^60 -/
def valGo : Nat → List Nat → Option Nat
  | n, [] => some n
  | n, c :: r => if (1152921504606846976 - (c - 48)) / 10 < n then none else valGo (10 * n + (c - 48)) r
def valP (l : List Nat) : Option Nat := if l.head? = some 48 ∧ 1 < l.length then none else valGo 0 l
def valV : Option Nat → Value
  | some n => .tuple #[.int .i64 (n : Nat), .bool true]
  | none => .tuple #[.int .i64 0, .bool false]

set_option maxRecDepth 100000 in
set_option maxHeartbeats 1000000 in
theorem value_any (s : ByteArray) (hs : s.size ≤ 1000000000) (h0 : 0 < s.size) (hd : ∀ c ∈ ns s, digB c = true) (w : World) :
    Calls Try.prog 32 #[.string s] w fun e w' => e = .returned (valV (valP (ns s))) ∧ w = w' := by
  have hsi : (s.size : Int) ≤ 1000000000 := by omega
  have hpi : (0 : Int) < (s.size : Int) := by omega
  have HD := Lib.hid hd
  have HH : Hid ((ns s).head? = some (s[0]).toNat) := Lib.hid (by rw [List.head?_eq_getElem?]; exact ns_get h0)
  have HL : Hid ((ns s).length = s.size) := Lib.hid (ns_len s)
  obtain ⟨c0, hc0⟩ : ∃ c0, (s[0]'h0).toNat = c0 := ⟨_, rfl⟩
  rw [hc0] at HH
  by_cases hz : c0 = 48 ∧ 1 < s.size
  · obtain ⟨rfl, h1⟩ := hz
    have h1i : (1 : Int) < (s.size : Int) := by omega
    have HE : Hid (valP (ns s) = none) := Lib.hid (by unfold valP; rw [if_pos ⟨HH.out, by rw [HL.out]; exact h1⟩])
    clear hd hs h1
    go_enter Try.func32, Try.ntmps32
    go_wp2
    go_ret2
    exact ⟨by rw [HE.out]; rfl, rfl⟩
  · have HE : Hid (valP (ns s) = valGo 0 (ns s)) := Lib.hid (by unfold valP; rw [if_neg (by rintro ⟨h1, h2⟩; rw [HH.out] at h1; rw [HL.out] at h2; exact hz ⟨Option.some.inj h1, h2⟩)])
    have hz2 : ((c0 : Int) == 48) = false ∨ (((c0 : Int) == 48) = true ∧ decide ((1 : Int) < (s.size : Int)) = false ∧ decide (1 < s.size) = false) := by
      by_cases e : c0 = 48
      · exact .inr ⟨by rw [beq_iff_eq]; omega, decide_eq_false (by intro h; exact hz ⟨e, by omega⟩), decide_eq_false (by intro h; exact hz ⟨e, h⟩)⟩
      · exact .inl (by rw [beq_eq_false_iff_ne]; omega)
    clear hd hs hz
    rcases hz2 with b1 | ⟨b1, b2, b3⟩
    all_goals
      go_enter Try.func32, Try.ntmps32
      go_wp2
      go_loop [4, 17] (fun nv kv => ∃ k n : Nat, kv = .int .i64 k ∧ k ≤ s.size ∧ nv = .int .i64 n ∧ n ≤ 1152921504606846976 ∧ valGo n ((ns s).drop k) = valGo 0 (ns s)) (fun _ kv => s.size - (intOf kv).toNat)
      case atStart => exact ⟨0, 0, rfl, by omega, rfl, by omega, rfl⟩
      case round =>
        obtain ⟨k, n, rfl, hk, rfl, hn, hv⟩ := hrel
        have hni : (n : Int) ≤ 1152921504606846976 := by omega
        by_cases hlt : k < s.size
        · have hg := ns_get hlt
          obtain ⟨c, hc⟩ : ∃ c, (s[k]'hlt).toNat = c := ⟨_, rfl⟩
          rw [hc] at hg
          have hdig := HD.out c (List.mem_of_getElem? hg)
          have h48 : 48 ≤ c ∧ c ≤ 57 := by simpa [digB] using hdig
          have h48i : (48 : Int) ≤ (c : Int) := by omega
          have h57i : (c : Int) ≤ 57 := by omega
          obtain ⟨d, hd⟩ : ∃ d, d = c - 48 := ⟨_, rfl⟩
          have hdi : (c : Int) - 48 = (d : Int) := by omega
          have hd9 : (d : Int) ≤ 9 := by omega
          have hki : (k : Int) < (s.size : Int) := by omega
          have hdrop : (ns s).drop k = c :: (ns s).drop (k + 1) := by
            rw [List.drop_eq_getElem_cons (by rw [ns_len]; exact hlt)]
            rw [(List.getElem?_eq_some_iff.1 hg).2]
          rw [hdrop, valGo, ← hd] at hv
          have HLT := Lib.hid hlt
          by_cases ho : (1152921504606846976 - d) / 10 < n
          · rw [if_pos ho] at hv
            have HV := Lib.hid hv
            have hoi : (1152921504606846976 - (d : Int)) / 10 < (n : Int) := by omega
            clear hv ho hg hdig h48 hd hdrop hk hn
            go_wp2
            go_ret2
            exact ⟨by rw [HE.out, ← HV.out]; rfl, rfl⟩
          · rw [if_neg ho] at hv
            have HV := Lib.hid hv
            have hoi : decide ((1152921504606846976 - (d : Int)) / 10 < (n : Int)) = false := decide_eq_false (by omega)
            have hn9 : 10 * n + d ≤ 1152921504606846976 := by omega
            have HN := Lib.hid hn9
            have hn9i : 10 * (n : Int) + (d : Int) ≤ 1152921504606846976 := by omega
            clear hv ho hg hdig h48 hd hdrop hk hn hn9
            go_wp2
            go_round
            case rel => exact ⟨k + 1, 10 * n + d, by go_num, HLT.out, by go_num, HN.out, HV.out⟩
            case measure => have := HLT.out; simp [intOf]; omega
        · obtain rfl : k = s.size := by omega
          have HV : Hid (valGo 0 (ns s) = some n) := Lib.hid (by rw [← hv, List.drop_eq_nil_of_le (by rw [ns_len]; exact Nat.le_refl _)]; rfl)
          clear hv hk hlt hn
          go_wp2
          go_ret2
          exact ⟨by rw [HE.out, HV.out]; rfl, rfl⟩

end Go.Proofs.Ytpabngicbfcdkaa
