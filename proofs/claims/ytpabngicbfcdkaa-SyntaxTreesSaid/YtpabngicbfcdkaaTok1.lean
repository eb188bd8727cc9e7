/-
  syntax: the kinds of bytes; span; value; hex.
-/
import Derived.Test.YtpabngicbfcdkaaSizeW
import Derived.Test.YtpabngicbfcdkaaStrs
namespace Go.Proofs.Ytpabngicbfcdkaa
open Go.RowKit
set_option linter.unusedVariables false
set_option linter.unusedSimpArgs false

/-- the bytes of a string -/
def ns (s : ByteArray) : List Nat := s.data.toList.map UInt8.toNat
theorem ns_len (s : ByteArray) : (ns s).length = s.size := by unfold ns; rw [List.length_map]; rfl
theorem ns_lt (s : ByteArray) : ∀ c ∈ ns s, c < 256 := by
  intro c hc
  obtain ⟨b, _, rfl⟩ := List.mem_map.1 hc
  exact b.toNat_lt
theorem ns_get {s : ByteArray} {k : Nat} (h : k < s.size) : (ns s)[k]? = some (s[k]).toNat := by
  unfold ns
  rw [List.getElem?_map, List.getElem?_eq_getElem (show k < s.data.toList.length from h)]
  rfl

def digB (c : Nat) : Bool := decide (48 ≤ c) && decide (c ≤ 57)
def letB (c : Nat) : Bool := decide (97 ≤ c) && decide (c ≤ 122)
def refB (c : Nat) : Bool := letB c || digB c || c == 45 || c == 126 || c == 35

set_option maxRecDepth 100000 in
theorem isDigit_any (c : Nat) (hc : c < 256) (w : World) : Calls Try.prog 30 #[.int .u8 c] w fun e w' => e = .returned (.bool (digB c)) ∧ w = w' := by
  by_cases h1 : 48 ≤ c
  · have h1' : (48 : Int) ≤ (c : Int) := by omega
    by_cases h2 : c ≤ 57
    · have h2' : (c : Int) ≤ 57 := by omega
      have HE : Hid (digB c = true) := Lib.hid (by simp [digB, h1, h2])
      clear h1 h2 hc
      go_enter Try.func30, Try.ntmps30
      go_wp2
      go_ret
      exact ⟨ret_eq (by rw [HE.out]; rfl), rfl⟩
    · have h2' : decide ((c : Int) ≤ 57) = false := decide_eq_false (by omega)
      have HE : Hid (digB c = false) := Lib.hid (by simp [digB, h2])
      clear h1 h2 hc
      go_enter Try.func30, Try.ntmps30
      go_wp2
      go_ret
      exact ⟨ret_eq (by rw [HE.out]; rfl), rfl⟩
  · have h1' : decide ((48 : Int) ≤ (c : Int)) = false := decide_eq_false (by omega)
    have HE : Hid (digB c = false) := Lib.hid (by simp [digB, h1])
    clear h1 hc
    go_enter Try.func30, Try.ntmps30
    go_wp2
    go_ret
    exact ⟨ret_eq (by rw [HE.out]; rfl), rfl⟩

set_option maxRecDepth 100000 in
theorem isLetter_any (c : Nat) (hc : c < 256) (w : World) : Calls Try.prog 35 #[.int .u8 c] w fun e w' => e = .returned (.bool (letB c)) ∧ w = w' := by
  by_cases h1 : 97 ≤ c
  · have h1' : (97 : Int) ≤ (c : Int) := by omega
    by_cases h2 : c ≤ 122
    · have h2' : (c : Int) ≤ 122 := by omega
      have HE : Hid (letB c = true) := Lib.hid (by simp [letB, h1, h2])
      clear h1 h2 hc
      go_enter Try.func35, Try.ntmps35
      go_wp2
      go_ret
      exact ⟨ret_eq (by rw [HE.out]; rfl), rfl⟩
    · have h2' : decide ((c : Int) ≤ 122) = false := decide_eq_false (by omega)
      have HE : Hid (letB c = false) := Lib.hid (by simp [letB, h2])
      clear h1 h2 hc
      go_enter Try.func35, Try.ntmps35
      go_wp2
      go_ret
      exact ⟨ret_eq (by rw [HE.out]; rfl), rfl⟩
  · have h1' : decide ((97 : Int) ≤ (c : Int)) = false := decide_eq_false (by omega)
    have HE : Hid (letB c = false) := Lib.hid (by simp [letB, h1])
    clear h1 hc
    go_enter Try.func35, Try.ntmps35
    go_wp2
    go_ret
    exact ⟨ret_eq (by rw [HE.out]; rfl), rfl⟩

set_option maxRecDepth 100000 in
theorem isRef_any (c : Nat) (hc : c < 256) (w : World) : Calls Try.prog 34 #[.int .u8 c] w fun e w' => e = .returned (.bool (refB c)) ∧ w = w' := by
  have HL := Lib.hid (isLetter_any c hc w)
  have HD := Lib.hid (isDigit_any c hc w)
  clear hc
  cases h1 : letB c with
  | true =>
    have HE : Hid (refB c = true) := Lib.hid (by simp [refB, h1])
    rw [h1] at HL
    clear h1
    go_enter Try.func34, Try.ntmps34
    go_wp2_with fail
    refine HL.out.mono ?_
    rintro e w1 ⟨rfl, rfl⟩
    go_wp2
    go_ret
    exact ⟨ret_eq (by rw [HE.out]; rfl), rfl⟩
  | false =>
    cases h2 : digB c with
    | true =>
      have HE : Hid (refB c = true) := Lib.hid (by simp [refB, h2])
      rw [h1] at HL
      rw [h2] at HD
      clear h1 h2
      go_enter Try.func34, Try.ntmps34
      go_wp2_with fail
      refine HL.out.mono ?_
      rintro e w1 ⟨rfl, rfl⟩
      go_wp2_with fail
      refine HD.out.mono ?_
      rintro e w1 ⟨rfl, rfl⟩
      go_wp2
      go_ret
      exact ⟨ret_eq (by rw [HE.out]; rfl), rfl⟩
    | false =>
      rw [h1] at HL
      rw [h2] at HD
      have HR : Hid (refB c = (c == 45 || c == 126 || c == 35)) := Lib.hid (by simp [refB, h1, h2])
      clear h1 h2
      by_cases e1 : c = 45
      · subst e1
        go_enter Try.func34, Try.ntmps34
        go_wp2_with (first | (refine HL.out.mono ?_; rintro e w1 ⟨rfl, rfl⟩) | (refine HD.out.mono ?_; rintro e w1 ⟨rfl, rfl⟩))
        go_ret
        exact ⟨ret_eq (by rw [HR.out]; rfl), rfl⟩
      · have b1 : ((c : Int) == 45) = false := by rw [beq_eq_false_iff_ne]; omega
        by_cases e2 : c = 126
        · subst e2
          go_enter Try.func34, Try.ntmps34
          go_wp2_with (first | (refine HL.out.mono ?_; rintro e w1 ⟨rfl, rfl⟩) | (refine HD.out.mono ?_; rintro e w1 ⟨rfl, rfl⟩))
          go_ret
          exact ⟨ret_eq (by rw [HR.out]; rfl), rfl⟩
        · have b2 : ((c : Int) == 126) = false := by rw [beq_eq_false_iff_ne]; omega
          by_cases e3 : c = 35
          · subst e3
            go_enter Try.func34, Try.ntmps34
            go_wp2_with (first | (refine HL.out.mono ?_; rintro e w1 ⟨rfl, rfl⟩) | (refine HD.out.mono ?_; rintro e w1 ⟨rfl, rfl⟩))
            go_ret
            exact ⟨ret_eq (by rw [HR.out]; rfl), rfl⟩
          · have b3 : ((c : Int) == 35) = false := by rw [beq_eq_false_iff_ne]; omega
            have HE : Hid (refB c = false) := Lib.hid (by rw [HR.out]; simp [e1, e2, e3])
            clear e1 e2 e3
            go_enter Try.func34, Try.ntmps34
            go_wp2_with (first | (refine HL.out.mono ?_; rintro e w1 ⟨rfl, rfl⟩) | (refine HD.out.mono ?_; rintro e w1 ⟨rfl, rfl⟩))
            go_ret
            exact ⟨ret_eq (by rw [HE.out]; rfl), rfl⟩

theorem cf_dig (args : Array Value) (w : World) : (callFunc 30 args).run Try.prog w = .ok (.enter 30 args) w := by
  obtain ⟨c, hc⟩ : ∃ c, Try.f30.body = some c := ⟨_, rfl⟩
  exact cf_enter Try.func30 (by kernel_rfl) hc args w
theorem cf_let (args : Array Value) (w : World) : (callFunc 35 args).run Try.prog w = .ok (.enter 35 args) w := by
  obtain ⟨c, hc⟩ : ∃ c, Try.f35.body = some c := ⟨_, rfl⟩
  exact cf_enter Try.func35 (by kernel_rfl) hc args w
theorem cf_ref (args : Array Value) (w : World) : (callFunc 34 args).run Try.prog w = .ok (.enter 34 args) w := by
  obtain ⟨c, hc⟩ : ∃ c, Try.f34.body = some c := ⟨_, rfl⟩
  exact cf_enter Try.func34 (by kernel_rfl) hc args w

/-- how many bytes of a kind a text begins with -/
def spn (is : Nat → Bool) (l : List Nat) : Nat := (l.takeWhile is).length
theorem spn_end {is : Nat → Bool} : ∀ {l : List Nat} {k : Nat}, (∀ j c, j < k → l[j]? = some c → is c = true) → k ≤ l.length → (∀ c, l[k]? = some c → is c = false) → spn is l = k
  | [], k, _, hk, _ => by simp at hk; subst hk; rfl
  | x :: r, 0, _, _, h => by have := h x rfl; simp [spn, List.takeWhile, this]
  | x :: r, k + 1, h1, hk, h2 => by
    have hx := h1 0 x (by omega) rfl
    have := spn_end (is := is) (l := r) (k := k) (fun j c hj hc => h1 (j + 1) c (by omega) (by simpa using hc)) (by simpa using hk) (fun c hc => h2 c (by simpa using hc))
    unfold spn at *
    rw [List.takeWhile_cons, if_pos hx, List.length_cons, this]
theorem spn_le (is : Nat → Bool) (l : List Nat) : spn is l ≤ l.length := List.Sublist.length_le (List.takeWhile_sublist _)

set_option maxRecDepth 100000 in
set_option maxHeartbeats 1000000 in
theorem span_any (F : Nat) (is : Nat → Bool) (s : ByteArray) (hs : s.size ≤ 1000000000) (w : World) (hcf : ∀ args w, (callFunc F args).run Try.prog w = .ok (.enter F args) w)
    (hF : ∀ (c : Nat) (w : World), c < 256 → Calls Try.prog F #[.int .u8 c] w fun e w' => e = .returned (.bool (is c)) ∧ w = w') :
    Calls Try.prog 31 #[.string s, .func (.func F) #[] #[]] w fun e w' => e = .returned (.int .i64 (spn is (ns s) : Nat)) ∧ w = w' := by
  have HF := Lib.hid hF
  have hsi : (s.size : Int) ≤ 1000000000 := by omega
  clear hF hs
  go_enter Try.func31, Try.ntmps31
  go_wp2
  go_loop [5] (fun kv => ∃ k : Nat, kv = .int .i64 k ∧ k ≤ s.size ∧ ∀ j c, j < k → (ns s)[j]? = some c → is c = true) (fun kv => s.size - (intOf kv).toNat)
  case atStart => exact ⟨0, rfl, by omega, fun j c hj => by omega⟩
  case round =>
    obtain ⟨k, rfl, hk, hall⟩ := hrel
    by_cases hlt : k < s.size
    · have HG := Lib.hid (ns_get hlt)
      have HA := Lib.hid hall
      have HLT := Lib.hid hlt
      have hki : (k : Int) < (s.size : Int) := by omega
      have HC := Lib.hid (HF.out (s[k]).toNat w (s[k]).toNat_lt)
      cases hb : is (s[k]).toNat with
      | true =>
        rw [hb] at HC
        have HB := Lib.hid hb
        clear hall hk hb
        go_wp2_with (refine HC.out.mono ?_; rintro e w1 ⟨rfl, rfl⟩)
        go_round
        case rel => exact ⟨k + 1, by go_num, HLT.out, fun j c hj hc => by
          by_cases e : j = k
          · subst e; rw [HG.out] at hc; cases hc; exact HB.out
          · exact HA.out j c (by omega) hc⟩
        case measure => have := HLT.out; simp [intOf]; omega
      | false =>
        rw [hb] at HC
        have HE : Hid (spn is (ns s) = k) := Lib.hid (spn_end hall (by rw [ns_len]; exact hk) (fun c hc => by rw [HG.out] at hc; cases hc; exact hb))
        clear hall hk hb
        go_wp2_with (refine HC.out.mono ?_; rintro e w1 ⟨rfl, rfl⟩)
        go_ret
        exact ⟨ret_eq (by rw [HE.out]; rfl), rfl⟩
    · obtain rfl : k = s.size := by omega
      have HE : Hid (spn is (ns s) = s.size) := Lib.hid (spn_end hall (by rw [ns_len]; exact hk) (fun c hc => by rw [List.getElem?_eq_none (by rw [ns_len]; exact Nat.le_refl _)] at hc; cases hc))
      clear hall hk hlt
      go_wp2
      go_ret
      exact ⟨ret_eq (by rw [HE.out]; rfl), rfl⟩

end Go.Proofs.Ytpabngicbfcdkaa
