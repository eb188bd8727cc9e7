/-
  syntax: hexadecimal digits; what follows a backslash.
-/
import Derived.Test.YtpabngicbfcdkaaTok2
namespace Go.Proofs.Ytpabngicbfcdkaa
open Go.RowKit
set_option linter.unusedVariables false
set_option linter.unusedSimpArgs false

def hexP (c : Nat) : Option Nat := if 48 ≤ c ∧ c ≤ 57 then some (c - 48) else if 97 ≤ c ∧ c ≤ 102 then some (c - 87) else if 65 ≤ c ∧ c ≤ 70 then some (c - 55) else none
def hexV : Option Nat → Value
  | some n => .tuple #[.int .u8 (n : Nat), .bool true]
  | none => .tuple #[.int .u8 0, .bool false]
theorem hexP_lt {c n : Nat} (h : hexP c = some n) : n < 16 := by
  unfold hexP at h
  split at h
  · cases h; omega
  · split at h
    · cases h; omega
    · split at h
      · cases h; omega
      · cases h

set_option maxRecDepth 100000 in
theorem hex_any (c : Nat) (hc : c < 256) (w : World) : Calls Try.prog 60 #[.int .u8 c] w fun e w' => e = .returned (hexV (hexP c)) ∧ w = w' := by
  have HD := Lib.hid (isDigit_any c hc w)
  by_cases h1 : 48 ≤ c ∧ c ≤ 57
  · obtain ⟨n, hn⟩ : ∃ n, n = c - 48 := ⟨_, rfl⟩
    have HE : Hid (hexP c = some n) := Lib.hid (by unfold hexP; rw [if_pos h1, hn])
    rw [show digB c = true by simp [digB, h1]] at HD
    have hni : (c : Int) - 48 = (n : Int) := by omega
    have hlo : (48 : Int) ≤ (c : Int) := by omega
    have hhi : (c : Int) ≤ 57 := by omega
    clear h1 hc hn
    go_enter Try.func60, Try.ntmps60
    go_wp2_with (refine HD.out.mono ?_; rintro e w1 ⟨rfl, rfl⟩)
    go_ret2
    exact ⟨by rw [HE.out]; rfl, rfl⟩
  · rw [show digB c = false by
      unfold digB
      rw [← Bool.decide_and]
      exact decide_eq_false h1] at HD
    by_cases h2 : 97 ≤ c ∧ c ≤ 102
    · obtain ⟨n, hn⟩ : ∃ n, n = c - 87 := ⟨_, rfl⟩
      have HE : Hid (hexP c = some n) := Lib.hid (by unfold hexP; rw [if_neg h1, if_pos h2, hn])
      have hni : (c : Int) - 97 + 10 = (n : Int) := by omega
      have hlo : (97 : Int) ≤ (c : Int) := by omega
      have hhi : (c : Int) ≤ 102 := by omega
      clear h1 h2 hc hn
      go_enter Try.func60, Try.ntmps60
      go_wp2_with (refine HD.out.mono ?_; rintro e w1 ⟨rfl, rfl⟩)
      go_ret2
      exact ⟨by rw [HE.out]; rfl, rfl⟩
    · have hr2 : decide ((97 : Int) ≤ (c : Int)) = false ∨ (decide ((97 : Int) ≤ (c : Int)) = true ∧ decide ((c : Int) ≤ 102) = false) := by
        by_cases e : 97 ≤ c
        · exact .inr ⟨decide_eq_true (by omega), decide_eq_false (by omega)⟩
        · exact .inl (decide_eq_false (by omega))
      by_cases h3 : 65 ≤ c ∧ c ≤ 70
      · obtain ⟨n, hn⟩ : ∃ n, n = c - 55 := ⟨_, rfl⟩
        have HE : Hid (hexP c = some n) := Lib.hid (by unfold hexP; rw [if_neg h1, if_neg h2, if_pos h3, hn])
        have hni : (c : Int) - 65 + 10 = (n : Int) := by omega
        have hlo : (65 : Int) ≤ (c : Int) := by omega
        have hhi : (c : Int) ≤ 70 := by omega
        have hr2 : decide ((97 : Int) ≤ (c : Int)) = false := decide_eq_false (by omega)
        clear h1 h2 hc hn h3
        go_enter Try.func60, Try.ntmps60
        go_wp2_with (refine HD.out.mono ?_; rintro e w1 ⟨rfl, rfl⟩)
        go_ret2
        exact ⟨by rw [HE.out]; rfl, rfl⟩
      · have HE : Hid (hexP c = none) := Lib.hid (by unfold hexP; rw [if_neg h1, if_neg h2, if_neg h3])
        have hr3 : decide ((65 : Int) ≤ (c : Int)) = false ∨ (decide ((65 : Int) ≤ (c : Int)) = true ∧ decide ((c : Int) ≤ 70) = false) := by
          by_cases e : 65 ≤ c
          · exact .inr ⟨decide_eq_true (by omega), decide_eq_false (by omega)⟩
          · exact .inl (decide_eq_false (by omega))
        have hlo : (0 : Int) ≤ (c : Int) := by omega
        have hhi : (c : Int) ≤ 255 := by omega
        clear h1 h2 hc h3
        rcases hr2 with hr2 | ⟨hr2, hr2b⟩ <;> rcases hr3 with hr3 | ⟨hr3, hr3b⟩
        all_goals
          go_enter Try.func60, Try.ntmps60
          go_wp2_with (refine HD.out.mono ?_; rintro e w1 ⟨rfl, rfl⟩)
          go_ret2
          exact ⟨by rw [HE.out]; rfl, rfl⟩

/-- what follows a backslash: the byte, and how many bytes were read -/
def escP : List Nat → Option (Nat × Nat)
  | [] => none
  | c :: r => if c = 110 then some (10, 1) else if c = 116 then some (9, 1) else if c = 114 then some (13, 1) else if c = 34 ∨ c = 92 then some (c, 1) else if c = 120 then
      match r with
      | a :: b :: _ => match hexP a, hexP b with
        | some x, some y => some (16 * x + y, 3)
        | _, _ => none
      | _ => none
    else none
def escV : Option (Nat × Nat) → Value
  | some (x, n) => .tuple #[.int .u8 (x : Nat), .int .i64 (n : Nat)]
  | none => .tuple #[.int .u8 0, .int .i64 0]

theorem str_empty {s : ByteArray} (h : s.size = 0) : s.toList = [] := by rw [ByteArray.toList_eq]; exact List.eq_nil_of_length_eq_zero h
theorem str_nonempty {s : ByteArray} (h : 0 < s.size) : s.toList.isEmpty = false := by
  rw [ByteArray.toList_eq]
  have : s.data.toList.length = s.size := rfl
  cases hl : s.data.toList with
  | nil => rw [hl] at this; simp at this; omega
  | cons _ _ => rfl
theorem ns_cons {s : ByteArray} (h : 0 < s.size) : ns s = (s[0]'h).toNat :: (ns s).drop 1 := by
  have hg := ns_get h
  have hl : 0 < (ns s).length := by rw [ns_len]; exact h
  conv => lhs; rw [← List.drop_zero (l := ns s), List.drop_eq_getElem_cons hl]
  rw [(List.getElem?_eq_some_iff.1 hg).2]

set_option maxRecDepth 100000 in
set_option maxHeartbeats 2000000 in
theorem escaped_any (s : ByteArray) (hs : s.size ≤ 1000000000) (w : World) : Calls Try.prog 51 #[.string s] w fun e w' => e = .returned (escV (escP (ns s))) ∧ w = w' := by
  have hsi : (s.size : Int) ≤ 1000000000 := by omega
  rcases Nat.eq_zero_or_pos s.size with h0 | h0
  · have he := str_empty h0
    have hb : (!s.toList.isEmpty) = false := by rw [he]; rfl
    have HE : Hid (escP (ns s) = none) := Lib.hid (by rw [List.eq_nil_of_length_eq_zero ((ns_len s).trans h0)]; rfl)
    clear hs h0
    go_enter Try.func51, Try.ntmps51
    go_wp2
    go_ret2
    exact ⟨by rw [HE.out]; rfl, rfl⟩
  · have hne := str_nonempty h0
    have hpi : (0 : Int) < (s.size : Int) := by omega
    have HNS := Lib.hid (ns_cons h0)
    obtain ⟨c, hc⟩ : ∃ c, (s[0]'h0).toNat = c := ⟨_, rfl⟩
    rw [hc] at HNS
    obtain ⟨r, hr⟩ : ∃ r, r = (ns s).drop 1 := ⟨_, rfl⟩
    rw [← hr] at HNS
    have HR := Lib.hid hr
    have hc9 : (c : Int) ≤ 255 := by have := (s[0]'h0).toNat_lt; omega
    clear hr
    by_cases e1 : c = 110
    · subst e1
      have HE : Hid (escP (ns s) = some (10, 1)) := Lib.hid (by rw [HNS.out]; rfl)
      go_enter Try.func51, Try.ntmps51
      go_wp2
      go_ret2
      exact ⟨by rw [HE.out]; rfl, rfl⟩
    have b1 : ((c : Int) == 110) = false := by rw [beq_eq_false_iff_ne]; omega
    by_cases e2 : c = 116
    · subst e2
      have HE : Hid (escP (ns s) = some (9, 1)) := Lib.hid (by rw [HNS.out]; rfl)
      go_enter Try.func51, Try.ntmps51
      go_wp2
      go_ret2
      exact ⟨by rw [HE.out]; rfl, rfl⟩
    have b2 : ((c : Int) == 116) = false := by rw [beq_eq_false_iff_ne]; omega
    by_cases e3 : c = 114
    · subst e3
      have HE : Hid (escP (ns s) = some (13, 1)) := Lib.hid (by rw [HNS.out]; rfl)
      go_enter Try.func51, Try.ntmps51
      go_wp2
      go_ret2
      exact ⟨by rw [HE.out]; rfl, rfl⟩
    have b3 : ((c : Int) == 114) = false := by rw [beq_eq_false_iff_ne]; omega
    by_cases e4 : c = 34
    · subst e4
      have HE : Hid (escP (ns s) = some (34, 1)) := Lib.hid (by rw [HNS.out]; rfl)
      go_enter Try.func51, Try.ntmps51
      go_wp2
      go_ret2
      exact ⟨by rw [HE.out]; rfl, rfl⟩
    have b4 : ((c : Int) == 34) = false := by rw [beq_eq_false_iff_ne]; omega
    by_cases e5 : c = 92
    · subst e5
      have HE : Hid (escP (ns s) = some (92, 1)) := Lib.hid (by rw [HNS.out]; rfl)
      go_enter Try.func51, Try.ntmps51
      go_wp2
      go_ret2
      exact ⟨by rw [HE.out]; rfl, rfl⟩
    have b5 : ((c : Int) == 92) = false := by rw [beq_eq_false_iff_ne]; omega
    by_cases e6 : c = 120
    · subst e6
      by_cases h3 : s.size < 3
      · have HE : Hid (escP (ns s) = none) := Lib.hid (by
          have hl := ns_len s
          rw [HNS.out] at hl ⊢
          match r, hl with
          | [], _ => rfl
          | [a], _ => rfl
          | a :: b :: q, hl => simp at hl; omega)
        have h3i : (s.size : Int) < 3 := by omega
        clear h3 hs e1 e2 e3 e4 e5
        go_enter Try.func51, Try.ntmps51
        go_wp2
        go_ret2
        exact ⟨by rw [HE.out]; rfl, rfl⟩
      · have h3i : decide ((s.size : Int) < 3) = false := decide_eq_false (by omega)
        have hs1 : 1 < s.size := by omega
        have hs2 : 2 < s.size := by omega
        have h1i : (1 : Int) < (s.size : Int) := by omega
        have h2i : (2 : Int) < (s.size : Int) := by omega
        have hg1 := ns_get hs1
        have hg2 := ns_get hs2
        obtain ⟨a, ha⟩ : ∃ a, (s[1]'hs1).toNat = a := ⟨_, rfl⟩
        obtain ⟨b, hb⟩ : ∃ b, (s[2]'hs2).toNat = b := ⟨_, rfl⟩
        have hal : a < 256 := by rw [← ha]; exact (s[1]'hs1).toNat_lt
        have hbl : b < 256 := by rw [← hb]; exact (s[2]'hs2).toNat_lt
        rw [ha] at hg1
        rw [hb] at hg2
        have HHA := Lib.hid (hex_any a hal w)
        have HHB := Lib.hid (hex_any b hbl w)
        have HX : Hid (escP (ns s) = match hexP a, hexP b with | some x, some y => some (16 * x + y, 3) | _, _ => none) := Lib.hid (by
          rw [HNS.out] at hg1 hg2 ⊢
          match r, hg1, hg2 with
          | [], h, _ => cases h
          | [_], _, h => cases h
          | u :: v :: q, h1, h2 =>
            simp at h1 h2
            subst h1; subst h2
            rfl)
        clear hg1 hg2 h3 hs hal hbl e1 e2 e3 e4 e5
        cases hxa : hexP a with
        | none =>
          have HE : Hid (escP (ns s) = none) := Lib.hid (by rw [HX.out, hxa])
          rw [hxa] at HHA
          cases hxb : hexP b with
          | none =>
            rw [hxb] at HHB
            clear hxa hxb
            go_enter Try.func51, Try.ntmps51
            go_wp2_with fail
            refine HHA.out.mono ?_
            rintro e w1 ⟨rfl, rfl⟩
            unfold hexV
            go_wp2_with fail
            refine HHB.out.mono ?_
            rintro e w1 ⟨rfl, rfl⟩
            unfold hexV
            go_wp2
            go_ret2
            exact ⟨by rw [HE.out]; rfl, rfl⟩
          | some y =>
            rw [hxb] at HHB
            clear hxa hxb
            go_enter Try.func51, Try.ntmps51
            go_wp2_with fail
            refine HHA.out.mono ?_
            rintro e w1 ⟨rfl, rfl⟩
            unfold hexV
            go_wp2_with fail
            refine HHB.out.mono ?_
            rintro e w1 ⟨rfl, rfl⟩
            unfold hexV
            go_wp2
            go_ret2
            exact ⟨by rw [HE.out]; rfl, rfl⟩
        | some x =>
          rw [hxa] at HHA
          have hx16 := hexP_lt hxa
          cases hxb : hexP b with
          | none =>
            have HE : Hid (escP (ns s) = none) := Lib.hid (by rw [HX.out, hxa, hxb])
            rw [hxb] at HHB
            clear hxa hxb
            go_enter Try.func51, Try.ntmps51
            go_wp2_with fail
            refine HHA.out.mono ?_
            rintro e w1 ⟨rfl, rfl⟩
            unfold hexV
            go_wp2_with fail
            refine HHB.out.mono ?_
            rintro e w1 ⟨rfl, rfl⟩
            unfold hexV
            go_wp2
            go_ret2
            exact ⟨by rw [HE.out]; rfl, rfl⟩
          | some y =>
            have HE : Hid (escP (ns s) = some (16 * x + y, 3)) := Lib.hid (by rw [HX.out, hxa, hxb])
            have hy16 := hexP_lt hxb
            have hxi : (x : Int) ≤ 15 := by omega
            have hyi : (y : Int) ≤ 15 := by omega
            rw [hxb] at HHB
            clear hxa hxb hx16 hy16
            go_enter Try.func51, Try.ntmps51
            go_wp2_with fail
            refine HHA.out.mono ?_
            rintro e w1 ⟨rfl, rfl⟩
            unfold hexV
            go_wp2_with fail
            refine HHB.out.mono ?_
            rintro e w1 ⟨rfl, rfl⟩
            unfold hexV
            go_wp2
            go_ret2
            exact ⟨by rw [HE.out]; simp [escV], rfl⟩
    have b6 : ((c : Int) == 120) = false := by rw [beq_eq_false_iff_ne]; omega
    have HE : Hid (escP (ns s) = none) := Lib.hid (by rw [HNS.out]; simp [escP, e1, e2, e3, e4, e5, e6])
    clear e1 e2 e3 e4 e5 e6 hs
    go_enter Try.func51, Try.ntmps51
    go_wp2
    go_ret2
    exact ⟨by rw [HE.out]; rfl, rfl⟩

end Go.Proofs.Ytpabngicbfcdkaa
