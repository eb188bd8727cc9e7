/-
  Joined texts: syntax: hexadecimal digits; what follows a backslash. · syntax: strings in quotes. · DERIVED: THE SHELF's CONTRACTS AT THIS DUMP, IN PLAIN WORDS (tools/lay-plain.mjs out of 'TrydShelf.lean', which tools/lay-shelf.mjs wrote): THE SAME DECLARATIONS UNDER THE SAME NAMES: 'import', 'namespace', 'open', 'def', 'theorem' AND NOTHING ELSE: no command of the shelf's: FOR A HAND-IN. Each laying: the table of numbers ('.._ren') and one theorem, a field a fact of the dump's own or the kernel's comparison; each contract: ONE APPLICATION. · syntax.next: the token with which a text begins. · syntax.Tokens: the tokens of a text.
-/
import Derived.Test.YtpabngicbfcdkaaDoorFo2
import Derived.Lib.Strings
import Derived.Shelf.Small.Strs
import Derived.Shelf.Strconv.Itoa0
import Derived.Shelf.Strconv.Itoa1
import Derived.Shelf.LaysM
import Derived.Shelf.Strconv.Itoa2
import Derived.Shelf.Strconv.Itoa3
import Derived.Shelf.Strings.Search1
import Derived.Shelf.Slices.Turned
import Derived.Test.YtpabngicbfcdkaaDoorProg

/- syntax: hexadecimal digits; what follows a backslash. -/
namespace Go.Proofs.YtpabngicbfcdkaaDoor
open Go.RowKit
set_option linter.unusedVariables false
set_option linter.unusedSimpArgs false

def hexP (c : Nat) : Option Nat := if 48 ≤ c ∧ c ≤ 57 then some (c - 48) else if 97 ≤ c ∧ c ≤ 102 then some (c - 87) else if 65 ≤ c ∧ c ≤ 70 then some (c - 55) else none
def hexV : Option Nat → Value
  | some n => .tuple #[.int .u8 (n : Nat), .bool true]
  | none => .tuple #[.int .u8 0, .bool false]
theorem hexP_lt {c n : Nat} (h : hexP c = some n) : n < 16 := by
  unfold hexP at h
  split at h
  · cases h; omega
  · split at h
    · cases h; omega
    · split at h
      · cases h; omega
      · cases h

set_option maxRecDepth 100000 in
theorem hex_any (c : Nat) (hc : c < 256) (w : World) : Calls Tryd.prog 69 #[.int .u8 c] w fun e w' => e = .returned (hexV (hexP c)) ∧ w = w' := by
  have HD := Lib.hid (isDigit_any c hc w)
  by_cases h1 : 48 ≤ c ∧ c ≤ 57
  · obtain ⟨n, hn⟩ : ∃ n, n = c - 48 := ⟨_, rfl⟩
    have HE : Hid (hexP c = some n) := Lib.hid (by unfold hexP; rw [if_pos h1, hn])
    rw [show digB c = true by simp [digB, h1]] at HD
    have hni : (c : Int) - 48 = (n : Int) := by omega
    have hlo : (48 : Int) ≤ (c : Int) := by omega
    have hhi : (c : Int) ≤ 57 := by omega
    clear h1 hc hn
    go_enter Tryd.func69, Tryd.ntmps69
    go_wp2_with (refine HD.out.mono ?_; rintro e w1 ⟨rfl, rfl⟩)
    go_ret2
    exact ⟨by rw [HE.out]; rfl, rfl⟩
  · rw [show digB c = false by
      unfold digB
      rw [← Bool.decide_and]
      exact decide_eq_false h1] at HD
    by_cases h2 : 97 ≤ c ∧ c ≤ 102
    · obtain ⟨n, hn⟩ : ∃ n, n = c - 87 := ⟨_, rfl⟩
      have HE : Hid (hexP c = some n) := Lib.hid (by unfold hexP; rw [if_neg h1, if_pos h2, hn])
      have hni : (c : Int) - 97 + 10 = (n : Int) := by omega
      have hlo : (97 : Int) ≤ (c : Int) := by omega
      have hhi : (c : Int) ≤ 102 := by omega
      clear h1 h2 hc hn
      go_enter Tryd.func69, Tryd.ntmps69
      go_wp2_with (refine HD.out.mono ?_; rintro e w1 ⟨rfl, rfl⟩)
      go_ret2
      exact ⟨by rw [HE.out]; rfl, rfl⟩
    · have hr2 : decide ((97 : Int) ≤ (c : Int)) = false ∨ (decide ((97 : Int) ≤ (c : Int)) = true ∧ decide ((c : Int) ≤ 102) = false) := by
        by_cases e : 97 ≤ c
        · exact .inr ⟨decide_eq_true (by omega), decide_eq_false (by omega)⟩
        · exact .inl (decide_eq_false (by omega))
      by_cases h3 : 65 ≤ c ∧ c ≤ 70
      · obtain ⟨n, hn⟩ : ∃ n, n = c - 55 := ⟨_, rfl⟩
        have HE : Hid (hexP c = some n) := Lib.hid (by unfold hexP; rw [if_neg h1, if_neg h2, if_pos h3, hn])
        have hni : (c : Int) - 65 + 10 = (n : Int) := by omega
        have hlo : (65 : Int) ≤ (c : Int) := by omega
        have hhi : (c : Int) ≤ 70 := by omega
        have hr2 : decide ((97 : Int) ≤ (c : Int)) = false := decide_eq_false (by omega)
        clear h1 h2 hc hn h3
        go_enter Tryd.func69, Tryd.ntmps69
        go_wp2_with (refine HD.out.mono ?_; rintro e w1 ⟨rfl, rfl⟩)
        go_ret2
        exact ⟨by rw [HE.out]; rfl, rfl⟩
      · have HE : Hid (hexP c = none) := Lib.hid (by unfold hexP; rw [if_neg h1, if_neg h2, if_neg h3])
        have hr3 : decide ((65 : Int) ≤ (c : Int)) = false ∨ (decide ((65 : Int) ≤ (c : Int)) = true ∧ decide ((c : Int) ≤ 70) = false) := by
          by_cases e : 65 ≤ c
          · exact .inr ⟨decide_eq_true (by omega), decide_eq_false (by omega)⟩
          · exact .inl (decide_eq_false (by omega))
        have hlo : (0 : Int) ≤ (c : Int) := by omega
        have hhi : (c : Int) ≤ 255 := by omega
        clear h1 h2 hc h3
        rcases hr2 with hr2 | ⟨hr2, hr2b⟩ <;> rcases hr3 with hr3 | ⟨hr3, hr3b⟩
        all_goals
          go_enter Tryd.func69, Tryd.ntmps69
          go_wp2_with (refine HD.out.mono ?_; rintro e w1 ⟨rfl, rfl⟩)
          go_ret2
          exact ⟨by rw [HE.out]; rfl, rfl⟩

/-- what follows a backslash: the byte, and how many bytes were read -/
def escP : List Nat → Option (Nat × Nat)
  | [] => none
  | c :: r => if c = 110 then some (10, 1) else if c = 116 then some (9, 1) else if c = 114 then some (13, 1) else if c = 34 ∨ c = 92 then some (c, 1) else if c = 120 then
      match r with
      | a :: b :: _ => match hexP a, hexP b with
        | some x, some y => some (16 * x + y, 3)
        | _, _ => none
      | _ => none
    else none
def escV : Option (Nat × Nat) → Value
  | some (x, n) => .tuple #[.int .u8 (x : Nat), .int .i64 (n : Nat)]
  | none => .tuple #[.int .u8 0, .int .i64 0]

theorem str_empty {s : ByteArray} (h : s.size = 0) : s.toList = [] := by rw [ByteArray.toList_eq]; exact List.eq_nil_of_length_eq_zero h
theorem str_nonempty {s : ByteArray} (h : 0 < s.size) : s.toList.isEmpty = false := by
  rw [ByteArray.toList_eq]
  have : s.data.toList.length = s.size := rfl
  cases hl : s.data.toList with
  | nil => rw [hl] at this; simp at this; omega
  | cons _ _ => rfl
theorem ns_cons {s : ByteArray} (h : 0 < s.size) : ns s = (s[0]'h).toNat :: (ns s).drop 1 := by
  have hg := ns_get h
  have hl : 0 < (ns s).length := by rw [ns_len]; exact h
  conv => lhs; rw [← List.drop_zero (l := ns s), List.drop_eq_getElem_cons hl]
  rw [(List.getElem?_eq_some_iff.1 hg).2]

set_option maxRecDepth 100000 in
set_option maxHeartbeats 2000000 in
theorem escaped_any (s : ByteArray) (hs : s.size ≤ 1000000000) (w : World) : Calls Tryd.prog 65 #[.string s] w fun e w' => e = .returned (escV (escP (ns s))) ∧ w = w' := by
  have hsi : (s.size : Int) ≤ 1000000000 := by omega
  rcases Nat.eq_zero_or_pos s.size with h0 | h0
  · have he := str_empty h0
    have hb : (!s.toList.isEmpty) = false := by rw [he]; rfl
    have HE : Hid (escP (ns s) = none) := Lib.hid (by rw [List.eq_nil_of_length_eq_zero ((ns_len s).trans h0)]; rfl)
    clear hs h0
    go_enter Tryd.func65, Tryd.ntmps65
    go_wp2
    go_ret2
    exact ⟨by rw [HE.out]; rfl, rfl⟩
  · have hne := str_nonempty h0
    have hpi : (0 : Int) < (s.size : Int) := by omega
    have HNS := Lib.hid (ns_cons h0)
    obtain ⟨c, hc⟩ : ∃ c, (s[0]'h0).toNat = c := ⟨_, rfl⟩
    rw [hc] at HNS
    obtain ⟨r, hr⟩ : ∃ r, r = (ns s).drop 1 := ⟨_, rfl⟩
    rw [← hr] at HNS
    have HR := Lib.hid hr
    have hc9 : (c : Int) ≤ 255 := by have := (s[0]'h0).toNat_lt; omega
    clear hr
    by_cases e1 : c = 110
    · subst e1
      have HE : Hid (escP (ns s) = some (10, 1)) := Lib.hid (by rw [HNS.out]; rfl)
      go_enter Tryd.func65, Tryd.ntmps65
      go_wp2
      go_ret2
      exact ⟨by rw [HE.out]; rfl, rfl⟩
    have b1 : ((c : Int) == 110) = false := by rw [beq_eq_false_iff_ne]; omega
    by_cases e2 : c = 116
    · subst e2
      have HE : Hid (escP (ns s) = some (9, 1)) := Lib.hid (by rw [HNS.out]; rfl)
      go_enter Tryd.func65, Tryd.ntmps65
      go_wp2
      go_ret2
      exact ⟨by rw [HE.out]; rfl, rfl⟩
    have b2 : ((c : Int) == 116) = false := by rw [beq_eq_false_iff_ne]; omega
    by_cases e3 : c = 114
    · subst e3
      have HE : Hid (escP (ns s) = some (13, 1)) := Lib.hid (by rw [HNS.out]; rfl)
      go_enter Tryd.func65, Tryd.ntmps65
      go_wp2
      go_ret2
      exact ⟨by rw [HE.out]; rfl, rfl⟩
    have b3 : ((c : Int) == 114) = false := by rw [beq_eq_false_iff_ne]; omega
    by_cases e4 : c = 34
    · subst e4
      have HE : Hid (escP (ns s) = some (34, 1)) := Lib.hid (by rw [HNS.out]; rfl)
      go_enter Tryd.func65, Tryd.ntmps65
      go_wp2
      go_ret2
      exact ⟨by rw [HE.out]; rfl, rfl⟩
    have b4 : ((c : Int) == 34) = false := by rw [beq_eq_false_iff_ne]; omega
    by_cases e5 : c = 92
    · subst e5
      have HE : Hid (escP (ns s) = some (92, 1)) := Lib.hid (by rw [HNS.out]; rfl)
      go_enter Tryd.func65, Tryd.ntmps65
      go_wp2
      go_ret2
      exact ⟨by rw [HE.out]; rfl, rfl⟩
    have b5 : ((c : Int) == 92) = false := by rw [beq_eq_false_iff_ne]; omega
    by_cases e6 : c = 120
    · subst e6
      by_cases h3 : s.size < 3
      · have HE : Hid (escP (ns s) = none) := Lib.hid (by
          have hl := ns_len s
          rw [HNS.out] at hl ⊢
          match r, hl with
          | [], _ => rfl
          | [a], _ => rfl
          | a :: b :: q, hl => simp at hl; omega)
        have h3i : (s.size : Int) < 3 := by omega
        clear h3 hs e1 e2 e3 e4 e5
        go_enter Tryd.func65, Tryd.ntmps65
        go_wp2
        go_ret2
        exact ⟨by rw [HE.out]; rfl, rfl⟩
      · have h3i : decide ((s.size : Int) < 3) = false := decide_eq_false (by omega)
        have hs1 : 1 < s.size := by omega
        have hs2 : 2 < s.size := by omega
        have h1i : (1 : Int) < (s.size : Int) := by omega
        have h2i : (2 : Int) < (s.size : Int) := by omega
        have hg1 := ns_get hs1
        have hg2 := ns_get hs2
        obtain ⟨a, ha⟩ : ∃ a, (s[1]'hs1).toNat = a := ⟨_, rfl⟩
        obtain ⟨b, hb⟩ : ∃ b, (s[2]'hs2).toNat = b := ⟨_, rfl⟩
        have hal : a < 256 := by rw [← ha]; exact (s[1]'hs1).toNat_lt
        have hbl : b < 256 := by rw [← hb]; exact (s[2]'hs2).toNat_lt
        rw [ha] at hg1
        rw [hb] at hg2
        have HHA := Lib.hid (hex_any a hal w)
        have HHB := Lib.hid (hex_any b hbl w)
        have HX : Hid (escP (ns s) = match hexP a, hexP b with | some x, some y => some (16 * x + y, 3) | _, _ => none) := Lib.hid (by
          rw [HNS.out] at hg1 hg2 ⊢
          match r, hg1, hg2 with
          | [], h, _ => cases h
          | [_], _, h => cases h
          | u :: v :: q, h1, h2 =>
            simp at h1 h2
            subst h1; subst h2
            rfl)
        clear hg1 hg2 h3 hs hal hbl e1 e2 e3 e4 e5
        cases hxa : hexP a with
        | none =>
          have HE : Hid (escP (ns s) = none) := Lib.hid (by rw [HX.out, hxa])
          rw [hxa] at HHA
          cases hxb : hexP b with
          | none =>
            rw [hxb] at HHB
            clear hxa hxb
            go_enter Tryd.func65, Tryd.ntmps65
            go_wp2_with fail
            refine HHA.out.mono ?_
            rintro e w1 ⟨rfl, rfl⟩
            unfold hexV
            go_wp2_with fail
            refine HHB.out.mono ?_
            rintro e w1 ⟨rfl, rfl⟩
            unfold hexV
            go_wp2
            go_ret2
            exact ⟨by rw [HE.out]; rfl, rfl⟩
          | some y =>
            rw [hxb] at HHB
            clear hxa hxb
            go_enter Tryd.func65, Tryd.ntmps65
            go_wp2_with fail
            refine HHA.out.mono ?_
            rintro e w1 ⟨rfl, rfl⟩
            unfold hexV
            go_wp2_with fail
            refine HHB.out.mono ?_
            rintro e w1 ⟨rfl, rfl⟩
            unfold hexV
            go_wp2
            go_ret2
            exact ⟨by rw [HE.out]; rfl, rfl⟩
        | some x =>
          rw [hxa] at HHA
          have hx16 := hexP_lt hxa
          cases hxb : hexP b with
          | none =>
            have HE : Hid (escP (ns s) = none) := Lib.hid (by rw [HX.out, hxa, hxb])
            rw [hxb] at HHB
            clear hxa hxb
            go_enter Tryd.func65, Tryd.ntmps65
            go_wp2_with fail
            refine HHA.out.mono ?_
            rintro e w1 ⟨rfl, rfl⟩
            unfold hexV
            go_wp2_with fail
            refine HHB.out.mono ?_
            rintro e w1 ⟨rfl, rfl⟩
            unfold hexV
            go_wp2
            go_ret2
            exact ⟨by rw [HE.out]; rfl, rfl⟩
          | some y =>
            have HE : Hid (escP (ns s) = some (16 * x + y, 3)) := Lib.hid (by rw [HX.out, hxa, hxb])
            have hy16 := hexP_lt hxb
            have hxi : (x : Int) ≤ 15 := by omega
            have hyi : (y : Int) ≤ 15 := by omega
            rw [hxb] at HHB
            clear hxa hxb hx16 hy16
            go_enter Tryd.func65, Tryd.ntmps65
            go_wp2_with fail
            refine HHA.out.mono ?_
            rintro e w1 ⟨rfl, rfl⟩
            unfold hexV
            go_wp2_with fail
            refine HHB.out.mono ?_
            rintro e w1 ⟨rfl, rfl⟩
            unfold hexV
            go_wp2
            go_ret2
            exact ⟨by rw [HE.out]; simp [escV], rfl⟩
    have b6 : ((c : Int) == 120) = false := by rw [beq_eq_false_iff_ne]; omega
    have HE : Hid (escP (ns s) = none) := Lib.hid (by rw [HNS.out]; simp [escP, e1, e2, e3, e4, e5, e6])
    clear e1 e2 e3 e4 e5 e6 hs
    go_enter Tryd.func65, Tryd.ntmps65
    go_wp2
    go_ret2
    exact ⟨by rw [HE.out]; rfl, rfl⟩

end Go.Proofs.YtpabngicbfcdkaaDoor

/- syntax: strings in quotes. -/
namespace Go.Proofs.YtpabngicbfcdkaaDoor
open Go.RowKit
set_option linter.unusedVariables false
set_option linter.unusedSimpArgs false

theorem escP_cases {l : List Nat} {x n : Nat} (h : escP l = some (x, n)) : ∃ c r, l = c :: r ∧ ((c = 110 ∧ x = 10 ∧ n = 1) ∨ (c = 116 ∧ x = 9 ∧ n = 1) ∨ (c = 114 ∧ x = 13 ∧ n = 1) ∨ ((c = 34 ∨ c = 92) ∧ x = c ∧ n = 1) ∨
    ∃ a b q y z, c = 120 ∧ r = a :: b :: q ∧ hexP a = some y ∧ hexP b = some z ∧ x = 16 * y + z ∧ n = 3) := by
  cases l with
  | nil => cases h
  | cons c r =>
    refine ⟨c, r, rfl, ?_⟩
    by_cases e1 : c = 110
    · subst e1; simp [escP] at h; exact .inl ⟨rfl, by omega, by omega⟩
    by_cases e2 : c = 116
    · subst e2; simp [escP] at h; exact .inr (.inl ⟨rfl, by omega, by omega⟩)
    by_cases e3 : c = 114
    · subst e3; simp [escP] at h; exact .inr (.inr (.inl ⟨rfl, by omega, by omega⟩))
    by_cases e4 : c = 34 ∨ c = 92
    · simp [escP, e1, e2, e3, e4] at h; exact .inr (.inr (.inr (.inl ⟨e4, by omega, by omega⟩)))
    by_cases e5 : c = 120
    · subst e5
      match r, h with
      | [], h => simp [escP] at h
      | [_], h => simp [escP] at h
      | a :: b :: q, h =>
        cases ha : hexP a with
        | none => simp [escP, ha] at h
        | some y =>
          cases hb : hexP b with
          | none => simp [escP, ha, hb] at h
          | some z =>
            simp [escP, ha, hb] at h
            exact .inr (.inr (.inr (.inr ⟨a, b, q, y, z, rfl, rfl, ha, hb, by omega, by omega⟩)))
    · simp [escP, e1, e2, e3, e4, e5] at h
theorem escP_pos {l : List Nat} {x n : Nat} (h : escP l = some (x, n)) : 1 ≤ n ∧ n ≤ l.length := by
  obtain ⟨c, r, rfl, h | h | h | h | ⟨a, b, q, y, z, -, rfl, -, -, -, rfl⟩⟩ := escP_cases h
  · simp; omega
  · simp; omega
  · simp; omega
  · simp; omega
  · simp
theorem escP_lt {l : List Nat} {x n : Nat} (hl : ∀ c ∈ l, c < 256) (h : escP l = some (x, n)) : x < 256 := by
  obtain ⟨c, r, rfl, h | h | h | h | ⟨a, b, q, y, z, -, rfl, ha, hb, rfl, -⟩⟩ := escP_cases h
  · omega
  · omega
  · omega
  · have := hl c (by simp); omega
  · have := hexP_lt ha; have := hexP_lt hb; omega

/-- the bytes of a string up to its last sign, and what follows -/
def quoGo (acc l : List Nat) : Option (List Nat × List Nat) :=
  match l with
  | [] => none
  | c :: r =>
    if c = 34 then some (acc, r)
    else if c = 92 then
      match escP r with
      | none => none
      | some (x, n) => quoGo (acc ++ [x]) (r.drop n)
    else if c < 32 ∨ c = 127 then none
    else quoGo (acc ++ [c]) r
termination_by l.length
decreasing_by all_goals simp; try omega

theorem quo_nil (acc : List Nat) : quoGo acc [] = none := by rw [quoGo]
theorem quo_end (acc r : List Nat) : quoGo acc (34 :: r) = some (acc, r) := by rw [quoGo, if_pos rfl]
theorem quo_esc (acc : List Nat) {r : List Nat} {x n : Nat} (h : escP r = some (x, n)) : quoGo acc (92 :: r) = quoGo (acc ++ [x]) (r.drop n) := by
  rw [quoGo, if_neg (by decide), if_pos rfl, h]
theorem quo_escn (acc : List Nat) {r : List Nat} (h : escP r = none) : quoGo acc (92 :: r) = none := by
  rw [quoGo, if_neg (by decide), if_pos rfl, h]
theorem quo_bad (acc r : List Nat) {c : Nat} (h1 : c ≠ 34) (h2 : c ≠ 92) (h3 : c < 32 ∨ c = 127) : quoGo acc (c :: r) = none := by
  rw [quoGo, if_neg h1, if_neg h2, if_pos h3]
theorem quo_chr (acc r : List Nat) {c : Nat} (h1 : c ≠ 34) (h2 : c ≠ 92) (h3 : ¬ (c < 32 ∨ c = 127)) : quoGo acc (c :: r) = quoGo (acc ++ [c]) r := by
  rw [quoGo, if_neg h1, if_neg h2, if_neg h3]

/-- a string and how many bytes it takes -/
def quoP (l : List Nat) : Option (List Nat × Nat) := match quoGo [] (l.drop 1) with
  | none => none
  | some (b, r) => some (b, l.length - r.length)

abbrev nints (us : List Nat) : List Int := us.map fun (u : Nat) => (u : Int)
/-- bytes as a string -/
def bs (l : List Nat) : ByteArray := strOfNums (nints l)
/-- a token by value -/
def tokV (k : Int) (s : ByteArray) (n a : Int) : Value := .agg #[.int .i64 k, .string s, .int .i64 n, .int .i64 a]
def quoV : Option (List Nat × Nat) → Value
  | some (b, n) => .tuple #[tokV 2 (bs b) 0 0, .int .i64 (n : Nat)]
  | none => .tuple #[tokV 0 ByteArray.empty 0 0, .int .i64 0]

theorem ns_extract (s : ByteArray) (a : Nat) : ns (s.extract a s.size) = (ns s).drop a := by
  unfold ns
  rw [Lib.extract_data, List.take_of_length_le (by simp), List.map_drop]

theorem EU8' : Elt Tryd.prog 60 5 .u8 1 := ⟨Tryd.underlying60, info_parts (by kernel_rfl)⟩
/-- the cells of a token -/
structure TC (w : World) (g : Nat) (k : Int) (s : ByteArray) (n a : Int) : Prop where
  c0 : w.cell? ⟨g, 0, none⟩ = some (.int .i64 k)
  c1 : w.cell? ⟨g, 1, none⟩ = some (.string s)
  c2 : w.cell? ⟨g, 2, none⟩ = some (.int .i64 n)
  c3 : w.cell? ⟨g, 3, none⟩ = some (.int .i64 a)
  fz : ∀ j, w.frozen? ⟨g, j, none⟩ = false
theorem TC.lt {w : World} {g k s n a} (h : TC w g k s n a) : g < w.heap.size := World.block_lt_of_cell? w _ h.c0
theorem TC.fr {w w' : World} {F : Nat → Prop} {g k s n a} (h : TC w g k s n a) (hf : Fr F w w') (hF : ¬ F g) : TC w' g k s n a :=
  ⟨hf.cell h.c0 hF, hf.cell h.c1 hF, hf.cell h.c2 hF, hf.cell h.c3 hF, fun j => (hf.frozen h.lt hF).trans (h.fz j)⟩
theorem TC.below {w w' : World} {g k s n a} (h : TC w g k s n a) (hb : Below w.heap.size w w') : TC w' g k s n a := h.fr (.of_below (S := fun _ => False) hb) (fun h => h)
theorem alloc_tc (w : World) (k : Int) (s : ByteArray) (n a : Int) (A : TypeId) : TC (w.alloc (.cells #[.int .i64 k, .string s, .int .i64 n, .int .i64 a] A)) w.heap.size k s n a := ⟨by simp, by simp, by simp, by simp, fun j => by simp⟩
theorem fr4 (w : World) (g : Nat) (a b c d : Value) : Fr (fun x => x = g) w ((((w.setCell ⟨g, 0, none⟩ a).setCell ⟨g, 1, none⟩ b).setCell ⟨g, 2, none⟩ c).setCell ⟨g, 3, none⟩ d) := by
  have h0 := Fr.refl (fun x => x = g) w
  exact (((h0.setCell (p := ⟨g, 0, none⟩) rfl a).setCell (p := ⟨g, 1, none⟩) rfl b).setCell (p := ⟨g, 2, none⟩) rfl c).setCell (p := ⟨g, 3, none⟩) rfl d

set_option maxRecDepth 100000 in
set_option maxHeartbeats 2000000 in
theorem quoted_any (s : ByteArray) (hs : s.size ≤ 1000000000) (h0 : 0 < s.size) (w : World) : Calls Tryd.prog 56 #[.string s] w fun e w' => e = .returned (quoV (quoP (ns s))) ∧ Below w.heap.size w w' := by
  have hsi : (s.size : Int) ≤ 1000000000 := by omega
  have hpi : (0 : Int) < (s.size : Int) := by omega
  have HSZ := Lib.hid hs
  have HNL := Lib.hid (ns_len s)
  have HLT := Lib.hid (ns_lt s)
  obtain ⟨w1, hw1⟩ : ∃ w1, w1 = w.alloc (.cells #[.int .i64 0, .string ⟨#[]⟩, .int .i64 0, .int .i64 0] 48) := ⟨_, rfl⟩
  have HTC : Hid (TC w1 w.heap.size 0 ByteArray.empty 0 0) := Lib.hid (by rw [hw1]; exact alloc_tc _ _ _ _ _ _)
  have HB1 : Hid (Below w.heap.size w w1) := Lib.hid (by rw [hw1]; exact below_alloc _ _)
  have HS1 : Hid (w1.heap.size = w.heap.size + 1) := Lib.hid (by rw [hw1]; simp)
  have HW1 := Lib.hid hw1
  clear hs hw1
  go_enter Tryd.func56, Tryd.ntmps56
  go_wp2
  rw [← HW1.out]
  go_loopw [4, 5] (fun sv iv wr => ∃ (i N : Nat) (acc : List Nat) (a : Option Addr) (c : Nat), iv = .int .i64 i ∧ 1 ≤ i ∧ i ≤ s.size ∧ sv = .slice a N c ∧ acc.length = N ∧ N ≤ i ∧ (∀ u ∈ acc, u < 256) ∧ quoGo acc ((ns s).drop i) = quoGo [] ((ns s).drop 1) ∧ Own wr w1.heap.size 5 .u8 (.slice a N c) (nints acc) ∧ Below w1.heap.size w1 wr) (fun _ iv _ => s.size - (intOf iv).toNat)
  case atStart => exact ⟨1, 0, [], none, 0, rfl, by omega, by omega, rfl, rfl, by omega, fun u hu => (by cases hu), rfl, Own.nil _ _ _ _, Below.refl _ _⟩
  case round =>
    obtain ⟨i, N, acc, a, c, rfl, hi1, hi, rfl, hN, hNi, hby, hq, hown, hb⟩ := hrel
    have HFIN : Hid (∀ wf, Fr (fun x => x = w.heap.size) wr wf → Below w.heap.size w wf) := Lib.hid (fun wf hf => (bthen HB1.out hb).trans (hf.below (fun x e => by omega) (bthen HB1.out hb).size))
    obtain ⟨r0, r1, r2, r3, rf⟩ := HTC.out.below hb
    have rf0 := rf 0
    have rf1 := rf 1
    have rf2 := rf 2
    have rf3 := rf 3
    clear rf
    have HOWN := Lib.hid hown
    have HB := Lib.hid hb
    have HN := Lib.hid hN
    have HBY := Lib.hid hby
    have hN9 : (N : Int) ≤ 1000000000 := by have := HSZ.out; omega
    have HI1 := Lib.hid hi1
    have HNI := Lib.hid hNi
    by_cases hlt : i < s.size
    · have HG := Lib.hid (ns_get hlt)
      obtain ⟨x, hx⟩ : ∃ x, (s[i]'hlt).toNat = x := ⟨_, rfl⟩
      rw [hx] at HG
      have HX9 : Hid (x < 256) := Lib.hid (HLT.out x (List.mem_of_getElem? HG.out))
      have hx9 : (x : Int) ≤ 255 := by have := HX9.out; omega
      obtain ⟨r, hr⟩ : ∃ r, r = (ns s).drop (i + 1) := ⟨_, rfl⟩
      have hdrop : (ns s).drop i = x :: r := by
        rw [List.drop_eq_getElem_cons (by rw [ns_len]; exact hlt), hr]
        rw [(List.getElem?_eq_some_iff.1 HG.out).2]
      rw [hdrop] at hq
      have HQ := Lib.hid hq
      have HR := Lib.hid hr
      have HRL : Hid (r.length = s.size - (i + 1)) := Lib.hid (by rw [hr, List.length_drop, ns_len])
      have hii : (i : Int) < (s.size : Int) := by omega
      have HLTI := Lib.hid hlt
      have hcv := run_str wr c (Own.rd hown (fun y hy => by obtain ⟨u, hu, rfl⟩ := List.mem_map.1 hy; have := hby u hu; simp [Lit.wf, IntKind.min, IntKind.max, IntKind.signed, IntKind.bits]; omega)) rfl 60 9 5 Tryd.underlying60 Tryd.underlying5 Tryd.underlying9
      obtain ⟨str, hstr⟩ : ∃ str, str = strOfNums (nints acc) := ⟨_, rfl⟩
      rw [← hstr] at hcv
      have HSTR := Lib.hid hstr
      clear hi1 hi hN hNi hby hq hown hb hdrop hr hstr
      by_cases e1 : x = 34
      · subst e1
        have HE : Hid (quoP (ns s) = some (acc, i + 1)) := Lib.hid (by
          unfold quoP
          rw [← HQ.out, quo_end]
          simp only
          rw [HRL.out, HNL.out]
          have := HLTI.out
          congr 2
          omega)
        go_wp2
        exact bodyPost_ret (v := .tuple #[.agg #[.int .i64 2, .string str, .int .i64 0, .int .i64 0], .int .i64 ((i : Int) + 1)]) (by simp [results, Tryd.results56, go_sem, r0, r1, r2, r3]) rfl ⟨by rw [HE.out, HSTR.out]; rfl, HFIN.out _ (fr4 wr w.heap.size (.int .i64 2) (.string str) (.int .i64 0) (.int .i64 0))⟩
      · have b1 : ((x : Int) == 34) = false := by rw [beq_eq_false_iff_ne]; omega
        by_cases e2 : x = 92
        · subst e2
          obtain ⟨K1, hK1⟩ : ∃ K1, K1 = i + 1 := ⟨_, rfl⟩
          have hKi : (i : Int) + 1 = (K1 : Int) := by omega
          have hKs : K1 ≤ s.size := by have := HLTI.out; omega
          have hKsi : (K1 : Int) ≤ (s.size : Int) := by omega
          have HEX : Hid (ns (s.extract K1 s.size) = r) := Lib.hid (by rw [ns_extract, hK1, HR.out])
          have HESC := Lib.hid (escaped_any (s.extract K1 s.size) (by have h1 := ns_len (s.extract K1 s.size); rw [HEX.out, HRL.out] at h1; have := HSZ.out; omega) wr)
          rw [HEX.out] at HESC
          have HKI := Lib.hid hK1
          clear hK1 e1 hcv
          cases hes : escP r with
          | none =>
            have HE : Hid (quoP (ns s) = none) := Lib.hid (by unfold quoP; rw [← HQ.out, quo_escn _ hes])
            rw [hes] at HESC
            clear hes
            go_wp2_with fail
            refine HESC.out.mono ?_
            rintro e w5 ⟨rfl, rfl⟩
            unfold escV
            go_wp2
            exact bodyPost_ret (v := .tuple #[.agg #[.int .i64 0, .string ⟨#[]⟩, .int .i64 0, .int .i64 0], .int .i64 0]) (by simp [results, Tryd.results56, go_sem, r0, r1, r2, r3]) rfl ⟨by rw [HE.out]; rfl, HFIN.out _ (fr4 _ w.heap.size (.int .i64 0) (.string ⟨#[]⟩) (.int .i64 0) (.int .i64 0))⟩
          | some q =>
            obtain ⟨y, m⟩ := q
            have hyp := escP_pos hes
            have hy := escP_lt (fun u hu => by rw [HR.out] at hu; exact HLT.out u (List.mem_of_mem_drop hu)) hes
            have HQ2 : Hid (quoGo (acc ++ [y]) ((ns s).drop (i + (1 + m))) = quoGo [] ((ns s).drop 1)) := Lib.hid (by
              rw [← HQ.out, quo_esc _ hes, HR.out, List.drop_drop]
              congr 2
              omega)
            rw [hes] at HESC
            have HM : Hid (1 ≤ m ∧ i + (1 + m) ≤ s.size ∧ y < 256) := Lib.hid ⟨hyp.1, by have h1 := HRL.out; have h2 := hyp.2; have := HLTI.out; omega, hy⟩
            have hmi : (m : Int) ≤ 1000000000 := by have := HM.out; have := HSZ.out; omega
            have hm0 : ((m : Int) == 0) = false := by rw [beq_eq_false_iff_ne]; omega
            have hyi : (y : Int) ≤ 255 := by omega
            clear hes hyp hy
            go_wp2_with fail
            refine HESC.out.mono ?_
            rintro e w5 ⟨rfl, rfl⟩
            unfold escV
            go_wp2_with (at_builtin; refine app_rd (.tmp 44) (.tmp 46) EU8' rfl rfl w1.heap.size (.slice a N c) (nints acc) rfl (HOWN.out.alloc _) (some ⟨_, 0, none⟩) 1 1 [(y : Int)] rfl (Rd.one _ .u8 _ _ (by have := HM.out; simp [Lit.wf, IntKind.min, IntKind.max, IntKind.signed, IntKind.bits]; omega)) (by have h1 := HN.out; have h2 := HNI.out; have h3 := HSZ.out; have h4 := HLTI.out; simp; omega) (by decide) (by have := HB.out.size; simp; omega) ?_; intro a6 c6 w6 ho6 hg6; have HO6 := Lib.hid ho6; have HB6 : Hid (Below w1.heap.size w1 w6) := Lib.hid ((HB.out.alloc (by exact HB.out.size) _).trans (grown_below (HOWN.out.alloc _) hg6 (by have := HB.out.size; simp; omega))); rw [show (nints acc ++ [(y : Int)]).length = N + 1 by simp [HN.out]] at HO6 ⊢; clear ho6 hg6)
            go_roundw
            case rel => exact ⟨i + (1 + m), N + 1, acc ++ [y], a6, c6, by go_num, by omega, HM.out.2.1, rfl, by rw [List.length_append, HN.out]; rfl, by have := HM.out.1; have := HNI.out; omega, fun u hu => by
              rcases List.mem_append.1 hu with hu | hu
              · exact HBY.out u hu
              · rw [List.mem_singleton] at hu; subst hu; exact HM.out.2.2, HQ2.out, by
              have h := HO6.out
              rw [show nints (acc ++ [y]) = nints acc ++ [(y : Int)] by simp [nints]]
              exact h, HB6.out⟩
            case measure => have := HM.out; simp [intOf]; omega
        · have b2 : ((x : Int) == 92) = false := by rw [beq_eq_false_iff_ne]; omega
          by_cases e3 : x < 32 ∨ x = 127
          · have HE : Hid (quoP (ns s) = none) := Lib.hid (by unfold quoP; rw [← HQ.out, quo_bad _ _ e1 e2 e3])
            have e3' : ((x : Int) < 32) ∨ (decide ((x : Int) < 32) = false ∧ ((x : Int) == 127) = true) := by
              by_cases h : x < 32
              · exact .inl (by omega)
              · exact .inr ⟨decide_eq_false (by omega), by rw [beq_iff_eq]; omega⟩
            clear e1 e2 e3 hcv
            rcases e3' with e3' | ⟨e3', e3''⟩
            all_goals
              go_wp2
              exact bodyPost_ret (v := .tuple #[.agg #[.int .i64 0, .string ⟨#[]⟩, .int .i64 0, .int .i64 0], .int .i64 0]) (by simp [results, Tryd.results56, go_sem, r0, r1, r2, r3]) rfl ⟨by rw [HE.out]; rfl, HFIN.out _ (fr4 _ w.heap.size (.int .i64 0) (.string ⟨#[]⟩) (.int .i64 0) (.int .i64 0))⟩
          · have HQ2 : Hid (quoGo (acc ++ [x]) ((ns s).drop (i + 1)) = quoGo [] ((ns s).drop 1)) := Lib.hid (by rw [← HQ.out, quo_chr _ _ e1 e2 e3, HR.out])
            have b3 : decide ((x : Int) < 32) = false := decide_eq_false (by omega)
            have b4 : ((x : Int) == 127) = false := by rw [beq_eq_false_iff_ne]; omega
            clear e1 e2 e3 hcv
            go_wp2_with (at_builtin; refine app_rd (.tmp 16) (.tmp 18) EU8' rfl rfl w1.heap.size (.slice a N c) (nints acc) rfl (HOWN.out.alloc _) (some ⟨_, 0, none⟩) 1 1 [(x : Int)] rfl (Rd.one _ .u8 _ _ (by have := HX9.out; simp [Lit.wf, IntKind.min, IntKind.max, IntKind.signed, IntKind.bits]; omega)) (by have h1 := HN.out; have h2 := HNI.out; have h3 := HSZ.out; have h4 := HLTI.out; simp; omega) (by decide) (by have := HB.out.size; simp; omega) ?_; intro a6 c6 w6 ho6 hg6; have HO6 := Lib.hid ho6; have HB6 : Hid (Below w1.heap.size w1 w6) := Lib.hid ((HB.out.alloc (by exact HB.out.size) _).trans (grown_below (HOWN.out.alloc _) hg6 (by have := HB.out.size; simp; omega))); rw [show (nints acc ++ [(x : Int)]).length = N + 1 by simp [HN.out]] at HO6 ⊢; clear ho6 hg6)
            go_roundw
            case rel => exact ⟨i + 1, N + 1, acc ++ [x], a6, c6, by go_num, by omega, HLTI.out, rfl, by rw [List.length_append, HN.out]; rfl, by have := HNI.out; omega, fun u hu => by
              rcases List.mem_append.1 hu with hu | hu
              · exact HBY.out u hu
              · rw [List.mem_singleton] at hu; subst hu; exact HX9.out, HQ2.out, by
              have h := HO6.out
              rw [show nints (acc ++ [x]) = nints acc ++ [(x : Int)] by simp [nints]]
              exact h, HB6.out⟩
            case measure => have := HLTI.out; simp [intOf]; omega
    · have HE : Hid (quoP (ns s) = none) := Lib.hid (by
        unfold quoP
        rw [← hq, List.drop_eq_nil_of_le (by rw [ns_len]; omega), quo_nil])
      obtain rfl : i = s.size := by omega
      clear hi1 hi hN hNi hby hq hown hb hlt
      go_wp2
      exact bodyPost_ret (v := .tuple #[.agg #[.int .i64 0, .string ⟨#[]⟩, .int .i64 0, .int .i64 0], .int .i64 0]) (by simp [results, Tryd.results56, go_sem, r0, r1, r2, r3]) rfl ⟨by rw [HE.out]; rfl, HFIN.out _ (fr4 wr w.heap.size (.int .i64 0) (.string ⟨#[]⟩) (.int .i64 0) (.int .i64 0))⟩

end Go.Proofs.YtpabngicbfcdkaaDoor

/- DERIVED: THE SHELF's CONTRACTS AT THIS DUMP, IN PLAIN WORDS (tools/lay-plain.mjs out of 'TrydShelf.lean', which tools/lay-shelf.mjs wrote): THE SAME DECLARATIONS UNDER THE SAME NAMES: 'import', 'namespace', 'open', 'def', 'theorem' AND NOTHING ELSE: no command of the shelf's: FOR A HAND-IN. Each laying: the table of numbers ('.._ren') and one theorem, a field a fact of the dump's own or the kernel's comparison; each contract: ONE APPLICATION. -/
namespace Go.Proofs
open Go.Shelf
def Tryd.lays137_ren : Go.Shelf.Ren := ⟨fun | 137 => 33 | 217 => 53 | 266 => 64 | n => n, fun | 9 => 9 | 5 => 5 | 3 => 3 | n => n, fun | n => n⟩
theorem Tryd.lays137 : Go.Proofs.Lays.n137 Tryd.prog Tryd.lays137_ren := {
  mixed := by kernel_rfl
  f137 := Tryd.func33.trans (congrArg some (by kernel_rfl))
  f217 := Tryd.func53.trans (congrArg some (by kernel_rfl))
  f266 := Tryd.func64.trans (congrArg some (by kernel_rfl))
  t3 := Tryd.underlying3
  a3 := Tryd.isAgg3
  z3 := Tryd.sizeOf3
  v3 := Tryd.zeroValue3
  t5 := Tryd.underlying5
  a5 := Tryd.isAgg5
  z5 := Tryd.sizeOf5
  v5 := Tryd.zeroValue5
  t9 := Tryd.underlying9
  a9 := Tryd.isAgg9
  z9 := Tryd.sizeOf9
  v9 := Tryd.zeroValue9 }
open Go.RowKit in
/-- strings.IndexByte: "IndexByte returns the index of the first instance of c in s, or -1 if c is not present in s.": IT RETURNS 'Lib.indexByte s c'; the world is as it was. (LAID: no walk: one application.) -/
theorem Tryd.strings_IndexByte (s : ByteArray) (c : Int) (w : World) :
    Calls Tryd.prog 33 #[.string s, .int .u8 c] w fun e w' => e = .returned (.int .i64 (Lib.indexByte s.data.toList c.toNat.toUInt8)) ∧ w' = w := Any.strings_IndexByte Tryd.lays137 s c w
def Tryd.lays129_ren : Go.Shelf.Ren := ⟨fun | 129 => 77 | n => n, fun | 53 => 115 | 3 => 3 | 4 => 4 | 46 => 104 | 5 => 5 | 9 => 9 | n => n, fun | n => n⟩
theorem Tryd.lays129 : Go.Proofs.Lays.n129 Tryd.prog Tryd.lays129_ren := {
  mixed := by kernel_rfl
  f129 := Tryd.func77.trans (congrArg some (by kernel_rfl))
  t3 := Tryd.underlying3
  a3 := Tryd.isAgg3
  z3 := Tryd.sizeOf3
  v3 := Tryd.zeroValue3
  t4 := Tryd.underlying4
  a4 := Tryd.isAgg4
  z4 := Tryd.sizeOf4
  v4 := Tryd.zeroValue4
  t5 := Tryd.underlying5
  a5 := Tryd.isAgg5
  z5 := Tryd.sizeOf5
  v5 := Tryd.zeroValue5
  t9 := Tryd.underlying9
  a9 := Tryd.isAgg9
  z9 := Tryd.sizeOf9
  v9 := Tryd.zeroValue9
  t46 := Tryd.underlying104
  a46 := Tryd.isAgg104
  z46 := Tryd.sizeOf104
  v46 := Tryd.zeroValue104
  t53 := Tryd.underlying115
  a53 := Tryd.isAgg115
  z53 := Tryd.sizeOf115
  v53 := Tryd.zeroValue115 }
/-- bits.Len64: "Len64 returns the minimum number of bits required to represent x; the result is 0 for x == 0.": IT RETURNS 'Lib.bitLen x'; the world is as it was. ('h0', 'h1': x is a uint64.) (LAID: no walk: one application.) -/
theorem Tryd.bits_Len64 (x : Int) (w : World) (h0 : 0 ≤ x) (h1 : x ≤ 18446744073709551615) :
    Calls Tryd.prog 77 #[.int .u64 x] w fun e w' => e = .returned (.int .i64 (Lib.bitLen x.toNat)) ∧ w' = w := Any.bits_Len64 Tryd.lays129 x w h0 h1
def Tryd.lays317_ren : Go.Shelf.Ren := ⟨fun | 317 => 76 | n => n, fun | 3 => 3 | 46 => 104 | n => n, fun | n => n⟩
theorem Tryd.lays317 : Go.Proofs.Lays.n317 Tryd.prog Tryd.lays317_ren := {
  mixed := by kernel_rfl
  f317 := Tryd.func76.trans (congrArg some (by kernel_rfl))
  t3 := Tryd.underlying3
  a3 := Tryd.isAgg3
  z3 := Tryd.sizeOf3
  v3 := Tryd.zeroValue3
  t46 := Tryd.underlying104
  a46 := Tryd.isAgg104
  z46 := Tryd.sizeOf104
  v46 := Tryd.zeroValue104 }
open Go.Lib in
/-- internal/strconv.log10Pow2: "log10Pow2(x) returns ⌊log₁₀ 2**x⌋ = ⌊x * log₁₀ 2⌋.": '(x * 78913) >> 18', at an x up to 64 (a length in bits). The world is as it was. (LAID: no walk: one application.) -/
theorem Tryd.internal_strconv_log10Pow2 (x : Nat) (h : x ≤ 64) (w : World) :
    Calls Tryd.prog 76 #[.int .i64 x] w fun e w' => e = .returned (.int .i64 (Lib.l10 x)) ∧ w' = w := Any.internal_strconv_log10Pow2 Tryd.lays317 x h w
def Tryd.lays318_ren : Go.Shelf.Ren := ⟨fun | 318 => 78 | n => n, fun | 3 => 3 | 4 => 4 | n => n, fun | n => n⟩
theorem Tryd.lays318 : Go.Proofs.Lays.n318 Tryd.prog Tryd.lays318_ren := {
  mixed := by kernel_rfl
  f318 := Tryd.func78.trans (congrArg some (by kernel_rfl))
  t3 := Tryd.underlying3
  a3 := Tryd.isAgg3
  z3 := Tryd.sizeOf3
  v3 := Tryd.zeroValue3
  t4 := Tryd.underlying4
  a4 := Tryd.isAgg4
  z4 := Tryd.sizeOf4
  v4 := Tryd.zeroValue4 }
open Go.Lib in
/-- internal/strconv.bool2: "bool2 converts b to an integer: 1 for true, 0 for false." The world is as it was. (LAID: no walk: one application.) -/
theorem Tryd.internal_strconv_bool2_int (b : Bool) (w : World) :
    Calls Tryd.prog 78 #[.bool b] w fun e w' => e = .returned (.int .i64 (if b then 1 else 0)) ∧ w' = w := Any.internal_strconv_bool2_int Tryd.lays318 b w
def Tryd.lays283_ren : Go.Shelf.Ren := ⟨fun | 283 => 70 | n => n, fun | 3 => 3 | 9 => 9 | 4 => 4 | n => n, fun | n => n⟩
theorem Tryd.lays283 : Go.Proofs.Lays.n283 Tryd.prog Tryd.lays283_ren := {
  mixed := by kernel_rfl
  f283 := Tryd.func70.trans (congrArg some (by kernel_rfl))
  t3 := Tryd.underlying3
  a3 := Tryd.isAgg3
  z3 := Tryd.sizeOf3
  v3 := Tryd.zeroValue3
  t4 := Tryd.underlying4
  a4 := Tryd.isAgg4
  z4 := Tryd.sizeOf4
  v4 := Tryd.zeroValue4
  t9 := Tryd.underlying9
  a9 := Tryd.isAgg9
  z9 := Tryd.sizeOf9
  v9 := Tryd.zeroValue9 }
open Go.Lib in
/-- internal/strconv.small: "small returns the string for an i with 0 <= i < nSmalls.": i's decimal numeral. The world is as it was. (LAID: no walk: one application.) -/
theorem Tryd.internal_strconv_small (i : Nat) (h : i < 100) (w : World) :
    Calls Tryd.prog 70 #[.int .i64 i] w fun e w' => e = .returned (.string ⟨(Lib.decDigits i).toArray⟩) ∧ w' = w := Any.internal_strconv_small Tryd.lays283 i h w
def Tryd.laysM284_ren : Go.Shelf.Ren := ⟨fun | 284 => 71 | 129 => 77 | 317 => 76 | 318 => 78 | n => n, fun | 53 => 115 | 3 => 3 | 212 => 123 | 0 => 0 | 4 => 4 | 46 => 104 | 5 => 5 | 9 => 9 | n => n, fun | 17 => 1 | n => n⟩
theorem Tryd.laysM284 : Go.Proofs.LaysM.n284 Tryd.prog Tryd.laysM284_ren := {
  mixed := by kernel_rfl
  f129 := Tryd.func77.trans (congrArg some (by kernel_rfl))
  f284 := Tryd.func71.trans (congrArg some (by kernel_rfl))
  f317 := Tryd.func76.trans (congrArg some (by kernel_rfl))
  f318 := Tryd.func78.trans (congrArg some (by kernel_rfl))
  t0 := Tryd.underlying0
  a0 := Tryd.isAgg0
  z0 := Tryd.sizeOf0
  v0 := Tryd.zeroValue0
  t3 := Tryd.underlying3
  a3 := Tryd.isAgg3
  z3 := Tryd.sizeOf3
  v3 := Tryd.zeroValue3
  t4 := Tryd.underlying4
  a4 := Tryd.isAgg4
  z4 := Tryd.sizeOf4
  v4 := Tryd.zeroValue4
  t5 := Tryd.underlying5
  a5 := Tryd.isAgg5
  z5 := Tryd.sizeOf5
  v5 := Tryd.zeroValue5
  t9 := Tryd.underlying9
  a9 := Tryd.isAgg9
  z9 := Tryd.sizeOf9
  v9 := Tryd.zeroValue9
  t46 := Tryd.underlying104
  a46 := Tryd.isAgg104
  z46 := Tryd.sizeOf104
  v46 := Tryd.zeroValue104
  t53 := Tryd.underlying115
  a53 := Tryd.isAgg115
  z53 := Tryd.sizeOf115
  v53 := Tryd.zeroValue115
  t212 := Tryd.underlying123
  a212 := Tryd.isAgg123
  z212 := Tryd.sizeOf123
  v212 := Tryd.zeroValue123
  g17 := by kernel_rfl
  i0 := by kernel_rfl
  i3 := by kernel_rfl
  i4 := by kernel_rfl
  i5 := by kernel_rfl
  i9 := by kernel_rfl
  i46 := by kernel_rfl
  i53 := by kernel_rfl
  i212 := by kernel_rfl
  m17 := by kernel_rfl }
open Go.Lib in
/-- internal/strconv.numDigits, at a d that is not 0: THE NUMBER OF d's DECIMAL DIGITS. The world is as it was. (LAID: no walk: one application.) -/
theorem Tryd.internal_strconv_numDigits (u : Nat) (h1 : 1 ≤ u) (h2 : u < 18446744073709551616) (w : World) (htab : Lib.TabIs Tryd.prog w "internal/strconv.uint64pow10" .u64 Lib.pow10Tab) :
    Calls Tryd.prog 71 #[.int .u64 u] w fun e w' => e = .returned (.int .i64 (Lib.nDigits u)) ∧ w' = w := Any.internal_strconv_numDigits Tryd.laysM284 u h1 h2 w htab
def Tryd.lays285_ren : Go.Shelf.Ren := ⟨fun | 285 => 72 | n => n, fun | 37 => 60 | 53 => 115 | 3 => 3 | 4 => 4 | 51 => 124 | 9 => 9 | 5 => 5 | 0 => 0 | n => n, fun | n => n⟩
theorem Tryd.lays285 : Go.Proofs.Lays.n285 Tryd.prog Tryd.lays285_ren := {
  mixed := by kernel_rfl
  f285 := Tryd.func72.trans (congrArg some (by kernel_rfl))
  t0 := Tryd.underlying0
  a0 := Tryd.isAgg0
  z0 := Tryd.sizeOf0
  v0 := Tryd.zeroValue0
  t3 := Tryd.underlying3
  a3 := Tryd.isAgg3
  z3 := Tryd.sizeOf3
  v3 := Tryd.zeroValue3
  t4 := Tryd.underlying4
  a4 := Tryd.isAgg4
  z4 := Tryd.sizeOf4
  v4 := Tryd.zeroValue4
  t5 := Tryd.underlying5
  a5 := Tryd.isAgg5
  z5 := Tryd.sizeOf5
  v5 := Tryd.zeroValue5
  t9 := Tryd.underlying9
  a9 := Tryd.isAgg9
  z9 := Tryd.sizeOf9
  v9 := Tryd.zeroValue9
  t37 := Tryd.underlying60
  a37 := Tryd.isAgg60
  z37 := Tryd.sizeOf60
  v37 := Tryd.zeroValue60
  t51 := Tryd.underlying124
  a51 := Tryd.isAgg124
  z51 := Tryd.sizeOf124
  v51 := Tryd.zeroValue124
  t53 := Tryd.underlying115
  a53 := Tryd.isAgg115
  z53 := Tryd.sizeOf115
  v53 := Tryd.zeroValue115 }
open Go.RowKit Go.Sort Go.Lib in
/-- internal/strconv.formatBase10: "formatBase10 formats the decimal representation of u into a. The caller is responsible for ensuring that a is big enough to hold u. If a is too big, leading zeros will be filled in as needed.": THE ROW HOLDS u's DIGITS ('FmtInv .. 0 ..': every place t holds 'dg u (len - 1 - t)'); all else is as it was but for the count of draws. (LAID: no walk: one application.) -/
theorem Tryd.internal_strconv_formatBase10 (blk off cap : Nat) (u : Nat) (d : Array UInt8) (w : World) (hH : Holds (fun (b : UInt8) => Value.int .u8 (b.toNat : Int)) w blk off d) (hu : u < 10 ^ d.size) (hu64 : u < 18446744073709551616) (hsz : d.size < 4611686018427387904) :
    Calls Tryd.prog 72 #[.slice (some ⟨blk, off, none⟩) d.size cap, .int .u64 u] w fun e w' =>
      e = .returned (.tuple #[]) ∧ ∃ (n v' : Nat) (dk : Array UInt8), w' = (putRow (fun (b : UInt8) => Value.int .u8 (b.toNat : Int)) w blk off dk).drewN n ∧ FmtInv d.size u 0 v' dk := Any.internal_strconv_formatBase10 Tryd.lays285 blk off cap u d w hH hu hu64 hsz
def Tryd.laysM246_ren : Go.Shelf.Ren := ⟨fun | 246 => 66 | 283 => 70 | 284 => 71 | 285 => 72 | 286 => 73 | 129 => 77 | 317 => 76 | 318 => 78 | 319 => 79 | 320 => 80 | 337 => 82 | 338 => 83 | n => n, fun | 2 => 2 | 3 => 3 | 9 => 9 | 4 => 4 | 171 => 114 | 0 => 0 | 53 => 115 | 37 => 60 | 5 => 5 | 173 => 118 | 212 => 123 | 51 => 124 | 20 => 20 | 213 => 125 | 46 => 104 | 232 => 128 | 233 => 129 | n => n, fun | 17 => 1 | 18 => 2 | 19 => 3 | n => n⟩
theorem Tryd.laysM246 : Go.Proofs.LaysM.n246 Tryd.prog Tryd.laysM246_ren := {
  mixed := by kernel_rfl
  f129 := Tryd.func77.trans (congrArg some (by kernel_rfl))
  f246 := Tryd.func66.trans (congrArg some (by kernel_rfl))
  f283 := Tryd.func70.trans (congrArg some (by kernel_rfl))
  f284 := Tryd.func71.trans (congrArg some (by kernel_rfl))
  f285 := Tryd.func72.trans (congrArg some (by kernel_rfl))
  f286 := Tryd.func73.trans (congrArg some (by kernel_rfl))
  f317 := Tryd.func76.trans (congrArg some (by kernel_rfl))
  f318 := Tryd.func78.trans (congrArg some (by kernel_rfl))
  f319 := Tryd.func79.trans (congrArg some (by kernel_rfl))
  f320 := Tryd.func80.trans (congrArg some (by kernel_rfl))
  f337 := Tryd.func82.trans (congrArg some (by kernel_rfl))
  f338 := Tryd.func83.trans (congrArg some (by kernel_rfl))
  t0 := Tryd.underlying0
  a0 := Tryd.isAgg0
  z0 := Tryd.sizeOf0
  v0 := Tryd.zeroValue0
  t2 := Tryd.underlying2
  a2 := Tryd.isAgg2
  z2 := Tryd.sizeOf2
  v2 := Tryd.zeroValue2
  t3 := Tryd.underlying3
  a3 := Tryd.isAgg3
  z3 := Tryd.sizeOf3
  v3 := Tryd.zeroValue3
  t4 := Tryd.underlying4
  a4 := Tryd.isAgg4
  z4 := Tryd.sizeOf4
  v4 := Tryd.zeroValue4
  t5 := Tryd.underlying5
  a5 := Tryd.isAgg5
  z5 := Tryd.sizeOf5
  v5 := Tryd.zeroValue5
  t9 := Tryd.underlying9
  a9 := Tryd.isAgg9
  z9 := Tryd.sizeOf9
  v9 := Tryd.zeroValue9
  t20 := Tryd.underlying20
  a20 := Tryd.isAgg20
  z20 := Tryd.sizeOf20
  v20 := Tryd.zeroValue20
  t37 := Tryd.underlying60
  a37 := Tryd.isAgg60
  z37 := Tryd.sizeOf60
  v37 := Tryd.zeroValue60
  t46 := Tryd.underlying104
  a46 := Tryd.isAgg104
  z46 := Tryd.sizeOf104
  v46 := Tryd.zeroValue104
  t51 := Tryd.underlying124
  a51 := Tryd.isAgg124
  z51 := Tryd.sizeOf124
  v51 := Tryd.zeroValue124
  t53 := Tryd.underlying115
  a53 := Tryd.isAgg115
  z53 := Tryd.sizeOf115
  v53 := Tryd.zeroValue115
  t171 := Tryd.underlying114
  a171 := Tryd.isAgg114
  z171 := Tryd.sizeOf114
  v171 := Tryd.zeroValue114
  t173 := Tryd.underlying118
  a173 := Tryd.isAgg118
  z173 := Tryd.sizeOf118
  v173 := Tryd.zeroValue118
  t212 := Tryd.underlying123
  a212 := Tryd.isAgg123
  z212 := Tryd.sizeOf123
  v212 := Tryd.zeroValue123
  t213 := Tryd.underlying125
  a213 := Tryd.isAgg125
  z213 := Tryd.sizeOf125
  t232 := Tryd.underlying128
  a232 := Tryd.isAgg128
  z232 := Tryd.sizeOf128
  v232 := Tryd.zeroValue128
  t233 := Tryd.underlying129
  a233 := Tryd.isAgg129
  z233 := Tryd.sizeOf129
  v233 := Tryd.zeroValue129
  g17 := by kernel_rfl
  g18 := by kernel_rfl
  g19 := by kernel_rfl
  i0 := by kernel_rfl
  i2 := by kernel_rfl
  i3 := by kernel_rfl
  i4 := by kernel_rfl
  i5 := by kernel_rfl
  i9 := by kernel_rfl
  i20 := by kernel_rfl
  i37 := by kernel_rfl
  i46 := by kernel_rfl
  i51 := by kernel_rfl
  i53 := by kernel_rfl
  i171 := by kernel_rfl
  i173 := by kernel_rfl
  i212 := by kernel_rfl
  i232 := by kernel_rfl
  i233 := by kernel_rfl
  m17 := by kernel_rfl
  m18 := by kernel_rfl
  m19 := by kernel_rfl }
open Go.RowKit Go.Sort Go.Lib in
/-- internal/strconv.FormatInt: "FormatInt returns the string representation of i in the given base": AT BASE 10: i's decimal numeral, for every int64. The world behind the call: the world before it, new blocks behind the heap, draws. (LAID: no walk: one application.) -/
theorem Tryd.internal_strconv_FormatInt_10 (n : Int) (h0 : -9223372036854775808 ≤ n) (h1 : n ≤ 9223372036854775807) (w : World) (htab : Lib.TabIs Tryd.prog w "internal/strconv.uint64pow10" .u64 Lib.pow10Tab) :
    Calls Tryd.prog 66 #[.int .i64 n, .int .i64 10] w fun e w' => e = .returned (.string ⟨(Lib.itoa n).toArray⟩) ∧ ∃ k os, w' = grow (w.drewN k) os := Any.internal_strconv_FormatInt_10 Tryd.laysM246 n h0 h1 w htab
def Tryd.lays246_ren : Go.Shelf.Ren := ⟨fun | 246 => 66 | 283 => 70 | 284 => 71 | 285 => 72 | 286 => 73 | 129 => 77 | 317 => 76 | 318 => 78 | 319 => 79 | 320 => 80 | 337 => 82 | 338 => 83 | n => n, fun | 2 => 2 | 3 => 3 | 9 => 9 | 4 => 4 | 171 => 114 | 0 => 0 | 53 => 115 | 37 => 60 | 5 => 5 | 173 => 118 | 212 => 123 | 51 => 124 | 20 => 20 | 213 => 125 | 46 => 104 | 232 => 128 | 233 => 129 | n => n, fun | 17 => 1 | 18 => 2 | 19 => 3 | n => n⟩
theorem Tryd.lays246 : Go.Proofs.Lays.n246 Tryd.prog Tryd.lays246_ren := {
  mixed := by kernel_rfl
  f129 := Tryd.func77.trans (congrArg some (by kernel_rfl))
  f246 := Tryd.func66.trans (congrArg some (by kernel_rfl))
  f283 := Tryd.func70.trans (congrArg some (by kernel_rfl))
  f284 := Tryd.func71.trans (congrArg some (by kernel_rfl))
  f285 := Tryd.func72.trans (congrArg some (by kernel_rfl))
  f286 := Tryd.func73.trans (congrArg some (by kernel_rfl))
  f317 := Tryd.func76.trans (congrArg some (by kernel_rfl))
  f318 := Tryd.func78.trans (congrArg some (by kernel_rfl))
  f319 := Tryd.func79.trans (congrArg some (by kernel_rfl))
  f320 := Tryd.func80.trans (congrArg some (by kernel_rfl))
  f337 := Tryd.func82.trans (congrArg some (by kernel_rfl))
  f338 := Tryd.func83.trans (congrArg some (by kernel_rfl))
  t0 := Tryd.underlying0
  a0 := Tryd.isAgg0
  z0 := Tryd.sizeOf0
  v0 := Tryd.zeroValue0
  t2 := Tryd.underlying2
  a2 := Tryd.isAgg2
  z2 := Tryd.sizeOf2
  v2 := Tryd.zeroValue2
  t3 := Tryd.underlying3
  a3 := Tryd.isAgg3
  z3 := Tryd.sizeOf3
  v3 := Tryd.zeroValue3
  t4 := Tryd.underlying4
  a4 := Tryd.isAgg4
  z4 := Tryd.sizeOf4
  v4 := Tryd.zeroValue4
  t5 := Tryd.underlying5
  a5 := Tryd.isAgg5
  z5 := Tryd.sizeOf5
  v5 := Tryd.zeroValue5
  t9 := Tryd.underlying9
  a9 := Tryd.isAgg9
  z9 := Tryd.sizeOf9
  v9 := Tryd.zeroValue9
  t20 := Tryd.underlying20
  a20 := Tryd.isAgg20
  z20 := Tryd.sizeOf20
  v20 := Tryd.zeroValue20
  t37 := Tryd.underlying60
  a37 := Tryd.isAgg60
  z37 := Tryd.sizeOf60
  v37 := Tryd.zeroValue60
  t46 := Tryd.underlying104
  a46 := Tryd.isAgg104
  z46 := Tryd.sizeOf104
  v46 := Tryd.zeroValue104
  t51 := Tryd.underlying124
  a51 := Tryd.isAgg124
  z51 := Tryd.sizeOf124
  v51 := Tryd.zeroValue124
  t53 := Tryd.underlying115
  a53 := Tryd.isAgg115
  z53 := Tryd.sizeOf115
  v53 := Tryd.zeroValue115
  t171 := Tryd.underlying114
  a171 := Tryd.isAgg114
  z171 := Tryd.sizeOf114
  v171 := Tryd.zeroValue114
  t173 := Tryd.underlying118
  a173 := Tryd.isAgg118
  z173 := Tryd.sizeOf118
  v173 := Tryd.zeroValue118
  t212 := Tryd.underlying123
  a212 := Tryd.isAgg123
  z212 := Tryd.sizeOf123
  v212 := Tryd.zeroValue123
  t213 := Tryd.underlying125
  a213 := Tryd.isAgg125
  z213 := Tryd.sizeOf125
  t232 := Tryd.underlying128
  a232 := Tryd.isAgg128
  z232 := Tryd.sizeOf128
  v232 := Tryd.zeroValue128
  t233 := Tryd.underlying129
  a233 := Tryd.isAgg129
  z233 := Tryd.sizeOf129
  v233 := Tryd.zeroValue129
  g17 := by kernel_rfl
  g18 := by kernel_rfl
  g19 := by kernel_rfl }
open Go.RowKit Go.Sort Go.Lib in
/-- THE ROAD WITHOUT THE TABLE: 0 <= i < 100: two constants are read, nothing is laid: no premise on the world, and the world is as it was. (LAID: no walk: one application.) -/
theorem Tryd.internal_strconv_FormatInt_10_small (i : Nat) (hi : i < 100) (w : World) :
    Calls Tryd.prog 66 #[.int .i64 i, .int .i64 10] w fun e w' => e = .returned (.string ⟨(Lib.decDigits i).toArray⟩) ∧ w' = w := Any.internal_strconv_FormatInt_10_small Tryd.lays246 i hi w
def Tryd.laysM243_ren : Go.Shelf.Ren := ⟨fun | 243 => 59 | 246 => 66 | 283 => 70 | 284 => 71 | 285 => 72 | 286 => 73 | 129 => 77 | 317 => 76 | 318 => 78 | 319 => 79 | 320 => 80 | 337 => 82 | 338 => 83 | n => n, fun | 3 => 3 | 9 => 9 | 2 => 2 | 4 => 4 | 171 => 114 | 0 => 0 | 53 => 115 | 37 => 60 | 5 => 5 | 173 => 118 | 212 => 123 | 51 => 124 | 20 => 20 | 213 => 125 | 46 => 104 | 232 => 128 | 233 => 129 | n => n, fun | 17 => 1 | 18 => 2 | 19 => 3 | n => n⟩
theorem Tryd.laysM243 : Go.Proofs.LaysM.n243 Tryd.prog Tryd.laysM243_ren := {
  mixed := by kernel_rfl
  f129 := Tryd.func77.trans (congrArg some (by kernel_rfl))
  f243 := Tryd.func59.trans (congrArg some (by kernel_rfl))
  f246 := Tryd.func66.trans (congrArg some (by kernel_rfl))
  f283 := Tryd.func70.trans (congrArg some (by kernel_rfl))
  f284 := Tryd.func71.trans (congrArg some (by kernel_rfl))
  f285 := Tryd.func72.trans (congrArg some (by kernel_rfl))
  f286 := Tryd.func73.trans (congrArg some (by kernel_rfl))
  f317 := Tryd.func76.trans (congrArg some (by kernel_rfl))
  f318 := Tryd.func78.trans (congrArg some (by kernel_rfl))
  f319 := Tryd.func79.trans (congrArg some (by kernel_rfl))
  f320 := Tryd.func80.trans (congrArg some (by kernel_rfl))
  f337 := Tryd.func82.trans (congrArg some (by kernel_rfl))
  f338 := Tryd.func83.trans (congrArg some (by kernel_rfl))
  t0 := Tryd.underlying0
  a0 := Tryd.isAgg0
  z0 := Tryd.sizeOf0
  v0 := Tryd.zeroValue0
  t2 := Tryd.underlying2
  a2 := Tryd.isAgg2
  z2 := Tryd.sizeOf2
  v2 := Tryd.zeroValue2
  t3 := Tryd.underlying3
  a3 := Tryd.isAgg3
  z3 := Tryd.sizeOf3
  v3 := Tryd.zeroValue3
  t4 := Tryd.underlying4
  a4 := Tryd.isAgg4
  z4 := Tryd.sizeOf4
  v4 := Tryd.zeroValue4
  t5 := Tryd.underlying5
  a5 := Tryd.isAgg5
  z5 := Tryd.sizeOf5
  v5 := Tryd.zeroValue5
  t9 := Tryd.underlying9
  a9 := Tryd.isAgg9
  z9 := Tryd.sizeOf9
  v9 := Tryd.zeroValue9
  t20 := Tryd.underlying20
  a20 := Tryd.isAgg20
  z20 := Tryd.sizeOf20
  v20 := Tryd.zeroValue20
  t37 := Tryd.underlying60
  a37 := Tryd.isAgg60
  z37 := Tryd.sizeOf60
  v37 := Tryd.zeroValue60
  t46 := Tryd.underlying104
  a46 := Tryd.isAgg104
  z46 := Tryd.sizeOf104
  v46 := Tryd.zeroValue104
  t51 := Tryd.underlying124
  a51 := Tryd.isAgg124
  z51 := Tryd.sizeOf124
  v51 := Tryd.zeroValue124
  t53 := Tryd.underlying115
  a53 := Tryd.isAgg115
  z53 := Tryd.sizeOf115
  v53 := Tryd.zeroValue115
  t171 := Tryd.underlying114
  a171 := Tryd.isAgg114
  z171 := Tryd.sizeOf114
  v171 := Tryd.zeroValue114
  t173 := Tryd.underlying118
  a173 := Tryd.isAgg118
  z173 := Tryd.sizeOf118
  v173 := Tryd.zeroValue118
  t212 := Tryd.underlying123
  a212 := Tryd.isAgg123
  z212 := Tryd.sizeOf123
  v212 := Tryd.zeroValue123
  t213 := Tryd.underlying125
  a213 := Tryd.isAgg125
  z213 := Tryd.sizeOf125
  t232 := Tryd.underlying128
  a232 := Tryd.isAgg128
  z232 := Tryd.sizeOf128
  v232 := Tryd.zeroValue128
  t233 := Tryd.underlying129
  a233 := Tryd.isAgg129
  z233 := Tryd.sizeOf129
  v233 := Tryd.zeroValue129
  g17 := by kernel_rfl
  g18 := by kernel_rfl
  g19 := by kernel_rfl
  i0 := by kernel_rfl
  i2 := by kernel_rfl
  i3 := by kernel_rfl
  i4 := by kernel_rfl
  i5 := by kernel_rfl
  i9 := by kernel_rfl
  i20 := by kernel_rfl
  i37 := by kernel_rfl
  i46 := by kernel_rfl
  i51 := by kernel_rfl
  i53 := by kernel_rfl
  i171 := by kernel_rfl
  i173 := by kernel_rfl
  i212 := by kernel_rfl
  i232 := by kernel_rfl
  i233 := by kernel_rfl
  m17 := by kernel_rfl
  m18 := by kernel_rfl
  m19 := by kernel_rfl }
open Go.RowKit Go.Sort Go.Lib in
/-- internal/strconv.Itoa: "Itoa is equivalent to FormatInt(int64(i), 10).": i's decimal numeral, for every int. (LAID: no walk: one application.) -/
theorem Tryd.internal_strconv_Itoa (n : Int) (h0 : -9223372036854775808 ≤ n) (h1 : n ≤ 9223372036854775807) (w : World) (htab : Lib.TabIs Tryd.prog w "internal/strconv.uint64pow10" .u64 Lib.pow10Tab) :
    Calls Tryd.prog 59 #[.int .i64 n] w fun e w' => e = .returned (.string ⟨(Lib.itoa n).toArray⟩) ∧ ∃ k os, w' = grow (w.drewN k) os := Any.internal_strconv_Itoa Tryd.laysM243 n h0 h1 w htab
def Tryd.lays243_ren : Go.Shelf.Ren := ⟨fun | 243 => 59 | 246 => 66 | 283 => 70 | 284 => 71 | 285 => 72 | 286 => 73 | 129 => 77 | 317 => 76 | 318 => 78 | 319 => 79 | 320 => 80 | 337 => 82 | 338 => 83 | n => n, fun | 3 => 3 | 9 => 9 | 2 => 2 | 4 => 4 | 171 => 114 | 0 => 0 | 53 => 115 | 37 => 60 | 5 => 5 | 173 => 118 | 212 => 123 | 51 => 124 | 20 => 20 | 213 => 125 | 46 => 104 | 232 => 128 | 233 => 129 | n => n, fun | 17 => 1 | 18 => 2 | 19 => 3 | n => n⟩
theorem Tryd.lays243 : Go.Proofs.Lays.n243 Tryd.prog Tryd.lays243_ren := {
  mixed := by kernel_rfl
  f129 := Tryd.func77.trans (congrArg some (by kernel_rfl))
  f243 := Tryd.func59.trans (congrArg some (by kernel_rfl))
  f246 := Tryd.func66.trans (congrArg some (by kernel_rfl))
  f283 := Tryd.func70.trans (congrArg some (by kernel_rfl))
  f284 := Tryd.func71.trans (congrArg some (by kernel_rfl))
  f285 := Tryd.func72.trans (congrArg some (by kernel_rfl))
  f286 := Tryd.func73.trans (congrArg some (by kernel_rfl))
  f317 := Tryd.func76.trans (congrArg some (by kernel_rfl))
  f318 := Tryd.func78.trans (congrArg some (by kernel_rfl))
  f319 := Tryd.func79.trans (congrArg some (by kernel_rfl))
  f320 := Tryd.func80.trans (congrArg some (by kernel_rfl))
  f337 := Tryd.func82.trans (congrArg some (by kernel_rfl))
  f338 := Tryd.func83.trans (congrArg some (by kernel_rfl))
  t0 := Tryd.underlying0
  a0 := Tryd.isAgg0
  z0 := Tryd.sizeOf0
  v0 := Tryd.zeroValue0
  t2 := Tryd.underlying2
  a2 := Tryd.isAgg2
  z2 := Tryd.sizeOf2
  v2 := Tryd.zeroValue2
  t3 := Tryd.underlying3
  a3 := Tryd.isAgg3
  z3 := Tryd.sizeOf3
  v3 := Tryd.zeroValue3
  t4 := Tryd.underlying4
  a4 := Tryd.isAgg4
  z4 := Tryd.sizeOf4
  v4 := Tryd.zeroValue4
  t5 := Tryd.underlying5
  a5 := Tryd.isAgg5
  z5 := Tryd.sizeOf5
  v5 := Tryd.zeroValue5
  t9 := Tryd.underlying9
  a9 := Tryd.isAgg9
  z9 := Tryd.sizeOf9
  v9 := Tryd.zeroValue9
  t20 := Tryd.underlying20
  a20 := Tryd.isAgg20
  z20 := Tryd.sizeOf20
  v20 := Tryd.zeroValue20
  t37 := Tryd.underlying60
  a37 := Tryd.isAgg60
  z37 := Tryd.sizeOf60
  v37 := Tryd.zeroValue60
  t46 := Tryd.underlying104
  a46 := Tryd.isAgg104
  z46 := Tryd.sizeOf104
  v46 := Tryd.zeroValue104
  t51 := Tryd.underlying124
  a51 := Tryd.isAgg124
  z51 := Tryd.sizeOf124
  v51 := Tryd.zeroValue124
  t53 := Tryd.underlying115
  a53 := Tryd.isAgg115
  z53 := Tryd.sizeOf115
  v53 := Tryd.zeroValue115
  t171 := Tryd.underlying114
  a171 := Tryd.isAgg114
  z171 := Tryd.sizeOf114
  v171 := Tryd.zeroValue114
  t173 := Tryd.underlying118
  a173 := Tryd.isAgg118
  z173 := Tryd.sizeOf118
  v173 := Tryd.zeroValue118
  t212 := Tryd.underlying123
  a212 := Tryd.isAgg123
  z212 := Tryd.sizeOf123
  v212 := Tryd.zeroValue123
  t213 := Tryd.underlying125
  a213 := Tryd.isAgg125
  z213 := Tryd.sizeOf125
  t232 := Tryd.underlying128
  a232 := Tryd.isAgg128
  z232 := Tryd.sizeOf128
  v232 := Tryd.zeroValue128
  t233 := Tryd.underlying129
  a233 := Tryd.isAgg129
  z233 := Tryd.sizeOf129
  v233 := Tryd.zeroValue129
  g17 := by kernel_rfl
  g18 := by kernel_rfl
  g19 := by kernel_rfl }
open Go.RowKit Go.Sort Go.Lib in
/-- THE ROAD WITHOUT THE TABLE: 0 <= i < 100. (LAID: no walk: one application.) -/
theorem Tryd.internal_strconv_Itoa_small (i : Nat) (hi : i < 100) (w : World) :
    Calls Tryd.prog 59 #[.int .i64 i] w fun e w' => e = .returned (.string ⟨(Lib.decDigits i).toArray⟩) ∧ w' = w := Any.internal_strconv_Itoa_small Tryd.lays243 i hi w
def Tryd.laysM171_ren : Go.Shelf.Ren := ⟨fun | 171 => 43 | 243 => 59 | 246 => 66 | 283 => 70 | 284 => 71 | 285 => 72 | 286 => 73 | 129 => 77 | 317 => 76 | 318 => 78 | 319 => 79 | 320 => 80 | 337 => 82 | 338 => 83 | n => n, fun | 3 => 3 | 9 => 9 | 2 => 2 | 4 => 4 | 171 => 114 | 0 => 0 | 53 => 115 | 37 => 60 | 5 => 5 | 173 => 118 | 212 => 123 | 51 => 124 | 20 => 20 | 213 => 125 | 46 => 104 | 232 => 128 | 233 => 129 | n => n, fun | 17 => 1 | 18 => 2 | 19 => 3 | n => n⟩
theorem Tryd.laysM171 : Go.Proofs.LaysM.n171 Tryd.prog Tryd.laysM171_ren := {
  mixed := by kernel_rfl
  f129 := Tryd.func77.trans (congrArg some (by kernel_rfl))
  f171 := Tryd.func43.trans (congrArg some (by kernel_rfl))
  f243 := Tryd.func59.trans (congrArg some (by kernel_rfl))
  f246 := Tryd.func66.trans (congrArg some (by kernel_rfl))
  f283 := Tryd.func70.trans (congrArg some (by kernel_rfl))
  f284 := Tryd.func71.trans (congrArg some (by kernel_rfl))
  f285 := Tryd.func72.trans (congrArg some (by kernel_rfl))
  f286 := Tryd.func73.trans (congrArg some (by kernel_rfl))
  f317 := Tryd.func76.trans (congrArg some (by kernel_rfl))
  f318 := Tryd.func78.trans (congrArg some (by kernel_rfl))
  f319 := Tryd.func79.trans (congrArg some (by kernel_rfl))
  f320 := Tryd.func80.trans (congrArg some (by kernel_rfl))
  f337 := Tryd.func82.trans (congrArg some (by kernel_rfl))
  f338 := Tryd.func83.trans (congrArg some (by kernel_rfl))
  t0 := Tryd.underlying0
  a0 := Tryd.isAgg0
  z0 := Tryd.sizeOf0
  v0 := Tryd.zeroValue0
  t2 := Tryd.underlying2
  a2 := Tryd.isAgg2
  z2 := Tryd.sizeOf2
  v2 := Tryd.zeroValue2
  t3 := Tryd.underlying3
  a3 := Tryd.isAgg3
  z3 := Tryd.sizeOf3
  v3 := Tryd.zeroValue3
  t4 := Tryd.underlying4
  a4 := Tryd.isAgg4
  z4 := Tryd.sizeOf4
  v4 := Tryd.zeroValue4
  t5 := Tryd.underlying5
  a5 := Tryd.isAgg5
  z5 := Tryd.sizeOf5
  v5 := Tryd.zeroValue5
  t9 := Tryd.underlying9
  a9 := Tryd.isAgg9
  z9 := Tryd.sizeOf9
  v9 := Tryd.zeroValue9
  t20 := Tryd.underlying20
  a20 := Tryd.isAgg20
  z20 := Tryd.sizeOf20
  v20 := Tryd.zeroValue20
  t37 := Tryd.underlying60
  a37 := Tryd.isAgg60
  z37 := Tryd.sizeOf60
  v37 := Tryd.zeroValue60
  t46 := Tryd.underlying104
  a46 := Tryd.isAgg104
  z46 := Tryd.sizeOf104
  v46 := Tryd.zeroValue104
  t51 := Tryd.underlying124
  a51 := Tryd.isAgg124
  z51 := Tryd.sizeOf124
  v51 := Tryd.zeroValue124
  t53 := Tryd.underlying115
  a53 := Tryd.isAgg115
  z53 := Tryd.sizeOf115
  v53 := Tryd.zeroValue115
  t171 := Tryd.underlying114
  a171 := Tryd.isAgg114
  z171 := Tryd.sizeOf114
  v171 := Tryd.zeroValue114
  t173 := Tryd.underlying118
  a173 := Tryd.isAgg118
  z173 := Tryd.sizeOf118
  v173 := Tryd.zeroValue118
  t212 := Tryd.underlying123
  a212 := Tryd.isAgg123
  z212 := Tryd.sizeOf123
  v212 := Tryd.zeroValue123
  t213 := Tryd.underlying125
  a213 := Tryd.isAgg125
  z213 := Tryd.sizeOf125
  t232 := Tryd.underlying128
  a232 := Tryd.isAgg128
  z232 := Tryd.sizeOf128
  v232 := Tryd.zeroValue128
  t233 := Tryd.underlying129
  a233 := Tryd.isAgg129
  z233 := Tryd.sizeOf129
  v233 := Tryd.zeroValue129
  g17 := by kernel_rfl
  g18 := by kernel_rfl
  g19 := by kernel_rfl
  i0 := by kernel_rfl
  i2 := by kernel_rfl
  i3 := by kernel_rfl
  i4 := by kernel_rfl
  i5 := by kernel_rfl
  i9 := by kernel_rfl
  i20 := by kernel_rfl
  i37 := by kernel_rfl
  i46 := by kernel_rfl
  i51 := by kernel_rfl
  i53 := by kernel_rfl
  i171 := by kernel_rfl
  i173 := by kernel_rfl
  i212 := by kernel_rfl
  i232 := by kernel_rfl
  i233 := by kernel_rfl
  m17 := by kernel_rfl
  m18 := by kernel_rfl
  m19 := by kernel_rfl }
open Go.RowKit Go.Sort Go.Lib in
/-- strconv.Itoa: "Itoa is equivalent to FormatInt(int64(i), 10).": i's DECIMAL NUMERAL ('Lib.itoa': a '-' where i is negative, then the digits), FOR EVERY int. The world behind the call: the world before it, new blocks behind the heap (the library's 'var a [24]byte'), draws. (LAID: no walk: one application.) -/
theorem Tryd.strconv_Itoa (n : Int) (h0 : -9223372036854775808 ≤ n) (h1 : n ≤ 9223372036854775807) (w : World) (htab : Lib.TabIs Tryd.prog w "internal/strconv.uint64pow10" .u64 Lib.pow10Tab) :
    Calls Tryd.prog 43 #[.int .i64 n] w fun e w' => e = .returned (.string ⟨(Lib.itoa n).toArray⟩) ∧ ∃ k os, w' = grow (w.drewN k) os := Any.strconv_Itoa Tryd.laysM171 n h0 h1 w htab
def Tryd.lays171_ren : Go.Shelf.Ren := ⟨fun | 171 => 43 | 243 => 59 | 246 => 66 | 283 => 70 | 284 => 71 | 285 => 72 | 286 => 73 | 129 => 77 | 317 => 76 | 318 => 78 | 319 => 79 | 320 => 80 | 337 => 82 | 338 => 83 | n => n, fun | 3 => 3 | 9 => 9 | 2 => 2 | 4 => 4 | 171 => 114 | 0 => 0 | 53 => 115 | 37 => 60 | 5 => 5 | 173 => 118 | 212 => 123 | 51 => 124 | 20 => 20 | 213 => 125 | 46 => 104 | 232 => 128 | 233 => 129 | n => n, fun | 17 => 1 | 18 => 2 | 19 => 3 | n => n⟩
theorem Tryd.lays171 : Go.Proofs.Lays.n171 Tryd.prog Tryd.lays171_ren := {
  mixed := by kernel_rfl
  f129 := Tryd.func77.trans (congrArg some (by kernel_rfl))
  f171 := Tryd.func43.trans (congrArg some (by kernel_rfl))
  f243 := Tryd.func59.trans (congrArg some (by kernel_rfl))
  f246 := Tryd.func66.trans (congrArg some (by kernel_rfl))
  f283 := Tryd.func70.trans (congrArg some (by kernel_rfl))
  f284 := Tryd.func71.trans (congrArg some (by kernel_rfl))
  f285 := Tryd.func72.trans (congrArg some (by kernel_rfl))
  f286 := Tryd.func73.trans (congrArg some (by kernel_rfl))
  f317 := Tryd.func76.trans (congrArg some (by kernel_rfl))
  f318 := Tryd.func78.trans (congrArg some (by kernel_rfl))
  f319 := Tryd.func79.trans (congrArg some (by kernel_rfl))
  f320 := Tryd.func80.trans (congrArg some (by kernel_rfl))
  f337 := Tryd.func82.trans (congrArg some (by kernel_rfl))
  f338 := Tryd.func83.trans (congrArg some (by kernel_rfl))
  t0 := Tryd.underlying0
  a0 := Tryd.isAgg0
  z0 := Tryd.sizeOf0
  v0 := Tryd.zeroValue0
  t2 := Tryd.underlying2
  a2 := Tryd.isAgg2
  z2 := Tryd.sizeOf2
  v2 := Tryd.zeroValue2
  t3 := Tryd.underlying3
  a3 := Tryd.isAgg3
  z3 := Tryd.sizeOf3
  v3 := Tryd.zeroValue3
  t4 := Tryd.underlying4
  a4 := Tryd.isAgg4
  z4 := Tryd.sizeOf4
  v4 := Tryd.zeroValue4
  t5 := Tryd.underlying5
  a5 := Tryd.isAgg5
  z5 := Tryd.sizeOf5
  v5 := Tryd.zeroValue5
  t9 := Tryd.underlying9
  a9 := Tryd.isAgg9
  z9 := Tryd.sizeOf9
  v9 := Tryd.zeroValue9
  t20 := Tryd.underlying20
  a20 := Tryd.isAgg20
  z20 := Tryd.sizeOf20
  v20 := Tryd.zeroValue20
  t37 := Tryd.underlying60
  a37 := Tryd.isAgg60
  z37 := Tryd.sizeOf60
  v37 := Tryd.zeroValue60
  t46 := Tryd.underlying104
  a46 := Tryd.isAgg104
  z46 := Tryd.sizeOf104
  v46 := Tryd.zeroValue104
  t51 := Tryd.underlying124
  a51 := Tryd.isAgg124
  z51 := Tryd.sizeOf124
  v51 := Tryd.zeroValue124
  t53 := Tryd.underlying115
  a53 := Tryd.isAgg115
  z53 := Tryd.sizeOf115
  v53 := Tryd.zeroValue115
  t171 := Tryd.underlying114
  a171 := Tryd.isAgg114
  z171 := Tryd.sizeOf114
  v171 := Tryd.zeroValue114
  t173 := Tryd.underlying118
  a173 := Tryd.isAgg118
  z173 := Tryd.sizeOf118
  v173 := Tryd.zeroValue118
  t212 := Tryd.underlying123
  a212 := Tryd.isAgg123
  z212 := Tryd.sizeOf123
  v212 := Tryd.zeroValue123
  t213 := Tryd.underlying125
  a213 := Tryd.isAgg125
  z213 := Tryd.sizeOf125
  t232 := Tryd.underlying128
  a232 := Tryd.isAgg128
  z232 := Tryd.sizeOf128
  v232 := Tryd.zeroValue128
  t233 := Tryd.underlying129
  a233 := Tryd.isAgg129
  z233 := Tryd.sizeOf129
  v233 := Tryd.zeroValue129
  g17 := by kernel_rfl
  g18 := by kernel_rfl
  g19 := by kernel_rfl }
open Go.RowKit Go.Sort Go.Lib in
/-- THE ROAD WITHOUT THE TABLE: 0 <= i < 100: NO PREMISE ON THE WORLD, AND THE WORLD IS AS IT WAS: a row that keeps its argument in that range need list no table ('laid = []'). (LAID: no walk: one application.) -/
theorem Tryd.strconv_Itoa_small (i : Nat) (hi : i < 100) (w : World) :
    Calls Tryd.prog 43 #[.int .i64 i] w fun e w' => e = .returned (.string ⟨(Lib.decDigits i).toArray⟩) ∧ w' = w := Any.strconv_Itoa_small Tryd.lays171 i hi w
def Tryd.lays217_ren : Go.Shelf.Ren := ⟨fun | 217 => 53 | 266 => 64 | n => n, fun | 9 => 9 | 5 => 5 | 3 => 3 | n => n, fun | n => n⟩
theorem Tryd.lays217 : Go.Proofs.Lays.n217 Tryd.prog Tryd.lays217_ren := {
  mixed := by kernel_rfl
  f217 := Tryd.func53.trans (congrArg some (by kernel_rfl))
  f266 := Tryd.func64.trans (congrArg some (by kernel_rfl))
  t3 := Tryd.underlying3
  a3 := Tryd.isAgg3
  z3 := Tryd.sizeOf3
  v3 := Tryd.zeroValue3
  t5 := Tryd.underlying5
  a5 := Tryd.isAgg5
  z5 := Tryd.sizeOf5
  v5 := Tryd.zeroValue5
  t9 := Tryd.underlying9
  a9 := Tryd.isAgg9
  z9 := Tryd.sizeOf9
  v9 := Tryd.zeroValue9 }
open Go.RowKit Go.Lib in
/-- internal/stringslite.IndexByte (what strings.IndexByte calls): IT RETURNS 'Lib.indexByte s c'; the world is as it was. (LAID: no walk: one application.) -/
theorem Tryd.stringslite_IndexByte (s : ByteArray) (c : Int) (w : World) :
    Calls Tryd.prog 53 #[.string s, .int .u8 c] w fun e w' => e = .returned (.int .i64 (Lib.indexByte s.data.toList c.toNat.toUInt8)) ∧ w' = w := Any.stringslite_IndexByte Tryd.lays217 s c w
def Tryd.lays109_ren : Go.Shelf.Ren := ⟨fun | 109 => 74 | n => n, fun | 31 => 51 | 9 => 9 | 3 => 3 | 0 => 0 | 4 => 4 | n => n, fun | n => n⟩
theorem Tryd.lays109 : Go.Proofs.Lays.n109 Tryd.prog Tryd.lays109_ren := {
  mixed := by kernel_rfl
  f109 := Tryd.func74.trans (congrArg some (by kernel_rfl))
  t0 := Tryd.underlying0
  a0 := Tryd.isAgg0
  z0 := Tryd.sizeOf0
  v0 := Tryd.zeroValue0
  t3 := Tryd.underlying3
  a3 := Tryd.isAgg3
  z3 := Tryd.sizeOf3
  v3 := Tryd.zeroValue3
  t4 := Tryd.underlying4
  a4 := Tryd.isAgg4
  z4 := Tryd.sizeOf4
  v4 := Tryd.zeroValue4
  t9 := Tryd.underlying9
  a9 := Tryd.isAgg9
  z9 := Tryd.sizeOf9
  v9 := Tryd.zeroValue9
  t31 := Tryd.underlying51
  a31 := Tryd.isAgg51
  z31 := Tryd.sizeOf51
  v31 := Tryd.zeroValue51 }
open Go.Lib in
/-- slices.Index at []string: "Index returns the index of the first occurrence of v in s, or -1 if not present.": IT RETURNS 'Lib.idxOfS (the elements) v'; the world is as it was. 'zs': what the cells behind the slice's address hold (its spare capacity too, if you have it); 'zs.take n': its elements. (LAID: no walk: one application.) -/
theorem Tryd.slices_Index_string (b off n c : Nat) (zs : List ByteArray) (x : ByteArray) (w : World) (hz : n ≤ zs.length) (hbig : n ≤ 9223372036854775807) (hc : ∀ j, j < zs.length → w.cell? ⟨b, off + j, none⟩ = some (.string (zs.getD j ByteArray.empty))) :
    Calls Tryd.prog 74 #[.slice (some ⟨b, off, none⟩) n c, .string x] w fun e w' => e = .returned (.int .i64 (Lib.idxOfS (zs.take n) x)) ∧ w' = w := Any.slices_Index_string Tryd.lays109 b off n c zs x w hz hbig hc
open Go.Lib in
/-- The same at a slice of length 0, a nil one too: no cell is known, none is asked for. (LAID: no walk: one application.) -/
theorem Tryd.slices_Index_string_empty (a : Option Addr) (c : Nat) (x : ByteArray) (w : World) :
    Calls Tryd.prog 74 #[.slice a 0 c, .string x] w fun e w' => e = .returned (.int .i64 (Lib.idxOfS [] x)) ∧ w' = w := Any.slices_Index_string_empty Tryd.lays109 a c x w
def Tryd.lays110_ren : Go.Shelf.Ren := ⟨fun | 110 => 67 | 109 => 74 | n => n, fun | 31 => 51 | 9 => 9 | 4 => 4 | 3 => 3 | 0 => 0 | n => n, fun | n => n⟩
theorem Tryd.lays110 : Go.Proofs.Lays.n110 Tryd.prog Tryd.lays110_ren := {
  mixed := by kernel_rfl
  f109 := Tryd.func74.trans (congrArg some (by kernel_rfl))
  f110 := Tryd.func67.trans (congrArg some (by kernel_rfl))
  t0 := Tryd.underlying0
  a0 := Tryd.isAgg0
  z0 := Tryd.sizeOf0
  v0 := Tryd.zeroValue0
  t3 := Tryd.underlying3
  a3 := Tryd.isAgg3
  z3 := Tryd.sizeOf3
  v3 := Tryd.zeroValue3
  t4 := Tryd.underlying4
  a4 := Tryd.isAgg4
  z4 := Tryd.sizeOf4
  v4 := Tryd.zeroValue4
  t9 := Tryd.underlying9
  a9 := Tryd.isAgg9
  z9 := Tryd.sizeOf9
  v9 := Tryd.zeroValue9
  t31 := Tryd.underlying51
  a31 := Tryd.isAgg51
  z31 := Tryd.sizeOf51
  v31 := Tryd.zeroValue51 }
open Go.Lib in
/-- slices.Contains at []string: "Contains reports whether v is present in s.": IT RETURNS 'Lib.containsS (the elements) v', which is true just where v is among them ('Lib.containsS_iff'); the world is as it was. ITS CALLEE slices.Index IS MET BY ITS OWN CONTRACT OFF THE SHELF (lay that first): no loop is walked here. (LAID: no walk: one application.) -/
theorem Tryd.slices_Contains_string (b off n c : Nat) (zs : List ByteArray) (x : ByteArray) (w : World) (hz : n ≤ zs.length) (hbig : n ≤ 9223372036854775807) (hc : ∀ j, j < zs.length → w.cell? ⟨b, off + j, none⟩ = some (.string (zs.getD j ByteArray.empty))) :
    Calls Tryd.prog 67 #[.slice (some ⟨b, off, none⟩) n c, .string x] w fun e w' => e = .returned (.bool (Lib.containsS (zs.take n) x)) ∧ w' = w := Any.slices_Contains_string Tryd.lays110 b off n c zs x w hz hbig hc
open Go.Lib in
/-- The same at a slice of length 0, a nil one too. (LAID: no walk: one application.) -/
theorem Tryd.slices_Contains_string_empty (a : Option Addr) (c : Nat) (x : ByteArray) (w : World) :
    Calls Tryd.prog 67 #[.slice a 0 c, .string x] w fun e w' => e = .returned (.bool false) ∧ w' = w := Any.slices_Contains_string_empty Tryd.lays110 a c x w
end Go.Proofs

/- syntax.next: the token with which a text begins. -/
namespace Go.Proofs.YtpabngicbfcdkaaDoor
open Go.RowKit
set_option linter.unusedVariables false
set_option linter.unusedSimpArgs false

def twoB (c d : Nat) : Bool := (c == 43 && d == 43) || (c == 61 && d == 61) || (c == 33 && d == 61) || (c == 60 && d == 61)
def oneB (c : Nat) : Bool := c == 43 || c == 45 || c == 42 || c == 60 || c == 40 || c == 41 || c == 91 || c == 93 || c == 58 || c == 44
def sgnP (c : Nat) : List Nat → Option ((Nat × List Nat × Nat) × Nat)
  | [] => if oneB c then some ((5, [c], 0), 1) else none
  | d :: _ => if twoB c d then some ((5, [c, d], 0), 2) else if oneB c then some ((5, [c], 0), 1) else none
/-- kind, text, number; how many bytes -/
def nextP (l : List Nat) : Option ((Nat × List Nat × Nat) × Nat) :=
  match l with
  | [] => none
  | c :: r =>
    if digB c then (match valP (l.take (spn digB l)) with | none => none | some v => some ((1, [], v), spn digB l))
    else if c = 34 then (match quoP l with | none => none | some (b, n) => some ((2, b, 0), n))
    else if c = 64 then (if spn refB r = 0 then none else some ((3, r.take (spn refB r), 0), 1 + spn refB r))
    else if letB c then some ((4, l.take (spn letB l), 0), spn letB l)
    else sgnP c r
def nextV : Option ((Nat × List Nat × Nat) × Nat) → Value
  | some ((k, t, v), n) => .tuple #[tokV k (bs t) v 0, .int .i64 (n : Nat)]
  | none => .tuple #[tokV 0 ⟨#[]⟩ 0 0, .int .i64 0]

theorem ext_bs (s : ByteArray) (a b : Nat) : s.extract a b = bs (((ns s).drop a).take (b - a)) := by
  rw [Lib.extract_eq]
  unfold bs strOfNums ns nints
  congr 2
  rw [List.map_map, ← List.map_drop, ← List.map_take, List.map_map]
  conv => lhs; rw [← List.map_id (List.take (b - a) (List.drop a s.data.toList))]
  exact List.map_congr_left (fun u _ => by simp)
theorem bs_empty : bs [] = ⟨#[]⟩ := rfl

theorem spn_pos {is : Nat → Bool} {c : Nat} {r : List Nat} (h : is c = true) : spn is (c :: r) = 1 + spn is r := by
  unfold spn; rw [List.takeWhile_cons, if_pos h, List.length_cons]; omega
theorem mem_tw {is : Nat → Bool} : ∀ (l : List Nat), ∀ c ∈ l.takeWhile is, is c = true := by
  intro l c hc
  induction l with
  | nil => cases hc
  | cons a l ih =>
    by_cases ha : is a = true
    · rw [List.takeWhile_cons, if_pos ha] at hc
      rcases List.mem_cons.1 hc with rfl | h
      · exact ha
      · exact ih h
    · rw [List.takeWhile_cons, if_neg ha] at hc; cases hc
theorem take_spn {is : Nat → Bool} (l : List Nat) : ∀ c ∈ l.take (spn is l), is c = true := by
  intro c hc
  have : l.take (spn is l) = l.takeWhile is := by
    unfold spn
    exact (List.prefix_iff_eq_take.1 (List.takeWhile_prefix is)).symm
  rw [this] at hc
  exact mem_tw l c hc

theorem next_dig {l r : List Nat} {c : Nat} (h : l = c :: r) (hd : digB c = true) : nextP l = match valP (l.take (spn digB l)) with | none => none | some v => some ((1, [], v), spn digB l) := by
  subst h; simp only [nextP, hd, if_true]
theorem next_quo {l r : List Nat} (h : l = 34 :: r) : nextP l = match quoP l with | none => none | some (b, n) => some ((2, b, 0), n) := by
  subst h; simp [nextP, digB]
theorem next_ref {l r : List Nat} (h : l = 64 :: r) : nextP l = if spn refB r = 0 then none else some ((3, r.take (spn refB r), 0), 1 + spn refB r) := by
  subst h; simp [nextP, digB]
theorem next_let {l r : List Nat} {c : Nat} (h : l = c :: r) (hd : digB c = false) (h1 : c ≠ 34) (h2 : c ≠ 64) (hl : letB c = true) : nextP l = some ((4, l.take (spn letB l), 0), spn letB l) := by
  subst h; simp [nextP, hd, h1, h2, hl]
theorem next_sgn {l r : List Nat} {c : Nat} (h : l = c :: r) (hd : digB c = false) (h1 : c ≠ 34) (h2 : c ≠ 64) (hl : letB c = false) : nextP l = sgnP c r := by
  subst h
  simp [nextP, hd, h1, h2, hl]

/-- a string that is read, and the result cell that is open -/
structure NX (s : ByteArray) (w w1 : World) : Prop where
  hs : s.size ≤ 1000000000
  h0 : 0 < s.size
  hw : w1 = w.alloc (.cells #[.int .i64 0, .string ⟨#[]⟩, .int .i64 0, .int .i64 0] 48)
theorem NX.fin {s : ByteArray} {w w1 : World} (h : NX s w w1) : ∀ wx wf, Below w1.heap.size w1 wx → Fr (fun x => x = w.heap.size) wx wf → Below w.heap.size w wf := fun wx wf hb hf => by
  have HB1 : Below w.heap.size w w1 := by rw [h.hw]; exact below_alloc _ _
  exact (bthen HB1 hb).trans (hf.below (fun x e => by omega) (bthen HB1 hb).size)
theorem NX.tc {s : ByteArray} {w w1 : World} (h : NX s w w1) : TC w1 w.heap.size 0 ByteArray.empty 0 0 := by rw [h.hw]; exact alloc_tc _ _ _ _ _ _
theorem run_idx (s : ByteArray) (h0 : 0 < s.size) : (s[0]'h0).toNat = (ns s).getD 0 0 := by
  have := ns_get h0
  rw [List.getD_eq_getElem?_getD, this]; rfl

set_option maxRecDepth 100000 in
set_option maxHeartbeats 1500000 in
theorem next_dig_any (s : ByteArray) (w w1 : World) (hx : NX s w w1) (c : Nat) (r : List Nat) (hns : ns s = c :: r) (hc : (s[0]'hx.h0).toNat = c) (hd : digB c = true) : Calls Tryd.prog 34 #[.string s] w fun e w' => e = .returned (nextV (nextP (ns s))) ∧ Below w.heap.size w w' := by
  have hsi : (s.size : Int) ≤ 1000000000 := by have := hx.hs; omega
  have h0 := hx.h0
  have hpi : (0 : Int) < (s.size : Int) := by omega
  have HSZ := Lib.hid hx.hs
  have HNL := Lib.hid (ns_len s)
  obtain ⟨r0, r1, r2, r3, rf⟩ := hx.tc
  have rf0 := rf 0
  have rf1 := rf 1
  have rf2 := rf 2
  have rf3 := rf 3
  have HFIN := Lib.hid hx.fin
  have HW1 := Lib.hid hx.hw
  have HNS := Lib.hid hns
  have HC9 : Hid (c < 256) := Lib.hid (by rw [← hc]; exact (s[0]'h0).toNat_lt)
  have hc9 : (c : Int) ≤ 255 := by have := HC9.out; omega
  have HDIG := Lib.hid (isDigit_any c HC9.out w1)
  rw [hd] at HDIG
  obtain ⟨n, hn⟩ : ∃ n, n = spn digB (ns s) := ⟨_, rfl⟩
  have HSP := Lib.hid (span_any 54 digB s HSZ.out w1 cf_dig (fun c w h => isDigit_any c h w))
  rw [← hn] at HSP
  have hn1 : 1 ≤ n := by rw [hn, HNS.out, spn_pos hd]; omega
  have hns : n ≤ s.size := by rw [hn, ← HNL.out]; exact spn_le _ _
  have hnsi : (n : Int) ≤ (s.size : Int) := by omega
  have hn0i : (0 : Int) ≤ (n : Int) := by omega
  have HNT : Hid (ns (s.extract 0 n) = (ns s).take n) := Lib.hid (by
    unfold ns
    rw [Lib.extract_data, List.drop_zero, List.map_take, Nat.sub_zero])
  have HVAL := Lib.hid (value_any (s.extract 0 n) (by have h := ns_len (s.extract 0 n); rw [HNT.out, List.length_take] at h; have := HSZ.out; omega) (by have h := ns_len (s.extract 0 n); rw [HNT.out, List.length_take, HNL.out] at h; omega) (fun u hu => by rw [HNT.out, hn] at hu; exact take_spn _ u hu) w1)
  rw [HNT.out] at HVAL
  have HE : Hid (nextP (ns s) = match valP ((ns s).take n) with | none => none | some v => some ((1, [], v), n)) := Lib.hid (by
    rw [hn]
    exact next_dig HNS.out hd)
  clear hd hn rf
  cases hv : valP ((ns s).take n) with
  | none =>
    rw [hv] at HVAL
    simp only [valV] at HVAL
    have HE2 : Hid (nextP (ns s) = none) := Lib.hid (by rw [HE.out, hv])
    clear hv
    go_enter Tryd.func34, Tryd.ntmps34
    go_upto_region 1 with fail
    rw [← HW1.out]
    go_wp2_with (first | (go_at_call 54; refine HDIG.out.mono ?_; rintro e w2 ⟨rfl, rfl⟩) | (go_at_call 36; refine HSP.out.mono ?_; rintro e w2 ⟨rfl, rfl⟩) | (go_at_call 55; refine HVAL.out.mono ?_; rintro e w2 ⟨rfl, rfl⟩))

    exact bodyPost_ret (v := .tuple #[.agg #[.int .i64 0, .string ⟨#[]⟩, .int .i64 0, .int .i64 0], .int .i64 0]) (by simp [results, Tryd.results34, go_sem, r0, r1, r2, r3]; try rfl) rfl ⟨by rw [HE2.out]; rfl, HFIN.out _ _ (Below.refl _ _) (fr4 w1 w.heap.size (.int .i64 0) (.string ⟨#[]⟩) (.int .i64 0) (.int .i64 0))⟩
  | some v =>
    rw [hv] at HVAL
    simp only [valV] at HVAL
    have HE2 : Hid (nextP (ns s) = some ((1, [], v), n)) := Lib.hid (by rw [HE.out, hv])
    clear hv
    go_enter Tryd.func34, Tryd.ntmps34
    go_upto_region 1 with fail
    rw [← HW1.out]
    go_wp2_with (first | (go_at_call 54; refine HDIG.out.mono ?_; rintro e w2 ⟨rfl, rfl⟩) | (go_at_call 36; refine HSP.out.mono ?_; rintro e w2 ⟨rfl, rfl⟩) | (go_at_call 55; refine HVAL.out.mono ?_; rintro e w2 ⟨rfl, rfl⟩))
    exact bodyPost_ret (v := .tuple #[.agg #[.int .i64 1, .string ⟨#[]⟩, .int .i64 (v : Nat), .int .i64 0], .int .i64 (n : Nat)]) (by simp [results, Tryd.results34, go_sem, r0, r1, r2, r3]; try rfl) rfl ⟨by rw [HE2.out]; rfl, HFIN.out _ _ (Below.refl _ _) (fr4 w1 w.heap.size (.int .i64 1) (.string ⟨#[]⟩) (.int .i64 (v : Nat)) (.int .i64 0))⟩

set_option maxRecDepth 100000 in
set_option maxHeartbeats 1500000 in
theorem next_quo_any (s : ByteArray) (w w1 : World) (hx : NX s w w1) (r : List Nat) (hns : ns s = 34 :: r) (hc : (s[0]'hx.h0).toNat = 34) : Calls Tryd.prog 34 #[.string s] w fun e w' => e = .returned (nextV (nextP (ns s))) ∧ Below w.heap.size w w' := by
  have hsi : (s.size : Int) ≤ 1000000000 := by have := hx.hs; omega
  have h0 := hx.h0
  have hpi : (0 : Int) < (s.size : Int) := by omega
  have HTC := Lib.hid hx.tc
  have HFIN := Lib.hid hx.fin
  have HW1 := Lib.hid hx.hw
  have HDIG : Hid (Calls Tryd.prog 54 #[.int .u8 34] w1 fun e w' => e = .returned (.bool false) ∧ w1 = w') := Lib.hid (isDigit_any 34 (by decide) w1)
  have HQ := Lib.hid (quoted_any s hx.hs hx.h0 w1)
  have HE := Lib.hid (next_quo hns)
  cases hv : quoP (ns s) with
  | none =>
    rw [hv] at HQ
    simp only [quoV, tokV] at HQ
    have HE2 : Hid (nextP (ns s) = none) := Lib.hid (by rw [HE.out, hv])
    clear hv
    go_enter Tryd.func34, Tryd.ntmps34
    go_upto_region 1 with fail
    rw [← HW1.out]
    go_wp2_with (first | (go_at_call 54; refine HDIG.out.mono ?_; rintro e w2 ⟨rfl, rfl⟩) | (go_at_call 56; refine HQ.out.mono ?_; rintro e w2 ⟨rfl, hb2⟩; have HB2 := Lib.hid hb2; obtain ⟨r0, r1, r2, r3, rf⟩ := HTC.out.below hb2; have rf0 := rf 0; have rf1 := rf 1; have rf2 := rf 2; have rf3 := rf 3; clear rf hb2))
    exact bodyPost_ret (v := .tuple #[.agg #[.int .i64 0, .string ⟨#[]⟩, .int .i64 0, .int .i64 0], .int .i64 0]) (by simp [results, Tryd.results34, go_sem, r0, r1, r2, r3]; try rfl) rfl ⟨by rw [HE2.out]; rfl, HFIN.out _ _ HB2.out (fr4 w2 w.heap.size (.int .i64 0) (.string ⟨#[]⟩) (.int .i64 0) (.int .i64 0))⟩
  | some v =>
    obtain ⟨b, n⟩ := v
    rw [hv] at HQ
    simp only [quoV, tokV] at HQ
    have HE2 : Hid (nextP (ns s) = some ((2, b, 0), n)) := Lib.hid (by rw [HE.out, hv])
    clear hv
    go_enter Tryd.func34, Tryd.ntmps34
    go_upto_region 1 with fail
    rw [← HW1.out]
    go_wp2_with (first | (go_at_call 54; refine HDIG.out.mono ?_; rintro e w2 ⟨rfl, rfl⟩) | (go_at_call 56; refine HQ.out.mono ?_; rintro e w2 ⟨rfl, hb2⟩; have HB2 := Lib.hid hb2; obtain ⟨r0, r1, r2, r3, rf⟩ := HTC.out.below hb2; have rf0 := rf 0; have rf1 := rf 1; have rf2 := rf 2; have rf3 := rf 3; clear rf hb2))
    exact bodyPost_ret (v := .tuple #[.agg #[.int .i64 2, .string (bs b), .int .i64 0, .int .i64 0], .int .i64 (n : Nat)]) (by simp [results, Tryd.results34, go_sem, r0, r1, r2, r3]; try rfl) rfl ⟨by rw [HE2.out]; rfl, HFIN.out _ _ HB2.out (fr4 w2 w.heap.size (.int .i64 2) (.string (bs b)) (.int .i64 0) (.int .i64 0))⟩

set_option maxRecDepth 100000 in
set_option maxHeartbeats 1500000 in
theorem next_ref_any (s : ByteArray) (w w1 : World) (hx : NX s w w1) (r : List Nat) (hns : ns s = 64 :: r) (hc : (s[0]'hx.h0).toNat = 64) : Calls Tryd.prog 34 #[.string s] w fun e w' => e = .returned (nextV (nextP (ns s))) ∧ Below w.heap.size w w' := by
  have hsi : (s.size : Int) ≤ 1000000000 := by have := hx.hs; omega
  have h0 := hx.h0
  have hpi : (1 : Int) ≤ (s.size : Int) := by omega
  have hpi0 : (0 : Int) < (s.size : Int) := by omega
  obtain ⟨r0, r1, r2, r3, rf⟩ := hx.tc
  have rf0 := rf 0
  have rf1 := rf 1
  have rf2 := rf 2
  have rf3 := rf 3
  have HFIN := Lib.hid hx.fin
  have HW1 := Lib.hid hx.hw
  have HR : Hid (ns (s.extract 1 s.size) = r) := Lib.hid (by rw [ns_extract, hns]; rfl)
  have HRL : Hid (r.length + 1 = s.size) := Lib.hid (by rw [← ns_len, hns]; rfl)
  have HDIG : Hid (Calls Tryd.prog 54 #[.int .u8 64] w1 fun e w' => e = .returned (.bool false) ∧ w1 = w') := Lib.hid (isDigit_any 64 (by decide) w1)
  obtain ⟨n, hn⟩ : ∃ n, n = spn refB r := ⟨_, rfl⟩
  have hn9 : n + 1 ≤ s.size := by have := spn_le refB r; have := HRL.out; omega
  have HSP := Lib.hid (span_any 37 refB (s.extract 1 s.size) (by have h := ns_len (s.extract 1 s.size); rw [HR.out] at h; have := HRL.out; have := hx.hs; omega) w1 cf_ref (fun c w h => isRef_any c h w))
  rw [HR.out, ← hn] at HSP
  have HE : Hid (nextP (ns s) = if n = 0 then none else some ((3, r.take n, 0), 1 + n)) := Lib.hid (by rw [hn]; exact next_ref hns)
  have HTX : Hid (s.extract 1 (n + 1) = bs (r.take n)) := Lib.hid (by rw [ext_bs, hns]; rfl)
  obtain ⟨K, hK⟩ : ∃ K, K = n + 1 := ⟨_, rfl⟩
  have hKi : (1 : Int) + (n : Int) = (K : Int) := by omega
  have hK1 : (1 : Int) ≤ (K : Int) := by omega
  have hK2 : (K : Int) ≤ (s.size : Int) := by omega
  have hK3 : 1 ≤ K := by omega
  have hK4 : K ≤ s.size := by omega
  rw [← hK] at HTX
  have HKN : Hid (1 + n = K) := Lib.hid (by omega)
  clear hns hn hn9 rf hK
  by_cases h0 : n = 0
  · subst h0
    have hK1e : (K : Int) = 1 := by omega
    have hKb : ((K : Int) == 1) = true := by rw [hK1e]; rfl
    go_enter Tryd.func34, Tryd.ntmps34
    go_upto_region 1 with fail
    rw [← HW1.out]
    go_wp2_with (first | (go_at_call 54; refine HDIG.out.mono ?_; rintro e w2 ⟨rfl, rfl⟩) | (go_at_call 36; refine HSP.out.mono ?_; rintro e w2 ⟨rfl, rfl⟩))
    exact bodyPost_ret (v := .tuple #[.agg #[.int .i64 0, .string ⟨#[]⟩, .int .i64 0, .int .i64 0], .int .i64 0]) (by simp [results, Tryd.results34, go_sem, r0, r1, r2, r3]; try rfl) rfl ⟨by rw [HE.out]; rfl, HFIN.out _ _ (Below.refl _ _) (fr4 w1 w.heap.size (.int .i64 0) (.string ⟨#[]⟩) (.int .i64 0) (.int .i64 0))⟩
  · have hKb : ((K : Int) == 1) = false := by rw [beq_eq_false_iff_ne]; omega
    have HE2 : Hid (nextP (ns s) = some ((3, r.take n, 0), K)) := Lib.hid (by rw [HE.out, if_neg h0, HKN.out])
    clear h0
    go_enter Tryd.func34, Tryd.ntmps34
    go_upto_region 1 with fail
    rw [← HW1.out]
    go_wp2_with (first | (go_at_call 54; refine HDIG.out.mono ?_; rintro e w2 ⟨rfl, rfl⟩) | (go_at_call 36; refine HSP.out.mono ?_; rintro e w2 ⟨rfl, rfl⟩))
    exact bodyPost_ret (v := .tuple #[.agg #[.int .i64 3, .string (s.extract 1 K), .int .i64 0, .int .i64 0], .int .i64 (K : Nat)]) (by simp [results, Tryd.results34, go_sem, r0, r1, r2, r3]; try rfl) rfl ⟨by rw [HE2.out, HTX.out]; rfl, HFIN.out _ _ (Below.refl _ _) (fr4 w1 w.heap.size (.int .i64 3) (.string (s.extract 1 K)) (.int .i64 0) (.int .i64 0))⟩

set_option maxRecDepth 100000 in
set_option maxHeartbeats 1500000 in
theorem next_let_any (s : ByteArray) (w w1 : World) (hx : NX s w w1) (c : Nat) (r : List Nat) (hns : ns s = c :: r) (hc : (s[0]'hx.h0).toNat = c) (hd : digB c = false) (h1 : c ≠ 34) (h2 : c ≠ 64) (hl : letB c = true) : Calls Tryd.prog 34 #[.string s] w fun e w' => e = .returned (nextV (nextP (ns s))) ∧ Below w.heap.size w w' := by
  have hsi : (s.size : Int) ≤ 1000000000 := by have := hx.hs; omega
  have h0 := hx.h0
  have hpi0 : (0 : Int) < (s.size : Int) := by omega
  obtain ⟨r0, r1, r2, r3, rf⟩ := hx.tc
  have rf0 := rf 0
  have rf1 := rf 1
  have rf2 := rf 2
  have rf3 := rf 3
  have HFIN := Lib.hid hx.fin
  have HW1 := Lib.hid hx.hw
  have HC9 : Hid (c < 256) := Lib.hid (by rw [← hc]; exact (s[0]'h0).toNat_lt)
  have hc9 : (c : Int) ≤ 255 := by have := HC9.out; omega
  have b1 : ((c : Int) == 34) = false := by rw [beq_eq_false_iff_ne]; omega
  have b2 : ((c : Int) == 64) = false := by rw [beq_eq_false_iff_ne]; omega
  have HDIG := Lib.hid (isDigit_any c HC9.out w1)
  rw [hd] at HDIG
  have HLET := Lib.hid (isLetter_any c HC9.out w1)
  rw [hl] at HLET
  obtain ⟨n, hn⟩ : ∃ n, n = spn letB (ns s) := ⟨_, rfl⟩
  have hn9 : n ≤ s.size := by rw [hn, ← ns_len]; exact spn_le _ _
  have hn9i : (n : Int) ≤ (s.size : Int) := by omega
  have hn0i : (0 : Int) ≤ (n : Int) := by omega
  have HSP := Lib.hid (span_any 57 letB s hx.hs w1 cf_let (fun c w h => isLetter_any c h w))
  rw [← hn] at HSP
  have HE : Hid (nextP (ns s) = some ((4, (ns s).take n, 0), n)) := Lib.hid (by rw [hn]; exact next_let hns hd h1 h2 hl)
  have HTX : Hid (s.extract 0 n = bs ((ns s).take n)) := Lib.hid (by rw [ext_bs]; rfl)
  clear hns hn rf hd h1 h2 hl
  go_enter Tryd.func34, Tryd.ntmps34
  go_upto_region 1 with fail
  rw [← HW1.out]
  go_wp2_with (first | (go_at_call 54; refine HDIG.out.mono ?_; rintro e w2 ⟨rfl, rfl⟩) | (go_at_call 57; refine HLET.out.mono ?_; rintro e w2 ⟨rfl, rfl⟩) | (go_at_call 36; refine HSP.out.mono ?_; rintro e w2 ⟨rfl, rfl⟩))
  exact bodyPost_ret (v := .tuple #[.agg #[.int .i64 4, .string (s.extract 0 n), .int .i64 0, .int .i64 0], .int .i64 (n : Nat)]) (by simp [results, Tryd.results34, go_sem, r0, r1, r2, r3]; try rfl) rfl ⟨by rw [HE.out, HTX.out]; rfl, HFIN.out _ _ (Below.refl _ _) (fr4 w1 w.heap.size (.int .i64 4) (.string (s.extract 0 n)) (.int .i64 0) (.int .i64 0))⟩

set_option maxRecDepth 100000 in
theorem one_idx (c : Nat) (h : c < 256) : (Lib.indexByte [43, 45, 42, 60, 40, 41, 91, 93, 58, 44] ((c : Int).toNat.toUInt8) < 0 ↔ oneB c = false) := by
  have : ∀ c : Fin 256, (Lib.indexByte [43, 45, 42, 60, 40, 41, 91, 93, 58, 44] (((c.1 : Nat) : Int).toNat.toUInt8) < 0 ↔ oneB c.1 = false) := by decide
  exact this ⟨c, h⟩

theorem four_true {a b c d : Bool} (h : (a || b || c || d) = true) : a = true ∨ (a = false ∧ b = true) ∨ (a = false ∧ b = false ∧ c = true) ∨ (a = false ∧ b = false ∧ c = false ∧ d = true) := by
  revert h; revert a b c d; decide
theorem four_false {a b c d : Bool} (h : (a || b || c || d) = false) : a = false ∧ b = false ∧ c = false ∧ d = false := by
  revert h; revert a b c d; decide
theorem bs_toList {l : List Nat} : (bs l).toList = l.map (fun u => u.toUInt8) := by
  rw [Go.ByteArray.toList_eq]
  simp [bs, strOfNums, nints]
theorem two_eq (c d : Nat) (hc : c < 256) (hd : d < 256) (a b : UInt8) : ((bs [c, d]).toList == [a, b]) = (c == a.toNat && d == b.toNat) := by
  rw [bs_toList]
  rw [Bool.eq_iff_iff]
  simp only [List.map_cons, List.map_nil, beq_iff_eq, List.cons.injEq, and_true, Bool.and_eq_true]
  constructor
  · rintro ⟨h1, h2⟩
    rw [← h1, ← h2]
    simp; omega
  · rintro ⟨h1, h2⟩
    rw [h1, h2]
    simp

set_option maxRecDepth 100000 in
set_option maxHeartbeats 1500000 in
theorem next_sgn_any (s : ByteArray) (w w1 : World) (hx : NX s w w1) (c : Nat) (r : List Nat) (hns : ns s = c :: r) (hc : (s[0]'hx.h0).toNat = c) (hd : digB c = false) (h1 : c ≠ 34) (h2 : c ≠ 64) (hl : letB c = false) : Calls Tryd.prog 34 #[.string s] w fun e w' => e = .returned (nextV (nextP (ns s))) ∧ Below w.heap.size w w' := by
  have hsi : (s.size : Int) ≤ 1000000000 := by have := hx.hs; omega
  have h0 := hx.h0
  have hpi0 : (0 : Int) < (s.size : Int) := by omega
  have hpi1 : (1 : Int) ≤ (s.size : Int) := by omega
  obtain ⟨r0, r1, r2, r3, rf⟩ := hx.tc
  have rf0 := rf 0
  have rf1 := rf 1
  have rf2 := rf 2
  have rf3 := rf 3
  have HFIN := Lib.hid hx.fin
  have HW1 := Lib.hid hx.hw
  have HC9 : Hid (c < 256) := Lib.hid (by rw [← hc]; exact (s[0]'h0).toNat_lt)
  have hc9 : (c : Int) ≤ 255 := by have := HC9.out; omega
  have b1 : ((c : Int) == 34) = false := by rw [beq_eq_false_iff_ne]; omega
  have b2 : ((c : Int) == 64) = false := by rw [beq_eq_false_iff_ne]; omega
  have HDIG := Lib.hid (isDigit_any c HC9.out w1)
  rw [hd] at HDIG
  have HLET := Lib.hid (isLetter_any c HC9.out w1)
  rw [hl] at HLET
  have HE := Lib.hid (next_sgn hns hd h1 h2 hl)
  have HIB := Lib.hid ((Tryd.strings_IndexByte (⟨#[43, 45, 42, 60, 40, 41, 91, 93, 58, 44]⟩ : ByteArray) (c : Int) w1).mono (fun e w' h => (⟨h.1, h.2.symm⟩ : _ ∧ w1 = w')))
  obtain ⟨x, hx9⟩ : ∃ x, x = Lib.indexByte (⟨#[43, 45, 42, 60, 40, 41, 91, 93, 58, 44]⟩ : ByteArray).data.toList ((c : Int).toNat.toUInt8) := ⟨_, rfl⟩
  rw [← hx9] at HIB
  have HX : Hid (x < 0 ↔ oneB c = false) := Lib.hid (by rw [hx9]; exact one_idx c HC9.out)
  have HT1 : Hid (s.extract 0 1 = bs [c]) := Lib.hid (by rw [ext_bs, hns]; rfl)
  have HLEN : Hid (s.size = 1 + r.length) := Lib.hid (by rw [← ns_len, hns, List.length_cons]; omega)
  clear rf hd h1 h2 hl hx9
  match r, HLEN, HE, hns with
  | [], HLEN, HE, hns =>
    have hsz : decide ((1 : Int) < (s.size : Int)) = false := by have := HLEN.out; simp at this; simp [this]
    clear hns
    simp only [sgnP] at HE
    cases ho : oneB c with
    | true =>
      have hx0 : decide (x < 0) = false := by rw [decide_eq_false_iff_not, HX.out, ho]; simp
      have HE2 : Hid (nextP (ns s) = some ((5, [c], 0), 1)) := Lib.hid (by rw [HE.out, ho]; rfl)
      clear ho
      go_enter Tryd.func34, Tryd.ntmps34
      go_upto_region 1 with fail
      rw [← HW1.out]
      go_wp2_with (first | (go_at_call 54; refine HDIG.out.mono ?_; rintro e w2 ⟨rfl, rfl⟩) | (go_at_call 57; refine HLET.out.mono ?_; rintro e w2 ⟨rfl, rfl⟩) | (go_at_call 33; refine HIB.out.mono ?_; rintro e w2 ⟨rfl, rfl⟩))
      exact bodyPost_ret (v := .tuple #[.agg #[.int .i64 5, .string (s.extract 0 1), .int .i64 0, .int .i64 0], .int .i64 1]) (by simp [results, Tryd.results34, go_sem, r0, r1, r2, r3]; try rfl) rfl ⟨by rw [HE2.out, HT1.out]; rfl, HFIN.out _ _ (Below.refl _ _) (fr4 w1 w.heap.size (.int .i64 5) (.string (s.extract 0 1)) (.int .i64 0) (.int .i64 0))⟩
    | false =>
      have hx0 : decide (x < 0) = true := by rw [decide_eq_true_iff, HX.out, ho]
      have HE2 : Hid (nextP (ns s) = none) := Lib.hid (by rw [HE.out, ho]; rfl)
      clear ho
      go_enter Tryd.func34, Tryd.ntmps34
      go_upto_region 1 with fail
      rw [← HW1.out]
      go_wp2_with (first | (go_at_call 54; refine HDIG.out.mono ?_; rintro e w2 ⟨rfl, rfl⟩) | (go_at_call 57; refine HLET.out.mono ?_; rintro e w2 ⟨rfl, rfl⟩) | (go_at_call 33; refine HIB.out.mono ?_; rintro e w2 ⟨rfl, rfl⟩))
      exact bodyPost_ret (v := .tuple #[.agg #[.int .i64 0, .string ⟨#[]⟩, .int .i64 0, .int .i64 0], .int .i64 0]) (by simp [results, Tryd.results34, go_sem, r0, r1, r2, r3]; try rfl) rfl ⟨by rw [HE2.out]; rfl, HFIN.out _ _ (Below.refl _ _) (fr4 w1 w.heap.size (.int .i64 0) (.string ⟨#[]⟩) (.int .i64 0) (.int .i64 0))⟩
  | d :: t, HLEN, HE, hns =>
    have hsz : decide ((1 : Int) < (s.size : Int)) = true := by have := HLEN.out; simp at this; simp; omega
    have hsz2 : (2 : Int) ≤ (s.size : Int) := by have := HLEN.out; simp at this; omega
    have HT2 : Hid (s.extract 0 2 = bs [c, d]) := Lib.hid (by rw [ext_bs, hns]; rfl)
    have HD9 : Hid (d < 256) := Lib.hid (ns_lt s d (by rw [hns]; simp))
    clear hns
    simp only [sgnP] at HE
    obtain ⟨t2, ht2⟩ : ∃ t2, t2 = s.extract 0 2 := ⟨_, rfl⟩
    obtain ⟨q1, hq1⟩ : ∃ q, q = (c == 43 && d == 43) := ⟨_, rfl⟩
    obtain ⟨q2, hq2⟩ : ∃ q, q = (c == 61 && d == 61) := ⟨_, rfl⟩
    obtain ⟨q3, hq3⟩ : ∃ q, q = (c == 33 && d == 61) := ⟨_, rfl⟩
    obtain ⟨q4, hq4⟩ : ∃ q, q = (c == 60 && d == 61) := ⟨_, rfl⟩
    have HTW : Hid (twoB c d = (q1 || q2 || q3 || q4)) := Lib.hid (by rw [hq1, hq2, hq3, hq4]; rfl)
    have e1 : (t2.toList == [43, 43]) = q1 := by rw [ht2, HT2.out, hq1]; exact two_eq c d HC9.out HD9.out 43 43
    have e2 : (t2.toList == [61, 61]) = q2 := by rw [ht2, HT2.out, hq2]; exact two_eq c d HC9.out HD9.out 61 61
    have e3 : (t2.toList == [33, 61]) = q3 := by rw [ht2, HT2.out, hq3]; exact two_eq c d HC9.out HD9.out 33 61
    have e4 : (t2.toList == [60, 61]) = q4 := by rw [ht2, HT2.out, hq4]; exact two_eq c d HC9.out HD9.out 60 61
    rw [← ht2] at HT2
    have HTE : Hid (s.extract 0 2 = bs [c, d]) := Lib.hid (by rw [← ht2]; exact HT2.out)
    clear hq1 hq2 hq3 hq4 HT2
    subst ht2
    cases htw : twoB c d with
    | true =>
      have HE2 : Hid (nextP (ns s) = some ((5, [c, d], 0), 2)) := Lib.hid (by rw [HE.out, htw]; rfl)
      rcases four_true (HTW.out.symm.trans htw) with rfl | ⟨rfl, rfl⟩ | ⟨rfl, rfl, rfl⟩ | ⟨rfl, rfl, rfl, rfl⟩
      all_goals
        clear htw HTW
        go_enter Tryd.func34, Tryd.ntmps34
        go_upto_region 1 with fail
        rw [← HW1.out]
        go_wp2_with (first | (go_at_call 54; refine HDIG.out.mono ?_; rintro e w2 ⟨rfl, rfl⟩) | (go_at_call 57; refine HLET.out.mono ?_; rintro e w2 ⟨rfl, rfl⟩) | (go_at_call 33; refine HIB.out.mono ?_; rintro e w2 ⟨rfl, rfl⟩))
        exact bodyPost_ret (v := .tuple #[.agg #[.int .i64 5, .string (s.extract 0 2), .int .i64 0, .int .i64 0], .int .i64 2]) (by simp [results, Tryd.results34, go_sem, r0, r1, r2, r3]; try rfl) rfl ⟨by rw [HE2.out, HTE.out]; rfl, HFIN.out _ _ (Below.refl _ _) (fr4 w1 w.heap.size (.int .i64 5) (.string (s.extract 0 2)) (.int .i64 0) (.int .i64 0))⟩
    | false =>
      obtain ⟨rfl, rfl, rfl, rfl⟩ := four_false (HTW.out.symm.trans htw)
      have HE3 : Hid (nextP (ns s) = if oneB c then some ((5, [c], 0), 1) else none) := Lib.hid (by rw [HE.out, htw]; rfl)
      clear htw HTW
      cases ho : oneB c with
      | true =>
        have hx0 : decide (x < 0) = false := by rw [decide_eq_false_iff_not, HX.out, ho]; simp
        have HE2 : Hid (nextP (ns s) = some ((5, [c], 0), 1)) := Lib.hid (by rw [HE3.out, ho]; rfl)
        clear ho
        go_enter Tryd.func34, Tryd.ntmps34
        go_upto_region 1 with fail
        rw [← HW1.out]
        go_wp2_with (first | (go_at_call 54; refine HDIG.out.mono ?_; rintro e w2 ⟨rfl, rfl⟩) | (go_at_call 57; refine HLET.out.mono ?_; rintro e w2 ⟨rfl, rfl⟩) | (go_at_call 33; refine HIB.out.mono ?_; rintro e w2 ⟨rfl, rfl⟩))
        exact bodyPost_ret (v := .tuple #[.agg #[.int .i64 5, .string (s.extract 0 1), .int .i64 0, .int .i64 0], .int .i64 1]) (by simp [results, Tryd.results34, go_sem, r0, r1, r2, r3]; try rfl) rfl ⟨by rw [HE2.out, HT1.out]; rfl, HFIN.out _ _ (Below.refl _ _) (fr4 w1 w.heap.size (.int .i64 5) (.string (s.extract 0 1)) (.int .i64 0) (.int .i64 0))⟩
      | false =>
        have hx0 : decide (x < 0) = true := by rw [decide_eq_true_iff, HX.out, ho]
        have HE2 : Hid (nextP (ns s) = none) := Lib.hid (by rw [HE3.out, ho]; rfl)
        clear ho
        go_enter Tryd.func34, Tryd.ntmps34
        go_upto_region 1 with fail
        rw [← HW1.out]
        go_wp2_with (first | (go_at_call 54; refine HDIG.out.mono ?_; rintro e w2 ⟨rfl, rfl⟩) | (go_at_call 57; refine HLET.out.mono ?_; rintro e w2 ⟨rfl, rfl⟩) | (go_at_call 33; refine HIB.out.mono ?_; rintro e w2 ⟨rfl, rfl⟩))
        exact bodyPost_ret (v := .tuple #[.agg #[.int .i64 0, .string ⟨#[]⟩, .int .i64 0, .int .i64 0], .int .i64 0]) (by simp [results, Tryd.results34, go_sem, r0, r1, r2, r3]; try rfl) rfl ⟨by rw [HE2.out]; rfl, HFIN.out _ _ (Below.refl _ _) (fr4 w1 w.heap.size (.int .i64 0) (.string ⟨#[]⟩) (.int .i64 0) (.int .i64 0))⟩

theorem next_any (s : ByteArray) (hs : s.size ≤ 1000000000) (h0 : 0 < s.size) (w : World) : Calls Tryd.prog 34 #[.string s] w fun e w' => e = .returned (nextV (nextP (ns s))) ∧ Below w.heap.size w w' := by
  have hx : NX s w _ := ⟨hs, h0, rfl⟩
  have hns := ns_cons h0
  by_cases hd : digB (s[0]'h0).toNat = true
  · exact next_dig_any s w _ hx _ _ hns rfl hd
  have hd : digB (s[0]'h0).toNat = false := by simpa using hd
  by_cases h1 : (s[0]'h0).toNat = 34
  · exact next_quo_any s w _ hx _ (by rw [hns, h1]) h1
  by_cases h2 : (s[0]'h0).toNat = 64
  · exact next_ref_any s w _ hx _ (by rw [hns, h2]) h2
  by_cases hl : letB (s[0]'h0).toNat = true
  · exact next_let_any s w _ hx _ _ hns rfl hd h1 h2 hl
  · exact next_sgn_any s w _ hx _ _ hns rfl hd h1 h2 (by simpa using hl)

end Go.Proofs.YtpabngicbfcdkaaDoor

/- syntax.Tokens: the tokens of a text. -/
namespace Go.Proofs.YtpabngicbfcdkaaDoor
open Go.RowKit
set_option linter.unusedVariables false
set_option linter.unusedSimpArgs false

theorem hexP_pos' : True := trivial
theorem quoGo_len : ∀ (m : Nat) (acc l b r : List Nat), l.length ≤ m → quoGo acc l = some (b, r) → r.length < l.length
  | m, acc, [], b, r, _, h => by rw [quo_nil] at h; cases h
  | 0, acc, c :: l, b, r, hm, h => by simp at hm
  | m + 1, acc, c :: l, b, r, hm, h => by
    by_cases e1 : c = 34
    · subst e1; rw [quo_end] at h; cases h; simp
    · by_cases e2 : c = 92
      · subst e2
        cases he : escP l with
        | none => rw [quo_escn _ he] at h; cases h
        | some v =>
          obtain ⟨x, n⟩ := v
          rw [quo_esc _ he] at h
          have := quoGo_len m _ _ _ _ (by simp at hm ⊢; omega) h
          simp at this ⊢; omega
      · by_cases e3 : c < 32 ∨ c = 127
        · rw [quo_bad _ _ e1 e2 e3] at h; cases h
        · rw [quo_chr _ _ e1 e2 e3] at h
          have := quoGo_len m _ _ _ _ (by simpa using hm) h
          simp; omega
theorem nextP_pos {l : List Nat} {t : Nat × List Nat × Nat} {n : Nat} (h : nextP l = some (t, n)) : 1 ≤ n ∧ n ≤ l.length := by
  cases l with
  | nil => cases h
  | cons c r =>
    unfold nextP at h
    simp only at h
    split at h
    · rename_i hd
      cases hv : valP ((c :: r).take (spn digB (c :: r))) with
      | none => rw [hv] at h; cases h
      | some v =>
        rw [hv] at h; cases h
        exact ⟨by rw [spn_pos hd]; omega, spn_le _ _⟩
    · split at h
      · cases hv : quoP (c :: r) with
        | none => rw [hv] at h; cases h
        | some v =>
          obtain ⟨b, m⟩ := v
          rw [hv] at h; cases h
          unfold quoP at hv
          cases hg : quoGo [] ((c :: r).drop 1) with
          | none => rw [hg] at hv; cases hv
          | some u =>
            obtain ⟨b2, q⟩ := u
            rw [hg] at hv; cases hv
            have := quoGo_len _ _ _ _ _ (Nat.le_refl _) hg
            simp at this ⊢; omega
      · split at h
        · split at h
          · cases h
          · cases h
            have := spn_le refB r
            simp; omega
        · split at h
          · rename_i hl
            cases h
            exact ⟨by rw [spn_pos hl]; omega, spn_le _ _⟩
          · unfold sgnP at h
            split at h
            · split at h
              · cases h; simp
              · cases h
            · split at h
              · cases h; simp
              · split at h
                · cases h; simp
                · cases h

/-- kind, text, number, place -/
abbrev Tk := (Nat × List Nat × Nat) × Nat
def blankB (c : Nat) : Bool := c == 32 || c == 9 || c == 10 || c == 13
def toksGo (acc : List Tk) (i : Nat) (l : List Nat) : Option (List Tk) :=
  match l with
  | [] => some acc
  | c :: r => if blankB c then toksGo acc (i + 1) r else match nextP (c :: r) with
    | none => none
    | some (t, n) => toksGo (acc ++ [(t, i)]) (i + n) (r.drop (n - 1))
termination_by l.length
decreasing_by all_goals simp; try omega
def toksP (l : List Nat) : Option (List Tk) := toksGo [] 0 l
theorem toks_nil (acc : List Tk) (i : Nat) : toksGo acc i [] = some acc := by rw [toksGo]
theorem toks_blank (acc : List Tk) (i : Nat) {c : Nat} (r : List Nat) (h : blankB c = true) : toksGo acc i (c :: r) = toksGo acc (i + 1) r := by rw [toksGo, if_pos h]
theorem toks_none (acc : List Tk) (i : Nat) {c : Nat} {r : List Nat} (h : blankB c = false) (hn : nextP (c :: r) = none) : toksGo acc i (c :: r) = none := by rw [toksGo, if_neg (by rw [h]; simp), hn]
theorem toks_some (acc : List Tk) (i : Nat) {c : Nat} {r : List Nat} {t : Nat × List Nat × Nat} {n : Nat} (h : blankB c = false) (hn : nextP (c :: r) = some (t, n)) : toksGo acc i (c :: r) = toksGo (acc ++ [(t, i)]) (i + n) ((c :: r).drop n) := by
  rw [toksGo, if_neg (by rw [h]; simp), hn]
  simp only
  have := (nextP_pos hn).1
  obtain ⟨m, rfl⟩ : ∃ m, n = m + 1 := ⟨n - 1, by omega⟩
  rfl
def cellsT (l : List Tk) : List Value := l.flatMap fun x => [.int .i64 (x.1.1 : Nat), .string (bs x.1.2.1), .int .i64 (x.1.2.2 : Nat), .int .i64 (x.2 : Nat)]
theorem cellsT_snoc (l : List Tk) (t : Nat × List Nat × Nat) (i : Nat) : cellsT (l ++ [(t, i)]) = cellsT l ++ [.int .i64 (t.1 : Nat), .string (bs t.2.1), .int .i64 (t.2.2 : Nat), .int .i64 (i : Nat)] := by
  simp [cellsT]
theorem ETok : EltG Tryd.prog 44 48 (.agg #[.int .i64 0, .string ByteArray.empty, .int .i64 0, .int .i64 0]) 4 40 := ⟨Tryd.underlying44, info_parts (by kernel_rfl), rfl, by decide⟩
set_option maxRecDepth 100000 in
theorem blank_idx (c : Nat) (h : c < 256) : (0 ≤ Lib.indexByte [32, 9, 10, 13] ((c : Int).toNat.toUInt8) ↔ blankB c = true) := by
  have : ∀ c : Fin 256, (0 ≤ Lib.indexByte [32, 9, 10, 13] (((c.1 : Nat) : Int).toNat.toUInt8) ↔ blankB c.1 = true) := by decide
  exact this ⟨c, h⟩

/-- what Tokens returns -/
def ToksPost (B : Nat) (s : ByteArray) (e : Ending) (w' : World) : Prop :=
  (4096 < s.size ∧ e = .returned (.tuple #[.slice none 0 0, .iface 39 (.int .i64 9)])) ∨
  (s.size ≤ 4096 ∧ toksP (ns s) = none ∧ e = .returned (.tuple #[.slice none 0 0, .iface 39 (.int .i64 4)])) ∨
  (s.size ≤ 4096 ∧ ∃ ts a c, toksP (ns s) = some ts ∧ ts.length ≤ 4096 ∧ e = .returned (.tuple #[.slice a ts.length c, .nilIface]) ∧ Row w' B 48 4 (.slice a ts.length c) ts.length (cellsT ts))

set_option maxRecDepth 100000 in
set_option maxHeartbeats 1500000 in
theorem tokens_any (s : ByteArray) (w : World) (hs : s.size ≤ 1000000000000) : Calls Tryd.prog 17 #[.string s] w fun e w' => ToksPost w.heap.size s e w' ∧ Below w.heap.size w w' := by
  have hsi9 : (s.size : Int) ≤ 1000000000000 := by omega
  by_cases hbig : 4096 < s.size
  · have hd : decide ((4096 : Int) < (s.size : Int)) = true := by simp; omega
    have HB := Lib.hid hbig
    clear hbig hs
    go_enter Tryd.func17, Tryd.ntmps17
    go_wp2
    go_ret2
    exact ⟨.inl ⟨HB.out, rfl⟩, Below.refl _ _⟩
  have hd : decide ((4096 : Int) < (s.size : Int)) = false := by simp; omega
  have hsi : (s.size : Int) ≤ 4096 := by omega
  have HSZ : Hid (s.size ≤ 4096) := Lib.hid (by omega)
  have HNL := Lib.hid (ns_len s)
  have HLT := Lib.hid (ns_lt s)
  clear hbig hs hsi9
  go_enter Tryd.func17, Tryd.ntmps17
  go_wp2
  go_loopw [4, 5] (fun sv iv wr => ∃ (i N : Nat) (acc : List Tk) (a : Option Addr) (c : Nat), iv = .int .i64 i ∧ i ≤ s.size ∧ sv = .slice a N c ∧ acc.length = N ∧ N ≤ i ∧ toksGo acc i ((ns s).drop i) = toksP (ns s) ∧ Row wr w.heap.size 48 4 (.slice a N c) N (cellsT acc) ∧ Below w.heap.size w wr) (fun _ iv _ => s.size - (intOf iv).toNat)
  case atStart => exact ⟨0, 0, [], none, 0, rfl, by omega, rfl, rfl, by omega, rfl, World.ownsRow_nil _ _ _ _, Below.refl _ _⟩
  case round =>
    obtain ⟨i, N, acc, a, c, rfl, hi, rfl, hN, hNi, hq, hrow, hb⟩ := hrel
    have HROW := Lib.hid hrow
    have HB := Lib.hid hb
    have HN := Lib.hid hN
    have HNI := Lib.hid hNi
    have HQ := Lib.hid hq
    have hi9 : (i : Int) ≤ 4096 := by have := HSZ.out; omega
    have HI := Lib.hid hi
    by_cases hlt : i < s.size
    · have HG := Lib.hid (ns_get hlt)
      obtain ⟨x, hx⟩ : ∃ x, (s[i]'hlt).toNat = x := ⟨_, rfl⟩
      rw [hx] at HG
      have HX9 : Hid (x < 256) := Lib.hid (HLT.out x (List.mem_of_getElem? HG.out))
      have hx9 : (x : Int) ≤ 255 := by have := HX9.out; omega
      obtain ⟨r, hr⟩ : ∃ r, r = (ns s).drop (i + 1) := ⟨_, rfl⟩
      have hdrop : (ns s).drop i = x :: r := by
        rw [List.drop_eq_getElem_cons (by rw [ns_len]; exact hlt), hr]
        rw [(List.getElem?_eq_some_iff.1 HG.out).2]
      have HDROP := Lib.hid hdrop
      have HR := Lib.hid hr
      have hii : (i : Int) < (s.size : Int) := by omega
      have HLTI := Lib.hid hlt
      have HIB := Lib.hid ((Tryd.strings_IndexByte (⟨#[32, 9, 10, 13]⟩ : ByteArray) (x : Int) wr).mono (fun e w' h => (⟨h.1, h.2.symm⟩ : _ ∧ wr = w')))
      obtain ⟨y, hy⟩ : ∃ y, y = Lib.indexByte (⟨#[32, 9, 10, 13]⟩ : ByteArray).data.toList ((x : Int).toNat.toUInt8) := ⟨_, rfl⟩
      rw [← hy] at HIB
      have HY : Hid (0 ≤ y ↔ blankB x = true) := Lib.hid (by rw [hy]; exact blank_idx x HX9.out)
      clear hi hN hNi hq hrow hb hdrop hr hy
      cases hbl : blankB x with
      | true =>
        have hy0 : decide (0 ≤ y) = true := decide_eq_true (HY.out.2 hbl)
        have HQ2 : Hid (toksGo acc (i + 1) ((ns s).drop (i + 1)) = toksP (ns s)) := Lib.hid (by rw [← HQ.out, HDROP.out, toks_blank _ _ _ hbl, HR.out])
        clear hbl
        go_wp2_with (refine HIB.out.mono ?_; rintro e w2 ⟨rfl, rfl⟩)
        exact ⟨⟨i + 1, N, acc, a, c, rfl, by have := HLTI.out; omega, rfl, HN.out, by have := HNI.out; omega, HQ2.out, HROW.out, HB.out⟩, by have := HLTI.out; simp only [intOf]; omega⟩
      | false =>
        have hy0 : decide (0 ≤ y) = false := by rw [decide_eq_false_iff_not, HY.out, hbl]; simp
        have HEX : Hid (ns (s.extract i s.size) = x :: r) := Lib.hid (by rw [ns_extract, HDROP.out])
        have HEL : Hid (0 < (s.extract i s.size).size ∧ (s.extract i s.size).size ≤ 1000000000) := Lib.hid (by
          have h := ns_len (s.extract i s.size)
          rw [HEX.out, List.length_cons] at h
          have h2 := ns_len s
          have h3 : ((ns s).drop i).length = s.size - i := by rw [List.length_drop, h2]
          rw [HDROP.out, List.length_cons] at h3
          have := HSZ.out
          omega)
        have HNX := Lib.hid (next_any (s.extract i s.size) HEL.out.2 HEL.out.1 wr)
        rw [HEX.out] at HNX
        cases hnx : nextP (x :: r) with
        | none =>
          rw [hnx] at HNX
          simp only [nextV, tokV] at HNX
          have HE : Hid (toksP (ns s) = none) := Lib.hid (by rw [← HQ.out, HDROP.out, toks_none _ _ hbl hnx])
          clear hbl hnx
          go_wp2_with (first | (go_at_call 33; refine HIB.out.mono ?_; rintro e w2 ⟨rfl, rfl⟩) | (go_at_call 34; refine HNX.out.mono ?_; rintro e w2 ⟨rfl, hb2⟩; have HB2 := Lib.hid hb2; clear hb2))
          go_ret2
          exact ⟨.inr (.inl ⟨HSZ.out, HE.out, rfl⟩), bthen HB.out (bthen HB2.out (by first | exact Below.refl _ _ | exact below_alloc _ _))⟩
        | some v =>
          obtain ⟨⟨k, t, v⟩, n⟩ := v
          rw [hnx] at HNX
          simp only [nextV, tokV] at HNX
          have hpos := nextP_pos hnx
          have HQ2 : Hid (toksGo (acc ++ [((k, t, v), i)]) (i + n) ((ns s).drop (i + n)) = toksP (ns s)) := Lib.hid (by rw [← HQ.out, HDROP.out, toks_some _ _ hbl hnx, ← HDROP.out, List.drop_drop])
          have hin : i + n ≤ s.size := by
            have h3 : ((ns s).drop i).length = s.size - i := by rw [List.length_drop, ns_len]
            rw [HDROP.out] at h3; omega
          have HIN := Lib.hid hin
          have HPOS := Lib.hid hpos
          have hn0 : ((n : Int) == 0) = false := by rw [beq_eq_false_iff_ne]; omega
          have hn9 : (n : Int) ≤ 4096 := by have := HSZ.out; omega
          clear hbl hnx hpos hin
          go_upto_region 12 with (first | (go_at_call 33; refine HIB.out.mono ?_; rintro e w2 ⟨rfl, rfl⟩) | (go_at_call 34; refine HNX.out.mono ?_; rintro e w2 ⟨rfl, hb2⟩; have HB2 := Lib.hid hb2; clear hb2))
          obtain ⟨w4, hw4⟩ : ∃ w4, w4 = w2.alloc (.cells #[.int .i64 k, .string (bs t), .int .i64 v, .int .i64 i] 48) := ⟨_, rfl⟩
          rw [← hw4]
          have HB4 : Hid (Below wr.heap.size wr w4) := Lib.hid (bthen HB2.out (by rw [hw4]; exact below_alloc _ _))
          obtain ⟨bx, hbx⟩ : ∃ bx, bx = w2.heap.size := ⟨_, rfl⟩
          have z0 : w4.cell? ⟨bx, 0, none⟩ = some (.int .i64 k) := by rw [hw4, hbx]; simp
          have z1 : w4.cell? ⟨bx, 1, none⟩ = some (.string (bs t)) := by rw [hw4, hbx]; simp
          have z2 : w4.cell? ⟨bx, 2, none⟩ = some (.int .i64 v) := by rw [hw4, hbx]; simp
          have z3 : w4.cell? ⟨bx, 3, none⟩ = some (.int .i64 i) := by rw [hw4, hbx]; simp
          rw [← hbx]
          clear hw4 hbx
          have HSB : Hid (w.heap.size ≤ w4.heap.size) := Lib.hid (bthen HB.out HB4.out).size
          go_wp2_with (at_builtin; refine app_row_at (.tmp 35) (.tmp 37) ETok rfl rfl w.heap.size (.slice a N c) N (cellsT acc) rfl (Row.below HROW.out (bthen HB4.out (below_alloc _ _))) (some ⟨_, 0, none⟩) 1 1 [.int .i64 k, .string (bs t), .int .i64 v, .int .i64 i] rfl (RdG.lits _ 4 _ 1 [.int .i64 k, .string (bs t), .int .i64 v, .int .i64 i] rfl) (by simp [Value.oneCell']) (by have := HNI.out; have := HI.out; have := HSZ.out; omega) (by decide) (by have := HSB.out; simp; omega) ?_; intro a7 c7 w7 hr7 hg7 hat7; have HR7 := Lib.hid hr7; have HB7 : Hid (Below w.heap.size w w7) := Lib.hid ((bthen HB.out (bthen HB4.out (below_alloc _ _))).trans (Row.grown (Row.below HROW.out (bthen HB4.out (below_alloc _ _))) hg7 (by have := HSB.out; simp; omega))); clear hr7 hg7 hat7)
          refine ⟨⟨i + n, N + 1, acc ++ [((k, t, v), i)], a7, c7, by push_cast; rfl, HIN.out, rfl, by simp [HN.out], by have := HNI.out; have := HPOS.out.1; omega, HQ2.out, ?_, HB7.out⟩, ?_⟩
          · rw [cellsT_snoc]; exact HR7.out
          · have h1 := HPOS.out.1
            have h2 := HIN.out
            have e : ((i : Int) + (n : Int)) = ((i + n : Nat) : Int) := by push_cast; rfl
            simp only [intOf]
            omega
    · have hie : i = s.size := by omega
      subst hie
      have HE : Hid (toksP (ns s) = some acc) := Lib.hid (by rw [← hq, List.drop_of_length_le (by rw [ns_len]; omega), toks_nil])
      clear hi hN hNi hq hrow hb hlt
      go_wp2
      go_ret2
      have hN := HN.out
      subst hN
      exact ⟨.inr (.inr ⟨HSZ.out, acc, a, c, HE.out, by have := HNI.out; have := HSZ.out; omega, rfl, HROW.out⟩), HB.out⟩

end Go.Proofs.YtpabngicbfcdkaaDoor
