/-
  Text of a tree; what Text, Parent, Children and Path return of a node that does not exist; IDs of two lists of texts.
-/
import Derived.Test.YtjajlnhobchkgaaUPath
import Derived.Test.YtjajlnhobchkgaaUSt
namespace Go.Proofs.Ytjajlnhobchkgaa
open Go.RowKit
set_option linter.unusedVariables false
set_option linter.unusedSimpArgs false

theorem text_ok (S : Nat → Prop) (bt : Nat) (l : List Nd) (now : Int) (k : Nat) (w : World) (ht : TI w S bt l now) (x : Nd) (hx : l[k]? = some x) (hlen : l.length ≤ 1000) :
    Calls Try.prog 29 #[.pointer (some ⟨bt, 0, none⟩), .int .i64 k] w fun e w' => e = .returned (.tuple #[.int .i64 x.text, .nilIface]) ∧ w = w' := by
  obtain ⟨g, n, c, vs, hT, rfl, hSg, hSo⟩ := ht.ex
  have hk : k < vs.length := by have := (List.getElem?_eq_some_iff.1 hx).1; simpa using this
  obtain ⟨⟨v, nd⟩, hvx⟩ : ∃ y, vs[k]? = some y := ⟨_, List.getElem?_eq_getElem hk⟩
  obtain rfl : nd = x := by rw [List.getElem?_map, hvx] at hx; simpa using hx
  have hn : n = vs.length := hT.hn
  have hlen2 : vs.length ≤ 1000 := by simpa using hlen
  have hnn : (k : Int) < (n : Int) := by omega
  have hn9 : (n : Int) ≤ 1000 := by omega
  have HCHK := Lib.hid (check_ok bt g n c k w hT.c0 (by omega) (by omega) (by omega))
  have hne : ∀ w, (binOp .neq 28 .nilIface .nilIface).run Try.prog w = .ok (.bool false) w := fun w => by kernel_rfl
  have hc0 := hT.c0
  have hpa := (hT.node hvx).1
  simp only at hpa
  clear ht hT hx hvx hSg hSo hn hlen hk hlen2
  go_enter Try.func29, Try.ntmps29
  go_wp2_with fail
  refine HCHK.out.mono ?_
  rintro e w1 ⟨rfl, rfl⟩
  go_wp2
  go_ret2
  exact ⟨rfl, rfl⟩

theorem text_no (S : Nat → Prop) (bt : Nat) (l : List Nd) (now k : Int) (w : World) (ht : TI w S bt l now) (hl : 0 < l.length) (h0 : k < 0 ∨ (0 ≤ k ∧ (l.length : Int) ≤ k)) :
    Calls Try.prog 29 #[.pointer (some ⟨bt, 0, none⟩), .int .i64 k] w fun e w' => e = .returned (.tuple #[.int .i64 0, .iface 46 (.int .i64 1)]) ∧ w = w' := by
  obtain ⟨g, n, c, vs, hT, rfl, hSg, hSo⟩ := ht.ex
  have hn : n = vs.length := hT.hn
  rw [List.length_map] at hl h0
  have HCHK := Lib.hid (check_no bt g n c k w hT.c0 (by omega) (by rw [hn]; exact h0))
  have hne : ∀ w, (binOp .neq 28 (.iface 46 (.int .i64 1)) .nilIface).run Try.prog w = .ok (.bool true) w := fun w => by kernel_rfl
  clear ht hT hSg hSo hn hl h0
  go_enter Try.func29, Try.ntmps29
  go_wp2_with fail
  refine HCHK.out.mono ?_
  rintro e w1 ⟨rfl, rfl⟩
  go_wp2
  go_ret2
  exact ⟨rfl, rfl⟩

theorem parent_no (S : Nat → Prop) (bt : Nat) (l : List Nd) (now k : Int) (w : World) (ht : TI w S bt l now) (hl : 0 < l.length) (h0 : k < 0 ∨ (0 ≤ k ∧ (l.length : Int) ≤ k)) :
    Calls Try.prog 22 #[.pointer (some ⟨bt, 0, none⟩), .int .i64 k] w fun e w' => e = .returned (.tuple #[.int .i64 0, .iface 46 (.int .i64 1)]) ∧ w = w' := by
  obtain ⟨g, n, c, vs, hT, rfl, hSg, hSo⟩ := ht.ex
  have hn : n = vs.length := hT.hn
  rw [List.length_map] at hl h0
  have HCHK := Lib.hid (check_no bt g n c k w hT.c0 (by omega) (by rw [hn]; exact h0))
  have hne : ∀ w, (binOp .neq 28 (.iface 46 (.int .i64 1)) .nilIface).run Try.prog w = .ok (.bool true) w := fun w => by kernel_rfl
  clear ht hT hSg hSo hn hl h0
  go_enter Try.func22, Try.ntmps22
  go_wp2_with fail
  refine HCHK.out.mono ?_
  rintro e w1 ⟨rfl, rfl⟩
  go_wp2
  go_ret2
  exact ⟨rfl, rfl⟩

theorem children_no (S : Nat → Prop) (bt : Nat) (l : List Nd) (now k : Int) (w : World) (ht : TI w S bt l now) (hl : 0 < l.length) (h0 : k < 0 ∨ (0 ≤ k ∧ (l.length : Int) ≤ k)) :
    Calls Try.prog 24 #[.pointer (some ⟨bt, 0, none⟩), .int .i64 k] w fun e w' => e = .returned (.tuple #[.slice none 0 0, .iface 46 (.int .i64 1)]) ∧ w = w' := by
  obtain ⟨g, n, c, vs, hT, rfl, hSg, hSo⟩ := ht.ex
  have hn : n = vs.length := hT.hn
  rw [List.length_map] at hl h0
  have HCHK := Lib.hid (check_no bt g n c k w hT.c0 (by omega) (by rw [hn]; exact h0))
  have hne : ∀ w, (binOp .neq 28 (.iface 46 (.int .i64 1)) .nilIface).run Try.prog w = .ok (.bool true) w := fun w => by kernel_rfl
  clear ht hT hSg hSo hn hl h0
  go_enter Try.func24, Try.ntmps24
  go_wp2_with fail
  refine HCHK.out.mono ?_
  rintro e w1 ⟨rfl, rfl⟩
  go_wp2
  go_ret2
  exact ⟨rfl, rfl⟩

theorem path_no (S : Nat → Prop) (bt : Nat) (l : List Nd) (now k : Int) (w : World) (ht : TI w S bt l now) (hl : 0 < l.length) (h0 : k < 0 ∨ (0 ≤ k ∧ (l.length : Int) ≤ k)) :
    Calls Try.prog 23 #[.pointer (some ⟨bt, 0, none⟩), .int .i64 k] w fun e w' => e = .returned (.tuple #[.slice none 0 0, .iface 46 (.int .i64 1)]) ∧ w = w' := by
  obtain ⟨g, n, c, vs, hT, rfl, hSg, hSo⟩ := ht.ex
  have hn : n = vs.length := hT.hn
  rw [List.length_map] at hl h0
  have HCHK := Lib.hid (check_no bt g n c k w hT.c0 (by omega) (by rw [hn]; exact h0))
  have hne : ∀ w, (binOp .neq 28 (.iface 46 (.int .i64 1)) .nilIface).run Try.prog w = .ok (.bool true) w := fun w => by kernel_rfl
  clear ht hT hSg hSo hn hl h0
  go_enter Try.func23, Try.ntmps23
  go_wp2_with fail
  refine HCHK.out.mono ?_
  rintro e w1 ⟨rfl, rfl⟩
  go_wp2
  go_ret2
  exact ⟨rfl, rfl⟩

set_option maxHeartbeats 1000000 in
theorem ids_any (a a2 : Option Addr) (n n2 c c2 : Nat) (l l2 : List Int) (w : World) (hr : Rd w .i64 a n l) (hr2 : Rd w .i64 a2 n2 l2) :
    Calls Try.prog 47 #[.slice a n c, .slice a2 n2 c2] w fun e w' => e = .returned (.bool (decide (l = l2))) ∧ Below w.heap.size w w' := by
  have HR := Lib.hid hr
  have HR2 := Lib.hid hr2
  have hmx := hr.max
  have HL := Lib.hid hr.len
  have HL2 := Lib.hid hr2.len
  by_cases hn : n = n2
  · subst hn
    clear hr hr2
    go_enter Try.func47, Try.ntmps47
    go_wp2
    go_loopw [5] (fun iv wr => ∃ i : Nat, i ≤ n ∧ iv = .int .i64 i ∧ (∀ j, j < i → l.getD j 0 = l2.getD j 0) ∧ Below w.heap.size w wr) (fun iv _ => n - (intOf iv).toNat)
    case atStart => exact ⟨0, by omega, rfl, fun j hj => by omega, Below.refl _ _⟩
    case round =>
      obtain ⟨i, hi, rfl, heq, hbl⟩ := hrel
      have HEQ := Lib.hid heq
      have HBL := Lib.hid hbl
      clear heq hbl
      by_cases hlt : i < n
      · obtain ⟨b1, o1, rfl, h1⟩ := (HR.out.below HBL.out).cell i hlt
        obtain ⟨b2, o2, rfl, h2⟩ := (HR2.out.below HBL.out).cell i hlt
        have hi1 : (i : Int) < (n : Int) := by omega
        have hi0 : (0 : Int) ≤ (i : Int) := by omega
        by_cases hne : l.getD i 0 = l2.getD i 0
        · have HN := Lib.hid hne
          rw [hne] at h1
          clear hne
          generalize l2.getD i 0 = z at h1 h2
          go_wp2
          go_quiet (fail)
          go_wp2
          go_roundw
          case rel => exact ⟨i + 1, by omega, by go_num, fun j hj => (by
            by_cases hji : j < i
            · exact HEQ.out j hji
            · have : j = i := by omega
              subst this; exact HN.out), bdrewN HBL.out _⟩
          case measure => simp [intOf]; omega
        · have HE : Hid (decide (l = l2) = false) := Lib.hid (by simp; intro h; rw [h] at hne; exact hne rfl)
          generalize l.getD i 0 = y at *
          generalize l2.getD i 0 = z at *
          have hyz : (y != z) = true := by simpa using hne
          clear hne
          go_wp2
          go_quiet (fail)
          go_wp2
          go_ret
          exact ⟨ret_eq (by rw [HE.out]; rfl), bdrewN HBL.out _⟩
      · have HE : Hid (decide (l = l2) = true) := Lib.hid (by
          simp
          refine Classical.byContradiction fun hc => ?_
          obtain ⟨j, hj, hn⟩ := getD_ne (by rw [HL.out, HL2.out]) hc
          exact hn (HEQ.out j (by rw [HL.out] at hj; omega)))
        go_wp2
        go_ret
        exact ⟨ret_eq (by rw [HE.out]; rfl), HBL.out⟩
  · have HE : Hid (decide (l = l2) = false) := Lib.hid (by simp; intro h; rw [h, HL2.out] at HL; exact hn HL.out.symm)
    clear hr hr2
    go_enter Try.func47, Try.ntmps47
    go_wp2
    go_ret
    exact ⟨ret_eq (by rw [HE.out]; rfl), Below.refl _ _⟩

end Go.Proofs.Ytjajlnhobchkgaa
