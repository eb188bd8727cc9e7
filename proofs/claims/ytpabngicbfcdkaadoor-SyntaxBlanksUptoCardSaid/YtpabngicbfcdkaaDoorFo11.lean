/-
  Joined texts: The reference's Level, Valid, word, own, Well. · The reference's at, write and Format: the walks. · SyntaxFormats: the walk. · What the rows of the Door list: the table of powers of ten, as the walks read it; a world that holds what is listed. · what the bound of the second form gives (from the seat's own example). · fields of arguments, opened: a list of integers.
-/
import Derived.Test.YtpabngicbfcdkaaDoorFo4
import Derived.Test.YtpabngicbfcdkaaDoorFo10
import Derived.Test.YtpabngicbfcdkaaDoorFo9
import Derived.Test.YtpabngicbfcdkaaDoorFo8
import Derived.Deep.RegionHeld3
import Derived.Test.YtpabngicbfcdkaaDoorFo7
import Derived.Test.YtpabngicbfcdkaaDoorCards
import Derived.Test.YtpabngicbfcdkaaDoorTie
import Derived.Deep.DeepHandedRow
import Derived.Lib.LaidTab
import Derived.LaidMore
import Derived.LaidHandle
import Derived.Stop.LaidErr
import Derived.Test.YtpabngicbfcdkaaDoorRows
import Derived.Test.YtpabngicbfcdkaaDoorFo1
import Derived.Deep.Slices
import Derived.Lib.SmallJoins

/- The reference's Level, Valid, word, own, Well. -/
namespace Go.Proofs.YtpabngicbfcdkaaDoor
open Go.RowKit
set_option linter.unusedVariables false
set_option linter.unusedSimpArgs false

set_option maxRecDepth 100000 in
set_option maxHeartbeats 2000000 in
theorem rLev_any (s : ByteArray) (w : World) : Calls Tryd.prog 29 #[.string s] w fun e w' => e = .returned (.int .i64 (lvR (ns s) : Nat)) ∧ w = w' := by
  by_cases e0 : ns s = [111, 114]
  · have HV : Hid (lvR (ns s) = 1) := Lib.hid (by rw [e0]; rfl)
    have f0 : (s.toList == [111, 114]) = true := by rw [str_lit]; exact decide_eq_true e0
    clear e0
    go_enter Tryd.func29, Tryd.ntmps29
    go_wp2
    go_ret
    exact ⟨by rw [HV.out]; rfl, rfl⟩
  have f0 : (s.toList == [111, 114]) = false := by rw [str_lit]; exact decide_eq_false e0
  by_cases e1 : ns s = [97, 110, 100]
  · have HV : Hid (lvR (ns s) = 2) := Lib.hid (by rw [e1]; rfl)
    have f1 : (s.toList == [97, 110, 100]) = true := by rw [str_lit]; exact decide_eq_true e1
    clear e0 e1
    go_enter Tryd.func29, Tryd.ntmps29
    go_wp2
    go_ret
    exact ⟨by rw [HV.out]; rfl, rfl⟩
  have f1 : (s.toList == [97, 110, 100]) = false := by rw [str_lit]; exact decide_eq_false e1
  by_cases e2 : ns s = [61, 61]
  · have HV : Hid (lvR (ns s) = 4) := Lib.hid (by rw [e2]; rfl)
    have f2 : (s.toList == [61, 61]) = true := by rw [str_lit]; exact decide_eq_true e2
    clear e0 e1 e2
    go_enter Tryd.func29, Tryd.ntmps29
    go_wp2
    go_ret
    exact ⟨by rw [HV.out]; rfl, rfl⟩
  have f2 : (s.toList == [61, 61]) = false := by rw [str_lit]; exact decide_eq_false e2
  by_cases e3 : ns s = [33, 61]
  · have HV : Hid (lvR (ns s) = 4) := Lib.hid (by rw [e3]; rfl)
    have f3 : (s.toList == [33, 61]) = true := by rw [str_lit]; exact decide_eq_true e3
    clear e0 e1 e2 e3
    go_enter Tryd.func29, Tryd.ntmps29
    go_wp2
    go_ret
    exact ⟨by rw [HV.out]; rfl, rfl⟩
  have f3 : (s.toList == [33, 61]) = false := by rw [str_lit]; exact decide_eq_false e3
  by_cases e4 : ns s = [60]
  · have HV : Hid (lvR (ns s) = 4) := Lib.hid (by rw [e4]; rfl)
    have f4 : (s.toList == [60]) = true := by rw [str_lit]; exact decide_eq_true e4
    clear e0 e1 e2 e3 e4
    go_enter Tryd.func29, Tryd.ntmps29
    go_wp2
    go_ret
    exact ⟨by rw [HV.out]; rfl, rfl⟩
  have f4 : (s.toList == [60]) = false := by rw [str_lit]; exact decide_eq_false e4
  by_cases e5 : ns s = [60, 61]
  · have HV : Hid (lvR (ns s) = 4) := Lib.hid (by rw [e5]; rfl)
    have f5 : (s.toList == [60, 61]) = true := by rw [str_lit]; exact decide_eq_true e5
    clear e0 e1 e2 e3 e4 e5
    go_enter Tryd.func29, Tryd.ntmps29
    go_wp2
    go_ret
    exact ⟨by rw [HV.out]; rfl, rfl⟩
  have f5 : (s.toList == [60, 61]) = false := by rw [str_lit]; exact decide_eq_false e5
  by_cases e6 : ns s = [43, 43]
  · have HV : Hid (lvR (ns s) = 5) := Lib.hid (by rw [e6]; rfl)
    have f6 : (s.toList == [43, 43]) = true := by rw [str_lit]; exact decide_eq_true e6
    clear e0 e1 e2 e3 e4 e5 e6
    go_enter Tryd.func29, Tryd.ntmps29
    go_wp2
    go_ret
    exact ⟨by rw [HV.out]; rfl, rfl⟩
  have f6 : (s.toList == [43, 43]) = false := by rw [str_lit]; exact decide_eq_false e6
  by_cases e7 : ns s = [43]
  · have HV : Hid (lvR (ns s) = 6) := Lib.hid (by rw [e7]; rfl)
    have f7 : (s.toList == [43]) = true := by rw [str_lit]; exact decide_eq_true e7
    clear e0 e1 e2 e3 e4 e5 e6 e7
    go_enter Tryd.func29, Tryd.ntmps29
    go_wp2
    go_ret
    exact ⟨by rw [HV.out]; rfl, rfl⟩
  have f7 : (s.toList == [43]) = false := by rw [str_lit]; exact decide_eq_false e7
  by_cases e8 : ns s = [45]
  · have HV : Hid (lvR (ns s) = 6) := Lib.hid (by rw [e8]; rfl)
    have f8 : (s.toList == [45]) = true := by rw [str_lit]; exact decide_eq_true e8
    clear e0 e1 e2 e3 e4 e5 e6 e7 e8
    go_enter Tryd.func29, Tryd.ntmps29
    go_wp2
    go_ret
    exact ⟨by rw [HV.out]; rfl, rfl⟩
  have f8 : (s.toList == [45]) = false := by rw [str_lit]; exact decide_eq_false e8
  by_cases e9 : ns s = [42]
  · have HV : Hid (lvR (ns s) = 7) := Lib.hid (by rw [e9]; rfl)
    have f9 : (s.toList == [42]) = true := by rw [str_lit]; exact decide_eq_true e9
    clear e0 e1 e2 e3 e4 e5 e6 e7 e8 e9
    go_enter Tryd.func29, Tryd.ntmps29
    go_wp2
    go_ret
    exact ⟨by rw [HV.out]; rfl, rfl⟩
  have f9 : (s.toList == [42]) = false := by rw [str_lit]; exact decide_eq_false e9
  have HV : Hid (lvR (ns s) = 0) := Lib.hid (by unfold lvR; simp [e0, e1, e2, e3, e4, e5, e6, e7, e8, e9])
  clear e0 e1 e2 e3 e4 e5 e6 e7 e8 e9
  go_enter Tryd.func29, Tryd.ntmps29
  go_wp2
  go_ret
  exact ⟨by rw [HV.out]; rfl, rfl⟩

theorem rvalid_any (m : Int) (w : World) : Calls Tryd.prog 27 #[.int .i64 m] w fun e w' => e = .returned (.bool (decide (0 ≤ m) && decide (m ≤ 1152921504606846976))) ∧ w = w' := by
  by_cases h3 : 0 ≤ m
  · by_cases h4 : m ≤ 1152921504606846976
    · have g2 : decide (0 ≤ m) = true := decide_eq_true h3
      have g3 : decide (m ≤ 1152921504606846976) = true := decide_eq_true h4
      rw [g2, g3]
      go_enter Tryd.func27, Tryd.ntmps27
      go_wp2
      go_ret
      exact ⟨rfl, rfl⟩
    · have g2 : decide (0 ≤ m) = true := decide_eq_true h3
      have g3 : decide (m ≤ 1152921504606846976) = false := decide_eq_false h4
      rw [g2, g3]
      go_enter Tryd.func27, Tryd.ntmps27
      go_wp2
      go_ret
      exact ⟨rfl, rfl⟩
  · have g2 : decide (0 ≤ m) = false := decide_eq_false h3
    rw [g2]
    go_enter Tryd.func27, Tryd.ntmps27
    go_wp2
    go_ret
    exact ⟨rfl, rfl⟩

theorem all_take_succ {is : Nat → Bool} {l : List Nat} {k x : Nat} (h : l[k]? = some x) : (l.take (k + 1)).all is = ((l.take k).all is && is x) := by
  rw [take_snoc' h, List.all_append]; simp
theorem all_bad {is : Nat → Bool} {l : List Nat} {k x : Nat} (h : l[k]? = some x) (hx : is x = false) : l.all is = false := by
  cases hc : l.all is with
  | false => rfl
  | true => rw [List.all_eq_true] at hc; have := hc x (List.mem_of_getElem? h); rw [hx] at this; cases this

set_option maxRecDepth 100000 in
set_option maxHeartbeats 2000000 in
theorem rword_any (s : ByteArray) (hs : s.size ≤ 4000000000) (w : World) : Calls Tryd.prog 30 #[.string s] w fun e w' => e = .returned (.bool (!(ns s == []) && (ns s).all letB)) ∧ w = w' := by
  have HL := Lib.hid hs
  have HNL := Lib.hid (ns_len s)
  have HLT := Lib.hid (ns_lt s)
  clear hs
  go_enter Tryd.func30, Tryd.ntmps30
  go_wp2
  go_loopw [3] (fun kv wr => ∃ k : Nat, kv = .int .i64 k ∧ k ≤ s.size ∧ ((ns s).take k).all letB = true ∧ w = wr) (fun kv _ => s.size - (intOf kv).toNat)
  case atStart => exact ⟨0, rfl, by omega, by simp, rfl⟩
  case round =>
    obtain ⟨k, rfl, hk, hall, rfl⟩ := hrel
    have HA := Lib.hid hall
    have hkI : (k : Int) ≤ (s.size : Int) := by omega
    have hsI : (s.size : Int) ≤ 4000000000 := by have := HL.out; omega
    clear hall
    by_cases hks : k = s.size
    · subst hks
      have HF : Hid ((ns s).all letB = true) := Lib.hid (by have h := HA.out; rwa [List.take_of_length_le (by rw [HNL.out]; exact Nat.le_refl _)] at h)
      by_cases h1 : ns s = []
      · have HE : Hid ((!(ns s == []) && (ns s).all letB) = false) := Lib.hid (by rw [h1]; rfl)
        have g0 : (s.toList == []) = true := by rw [str_lit s []]; exact decide_eq_true h1
        have g1 : (s.toList != []) = false := by unfold bne; rw [g0]; rfl
        clear h1
        go_wp2
        go_ret
        exact ⟨by rw [HE.out]; rfl, rfl⟩
      · have HE : Hid ((!(ns s == []) && (ns s).all letB) = true) := Lib.hid (by rw [HF.out]; simp [h1])
        have g0 : (s.toList == []) = false := by rw [str_lit s []]; exact decide_eq_false h1
        have g1 : (s.toList != []) = true := by unfold bne; rw [g0]; rfl
        clear h1
        go_wp2
        go_ret
        exact ⟨by rw [HE.out]; rfl, rfl⟩
    · have hki : (k : Int) < (s.size : Int) := by omega
      have hkl : k < s.size := by omega
      have HG := Lib.hid (ns_get hkl)
      obtain ⟨x, hx⟩ : ∃ x, (s[k]'hkl).toNat = x := ⟨_, rfl⟩
      rw [hx] at HG
      have HKS := Lib.hid hkl
      by_cases h1 : x < 97
      · have g1 : decide ((x : Int) < 97) = true := decide_eq_true (by omega)
        have HE : Hid ((!(ns s == []) && (ns s).all letB) = false) := Lib.hid (by rw [all_bad HG.out (by simp [letB]; omega), Bool.and_false])
        clear h1 hks
        go_wp2
        go_ret
        exact ⟨by rw [HE.out]; rfl, rfl⟩
      · have g1 : decide ((x : Int) < 97) = false := decide_eq_false (by omega)
        by_cases h2 : 122 < x
        · have g2 : decide ((122 : Int) < (x : Int)) = true := decide_eq_true (by omega)
          have HE : Hid ((!(ns s == []) && (ns s).all letB) = false) := Lib.hid (by rw [all_bad HG.out (by simp [letB]; omega), Bool.and_false])
          clear h1 h2 hks
          go_wp2
          go_ret
          exact ⟨by rw [HE.out]; rfl, rfl⟩
        · have g2 : decide ((122 : Int) < (x : Int)) = false := decide_eq_false (by omega)
          have HN : Hid (((ns s).take (k + 1)).all letB = true) := Lib.hid (by rw [all_take_succ HG.out, HA.out]; simp [letB]; omega)
          clear h1 h2 hks
          go_wp2
          exact ⟨⟨k + 1, by go_num, HKS.out, HN.out, trivial⟩, by have := HKS.out; simp only [intOf]; omega⟩

set_option maxRecDepth 100000 in
set_option maxHeartbeats 2000000 in
theorem rown_any (t : Ex) (a : Option Addr) (c : Nat) (w : World) (hl : t.args.length ≤ 1000000000) : Calls Tryd.prog 48 #[exV t a c] w fun e w' => e = .returned (.int .i64 (own t : Nat)) ∧ Below w.heap.size w w' := by
  obtain ⟨n, hn⟩ : ∃ n, n = t.args.length := ⟨_, rfl⟩
  obtain ⟨w1, hw1⟩ : ∃ w1, w1 = w.alloc (.cells #[.int .i64 t.kind, .string t.text, .int .i64 t.num, .slice a n c] 25) := ⟨_, rfl⟩
  obtain ⟨g, hg⟩ : ∃ g, g = w.heap.size := ⟨_, rfl⟩
  have HB1 : Hid (Below w.heap.size w w1) := Lib.hid (by rw [hw1]; exact below_alloc _ _)
  have c0 : w1.cell? ⟨g, 0, none⟩ = some (.int .i64 t.kind) := by rw [hw1, hg]; simp
  have c1 : w1.cell? ⟨g, 1, none⟩ = some (.string t.text) := by rw [hw1, hg]; simp
  have c3 : w1.cell? ⟨g, 3, none⟩ = some (.slice a n c) := by rw [hw1, hg]; simp
  have HW1 := Lib.hid hw1
  have HGG := Lib.hid hg
  have hni : (n : Int) ≤ 1000000000 := by omega
  have HN := Lib.hid hn
  unfold exV
  rw [← hn]
  obtain ⟨v, hv⟩ : ∃ v, v = lvR (ns t.text) := ⟨_, rfl⟩
  have HO : Hid (∀ w, Calls Tryd.prog 29 #[.string t.text] w fun e w' => e = .returned (.int .i64 (v : Nat)) ∧ w = w') := Lib.hid (fun w => by rw [hv]; exact rLev_any t.text w)
  have hv7 : v ≤ 7 := by rw [hv]; exact (lvR_lt _).1
  have hv7i : (v : Int) ≤ 7 := by omega
  by_cases hk : t.kind = 4
  · have hkn : (t.kind != 4) = false := by rw [hk]; rfl
    by_cases h0 : 0 < v
    · have HE : Hid (own t = v) := Lib.hid (by unfold own; rw [if_neg (by omega), ← hv, if_pos h0])
      have h0i : (0 : Int) < (v : Int) := by omega
      rw [hk] at c0 HW1 ⊢
      clear hl hn hv hk h0 hw1 hg
      go_enter Tryd.func48, Tryd.ntmps48
      go_upto_region 1 with fail
      rw [← HW1.out, ← HGG.out]
      go_wp2_with (go_at_call 29; refine (HO.out _).mono ?_; rintro e w2 ⟨rfl, rfl⟩)
      go_ret
      exact ⟨by rw [HE.out]; rfl, HB1.out⟩
    · obtain rfl : v = 0 := by omega
      rw [hk] at c0 HW1 ⊢
      have s1 : (t.text.toList == [110, 111, 116]) = decide (ns t.text = wNot) := str_lit t.text [110, 111, 116]
      have s2 : (t.text.toList == [99, 117, 116]) = decide (ns t.text = wCut) := str_lit t.text [99, 117, 116]
      have HOWN : Hid (own t = if ns t.text = wNot then 3 else if ns t.text = wCut ∧ n = 3 then 8 else 9) := Lib.hid (by unfold own; rw [if_neg (by omega), ← hv, if_neg (by omega), hn])
      clear hl hn hv hk h0 hw1 hg
      by_cases h1 : ns t.text = wNot
      · have HE : Hid (own t = 3) := Lib.hid (by rw [HOWN.out, if_pos h1])
        rw [decide_eq_true h1] at s1
        clear h1 s2
        go_enter Tryd.func48, Tryd.ntmps48
        go_upto_region 1 with fail
        rw [← HW1.out, ← HGG.out]
        go_wp2_with (go_at_call 29; refine (HO.out _).mono ?_; rintro e w2 ⟨rfl, rfl⟩)
        go_ret
        exact ⟨by rw [HE.out]; rfl, HB1.out⟩
      · rw [decide_eq_false h1] at s1
        by_cases h2 : ns t.text = wCut
        · rw [decide_eq_true h2] at s2
          by_cases h3 : n = 3
          · have HE : Hid (own t = 8) := Lib.hid (by rw [HOWN.out, if_neg h1, if_pos ⟨h2, h3⟩])
            subst h3
            clear h1 h2
            go_enter Tryd.func48, Tryd.ntmps48
            go_upto_region 1 with fail
            rw [← HW1.out, ← HGG.out]
            go_wp2_with (go_at_call 29; refine (HO.out _).mono ?_; rintro e w2 ⟨rfl, rfl⟩)
            go_ret
            exact ⟨by rw [HE.out]; rfl, HB1.out⟩
          · have HE : Hid (own t = 9) := Lib.hid (by rw [HOWN.out, if_neg h1, if_neg (fun h => h3 h.2)])
            have h4 : ((n : Int) == 3) = false := by rw [beq_eq_false_iff_ne]; omega
            have h5 : (n == 3) = false := by rw [beq_eq_false_iff_ne]; exact h3
            have h6 : decide (n = 3) = false := decide_eq_false h3
            clear h1 h2 h3
            go_enter Tryd.func48, Tryd.ntmps48
            go_upto_region 1 with fail
            rw [← HW1.out, ← HGG.out]
            go_wp2_with (go_at_call 29; refine (HO.out _).mono ?_; rintro e w2 ⟨rfl, rfl⟩)
            go_ret
            exact ⟨by rw [HE.out]; rfl, HB1.out⟩
        · rw [decide_eq_false h2] at s2
          have HE : Hid (own t = 9) := Lib.hid (by rw [HOWN.out, if_neg h1, if_neg (fun h => h2 h.1)])
          clear h1 h2
          go_enter Tryd.func48, Tryd.ntmps48
          go_upto_region 1 with fail
          rw [← HW1.out, ← HGG.out]
          go_wp2_with (go_at_call 29; refine (HO.out _).mono ?_; rintro e w2 ⟨rfl, rfl⟩)
          go_ret
          exact ⟨by rw [HE.out]; rfl, HB1.out⟩
  · have HE : Hid (own t = 9) := Lib.hid (by unfold own; rw [if_pos hk])
    have hkn : (t.kind != 4) = true := by simpa [bne] using hk
    clear hl hn hv hk HO hw1 hg
    go_enter Tryd.func48, Tryd.ntmps48
    go_upto_region 1 with fail
    rw [← HW1.out, ← HGG.out]
    go_wp2
    go_ret
    exact ⟨by rw [HE.out]; rfl, HB1.out⟩

mutual
/-- well-formed, as a truth value -/
def wB : Ex → Bool
  | .mk k s n us => wellN (.mk k s n us) && wBs us
def wBs : List Ex → Bool
  | [] => true
  | t :: r => wB t && wBs r
end
mutual
theorem wB_iff : ∀ t : Ex, wB t = true ↔ t.all wellN
  | .mk k s n us => by
    have := wBs_iff us
    simp only [wB, Ex.all, Bool.and_eq_true, this]
theorem wBs_iff : ∀ us : List Ex, wBs us = true ↔ Ex.alls wellN us
  | [] => by simp [wBs, Ex.alls]
  | t :: r => by
    have h1 := wB_iff t
    have h2 := wBs_iff r
    simp only [wBs, Ex.alls, Bool.and_eq_true, h1, h2]
end
theorem wB_eq (t : Ex) : wB t = (wellN t && wBs t.args) := by cases t; rfl
theorem wBs_app : ∀ a b : List Ex, wBs (a ++ b) = (wBs a && wBs b)
  | [], b => by simp [wBs]
  | t :: r, b => by simp only [List.cons_append, wBs, wBs_app r b, Bool.and_assoc]
theorem wBs_bad : ∀ {us : List Ex} {i : Nat} {u : Ex}, us[i]? = some u → wB u = false → wBs us = false
  | x :: r, 0, u, h, hb => by simp at h; subst h; simp [wBs, hb]
  | x :: r, i + 1, u, h, hb => by simp [wBs, wBs_bad (us := r) (i := i) (by simpa using h) hb]

set_option maxRecDepth 100000 in
set_option maxHeartbeats 8000000 in
theorem rwell_any : ∀ (m : Nat) (T : Nat → Prop) (t : Ex) (a : Option Addr) (c : Nat) (w : World), t.size ≤ m → t.size ≤ 1000000 → t.all (fun u => decide (u.text.size ≤ 4000000000)) → RdA T w t.args a →
    Calls Tryd.prog 13 #[exV t a c] w fun e w' => e = .returned (.bool (wB t)) ∧ Below w.heap.size w w'
  | 0, _, t, _, _, _, h, _, _, _ => absurd t.size_pos (by omega)
  | m + 1, T, t, a, c, w, hm, hsz, htx, ha => by
    have IH := Lib.hid (rwell_any m)
    obtain ⟨n, hn⟩ : ∃ n, n = t.args.length := ⟨_, rfl⟩
    obtain ⟨k, hk⟩ : ∃ k, k = t.kind := ⟨_, rfl⟩
    obtain ⟨s, hs⟩ : ∃ s, s = t.text := ⟨_, rfl⟩
    obtain ⟨u, hu⟩ : ∃ u, u = t.num := ⟨_, rfl⟩
    obtain ⟨w1, hw1⟩ : ∃ w1, w1 = w.alloc (.cells #[.int .i64 k, .string s, .int .i64 u, .slice a n c] 25) := ⟨_, rfl⟩
    obtain ⟨g, hg⟩ : ∃ g, g = w.heap.size := ⟨_, rfl⟩
    have HB1 : Hid (Below w.heap.size w w1) := Lib.hid (by rw [hw1]; exact below_alloc _ _)
    have HC : Hid (∀ wx, Below w1.heap.size w1 wx → wx.cell? ⟨g, 0, none⟩ = some (.int .i64 k) ∧ wx.cell? ⟨g, 1, none⟩ = some (.string s) ∧ wx.cell? ⟨g, 2, none⟩ = some (.int .i64 u) ∧ wx.cell? ⟨g, 3, none⟩ = some (.slice a n c)) := Lib.hid (fun wx hb => by
      have c0 : w1.cell? ⟨g, 0, none⟩ = some (.int .i64 k) := by rw [hw1, hg]; simp
      have c1 : w1.cell? ⟨g, 1, none⟩ = some (.string s) := by rw [hw1, hg]; simp
      have c2 : w1.cell? ⟨g, 2, none⟩ = some (.int .i64 u) := by rw [hw1, hg]; simp
      have c3 : w1.cell? ⟨g, 3, none⟩ = some (.slice a n c) := by rw [hw1, hg]; simp
      exact ⟨below_cell hb c0, below_cell hb c1, below_cell hb c2, below_cell hb c3⟩)
    have HRA := Lib.hid (ha.below HB1.out)
    have HW1 := Lib.hid hw1
    have HGG := Lib.hid hg
    have HM := Lib.hid hm
    have HSZ := Lib.hid hsz
    have HTX := Lib.hid ((Ex.all_eq _ t).1 htx)
    have HN := Lib.hid hn
    have hni : (n : Int) ≤ 1000000 := by have h1 := Ex.sizes_len t.args; have h2 := t.size_eq; omega
    have hss : s.size ≤ 4000000000 := by have := HTX.out.1; rw [hs]; simpa using this
    have hsi : (s.size : Int) ≤ 4000000000 := by omega
    have HSS := Lib.hid hss
    obtain ⟨vb, hvb⟩ : ∃ vb, vb = (decide (0 ≤ u) && decide (u ≤ 1152921504606846976)) := ⟨_, rfl⟩
    have HW : Hid (wellN t = if k = 1 then ns s == [] && vb && n == 0 else if k = 2 then u == 0 && n == 0 else if k = 3 then (ns s).all refB && !(ns s == []) && u == 0 && n == 0 else if k = 4 then (if 0 < lvR (ns s) then u == 0 && n == 2 else if ns s = wNot then u == 0 && n == 1 else u == 0 && !(ns s == []) && (ns s).all letB) else false) := Lib.hid (by rw [hvb, ← Bool.and_assoc, hk, hs, hu, hn]; rfl)
    have s0 : (s.toList == []) = decide (ns s = []) := str_lit s []
    have HL : Hid (∀ w, Calls Tryd.prog 29 #[.string s] w fun e w' => e = .returned (.int .i64 (lvR (ns s) : Nat)) ∧ w = w') := Lib.hid (fun w => rLev_any s w)
    have HV : Hid (∀ w, Calls Tryd.prog 27 #[.int .i64 u] w fun e w' => e = .returned (.bool vb) ∧ w = w') := Lib.hid (fun w => by rw [hvb]; exact rvalid_any u w)
    have HWD : Hid (∀ w, Calls Tryd.prog 30 #[.string s] w fun e w' => e = .returned (.bool (!(ns s == []) && (ns s).all letB)) ∧ w = w') := Lib.hid (fun w => rword_any s hss w)
    unfold exV
    rw [← hn, ← hk, ← hs, ← hu]
    clear hm hsz htx ha hw1 hg hn hk hs hu hss hvb
    go_enter Tryd.func13, Tryd.ntmps13
    go_upto_region 1 with fail
    rw [← HW1.out, ← HGG.out]
    go_wp2
    go_loopw [3] (fun iv wr => ∃ i : Nat, iv = .int .i64 i ∧ i ≤ n ∧ wBs (t.args.take i) = true ∧ Below w1.heap.size w1 wr) (fun iv _ => n - (intOf iv).toNat)
    case atStart => exact ⟨0, rfl, by omega, by simp [wBs], Below.refl _ _⟩
    case round =>
      obtain ⟨i, rfl, hi, hall, hb⟩ := hrel
      obtain ⟨c0, c1, c2, c3⟩ := HC.out wr hb
      have HB := Lib.hid hb
      have HALL := Lib.hid hall
      have hiI : (i : Int) ≤ (n : Int) := by omega
      by_cases hlt : i < n
      · obtain ⟨v, hv⟩ : ∃ v, t.args[i]? = some v := ⟨_, List.getElem?_eq_getElem (by rw [← HN.out]; exact hlt)⟩
        obtain ⟨b, o, ka, kc, haa, x0, x1, x2, x3, hkc, hkr⟩ := (HRA.out.below hb).kid hv
        have husz := Ex.size_kid hv
        have HK := Lib.hid (IH.out T v ka kc wr (by have := t.size_eq; have := HM.out; omega) (by have := t.size_eq; have := HSZ.out; omega) (HTX.out.2 i v hv) hkr)
        have hii : (i : Int) < (n : Int) := by omega
        have HLT := Lib.hid hlt
        have HV' := Lib.hid hv
        subst haa
        unfold exV at HK
        clear hv hkr hkc husz hlt hi hb hall
        cases hq : wB v with
        | true =>
          rw [hq] at HK
          have HNX : Hid (wBs (t.args.take (i + 1)) = true) := Lib.hid (by rw [take_snoc' HV'.out, wBs_app, HALL.out]; simp [wBs, hq])
          clear hq
          go_wp2_with (go_at_call 13; refine HK.out.mono ?_; rintro e w5 ⟨rfl, hb5⟩; have HB5 := Lib.hid hb5; clear hb5)
          exact ⟨⟨i + 1, by go_num, HLT.out, HNX.out, bthen HB.out HB5.out⟩, by have := HLT.out; simp only [intOf]; omega⟩
        | false =>
          rw [hq] at HK
          have HE : Hid (wB t = false) := Lib.hid (by rw [wB_eq, wBs_bad HV'.out hq, Bool.and_false])
          clear hq
          go_wp2_with (go_at_call 13; refine HK.out.mono ?_; rintro e w5 ⟨rfl, hb5⟩; have HB5 := Lib.hid hb5; clear hb5)
          go_ret
          exact ⟨by rw [HE.out]; rfl, bthen HB1.out (bthen HB.out HB5.out)⟩
      · obtain rfl : i = n := by omega
        have HWT : Hid (wB t = wellN t) := Lib.hid (by
          have h := HALL.out
          rw [List.take_of_length_le (by rw [HN.out]; exact Nat.le_refl _)] at h
          rw [wB_eq, h, Bool.and_true])
        clear hlt hi hall hb
        by_cases k1 : k = 1
        · subst k1
          by_cases h1 : ns s = []
          rotate_left
          · have HE : Hid (wellN t = false) := Lib.hid (by rw [HW.out]; simp [h1])
            have g0 : (s.toList == []) = false := by rw [s0]; exact decide_eq_false h1
            go_wp2_with (go_at_call 27; refine (HV.out _).mono ?_; rintro e w2 ⟨rfl, rfl⟩)
            go_ret
            exact ⟨by rw [HWT.out, HE.out]; rfl, bthen HB1.out HB.out⟩
          by_cases h3 : vb = true
          rotate_left
          · have HE : Hid (wellN t = false) := Lib.hid (by rw [HW.out]; simp [h1, h3])
            have g0 : (s.toList == []) = true := by rw [s0]; exact decide_eq_true h1
            have g1 : vb = false := by simpa using h3
            go_wp2_with (go_at_call 27; refine (HV.out _).mono ?_; rintro e w2 ⟨rfl, rfl⟩)
            go_ret
            exact ⟨by rw [HWT.out, HE.out]; rfl, bthen HB1.out HB.out⟩
          by_cases h2 : i = 0
          rotate_left
          · have HE : Hid (wellN t = false) := Lib.hid (by rw [HW.out]; simp [h1, h3, h2])
            have g0 : (s.toList == []) = true := by rw [s0]; exact decide_eq_true h1
            have g1 : vb = true := h3
            have g2 : ((i : Int) == 0) = false := by rw [beq_eq_false_iff_ne]; omega
            go_wp2_with (go_at_call 27; refine (HV.out _).mono ?_; rintro e w2 ⟨rfl, rfl⟩)
            go_ret
            exact ⟨by rw [HWT.out, HE.out]; rfl, bthen HB1.out HB.out⟩
          have HE : Hid (wellN t = true) := Lib.hid (by rw [HW.out]; simp [h1, h3, h2])
          have g0 : (s.toList == []) = true := by rw [s0]; exact decide_eq_true h1
          have g1 : vb = true := h3
          have g2 : (i : Int) = 0 := by omega
          go_wp2_with (go_at_call 27; refine (HV.out _).mono ?_; rintro e w2 ⟨rfl, rfl⟩)
          go_ret
          exact ⟨by rw [HWT.out, HE.out]; rfl, bthen HB1.out HB.out⟩
        have q1 : (k == 1) = false := by rw [beq_eq_false_iff_ne]; exact k1
        by_cases k2 : k = 2
        · subst k2
          by_cases h5 : u = 0
          rotate_left
          · have HE : Hid (wellN t = false) := Lib.hid (by rw [HW.out]; simp [h5])
            have g0 : (u == 0) = false := by rw [beq_eq_false_iff_ne]; exact h5
            go_wp2
            go_ret
            exact ⟨by rw [HWT.out, HE.out]; rfl, bthen HB1.out HB.out⟩
          by_cases h2 : i = 0
          rotate_left
          · have HE : Hid (wellN t = false) := Lib.hid (by rw [HW.out]; simp [h5, h2])
            have g0 : (u == 0) = true := by simp [h5]
            have g1 : ((i : Int) == 0) = false := by rw [beq_eq_false_iff_ne]; omega
            go_wp2
            go_ret
            exact ⟨by rw [HWT.out, HE.out]; rfl, bthen HB1.out HB.out⟩
          have HE : Hid (wellN t = true) := Lib.hid (by rw [HW.out]; simp [h5, h2])
          have g0 : (u == 0) = true := by simp [h5]
          have g1 : (i : Int) = 0 := by omega
          go_wp2
          go_ret
          exact ⟨by rw [HWT.out, HE.out]; rfl, bthen HB1.out HB.out⟩
        have q2 : (k == 2) = false := by rw [beq_eq_false_iff_ne]; exact k2
        by_cases k3 : k = 3
        · subst k3
          have HNL := Lib.hid (ns_len s)
          have HLT := Lib.hid (ns_lt s)
          have HI := Lib.hid (rfl : i = i)
          clear k1 k2 q1 q2
          go_wp2
          go_loopw [4] (fun jv wx => ∃ j : Nat, jv = .int .i64 j ∧ j ≤ s.size ∧ ((ns s).take j).all refB = true ∧ wr = wx) (fun jv _ => s.size - (intOf jv).toNat)
          case atStart => exact ⟨0, rfl, by omega, by simp, rfl⟩
          case round =>
            obtain ⟨j, rfl, hj, hra, rfl⟩ := hrel
            have HRA2 := Lib.hid hra
            have hjI : (j : Int) ≤ (s.size : Int) := by omega
            clear hra
            by_cases hjs : j = s.size
            · subst hjs
              have HF : Hid ((ns s).all refB = true) := Lib.hid (by have h := HRA2.out; rwa [List.take_of_length_le (by rw [HNL.out]; exact Nat.le_refl _)] at h)
              by_cases h6 : ¬ ns s = []
              rotate_left
              · have HE : Hid (wellN t = false) := Lib.hid (by rw [HW.out]; simp [HF.out, h6]; try exact fun _ => Classical.not_not.1 h6)
                have g0 : (s.toList == []) = true := by rw [s0]; exact decide_eq_true (Classical.not_not.1 h6)
                have g1 : (s.toList != []) = false := by unfold bne; rw [s0, decide_eq_true (Classical.not_not.1 h6)]; rfl
                go_wp2
                go_ret
                exact ⟨by rw [HWT.out, HE.out]; rfl, bthen HB1.out HB.out⟩
              by_cases h5 : u = 0
              rotate_left
              · have HE : Hid (wellN t = false) := Lib.hid (by rw [HW.out]; simp [HF.out, h6, h5])
                have g0 : (s.toList == []) = false := by rw [s0]; exact decide_eq_false h6
                have g1 : (s.toList != []) = true := by unfold bne; rw [s0, decide_eq_false h6]; rfl
                have g2 : (u == 0) = false := by rw [beq_eq_false_iff_ne]; exact h5
                go_wp2
                go_ret
                exact ⟨by rw [HWT.out, HE.out]; rfl, bthen HB1.out HB.out⟩
              by_cases h2 : i = 0
              rotate_left
              · have HE : Hid (wellN t = false) := Lib.hid (by rw [HW.out]; simp [HF.out, h6, h5, h2])
                have g0 : (s.toList == []) = false := by rw [s0]; exact decide_eq_false h6
                have g1 : (s.toList != []) = true := by unfold bne; rw [s0, decide_eq_false h6]; rfl
                have g2 : (u == 0) = true := by simp [h5]
                have g3 : ((i : Int) == 0) = false := by rw [beq_eq_false_iff_ne]; omega
                go_wp2
                go_ret
                exact ⟨by rw [HWT.out, HE.out]; rfl, bthen HB1.out HB.out⟩
              have HE : Hid (wellN t = true) := Lib.hid (by rw [HW.out]; simp [HF.out, h6, h5, h2])
              have g0 : (s.toList == []) = false := by rw [s0]; exact decide_eq_false h6
              have g1 : (s.toList != []) = true := by unfold bne; rw [s0, decide_eq_false h6]; rfl
              have g2 : (u == 0) = true := by simp [h5]
              have g3 : (i : Int) = 0 := by omega
              go_wp2
              go_ret
              exact ⟨by rw [HWT.out, HE.out]; rfl, bthen HB1.out HB.out⟩
            · have hji : (j : Int) < (s.size : Int) := by omega
              have hjl : j < s.size := by omega
              have HG := Lib.hid (ns_get hjl)
              obtain ⟨x, hx⟩ : ∃ x, (s[j]'hjl).toNat = x := ⟨_, rfl⟩
              rw [hx] at HG
              have HX9 : Hid (x < 256) := Lib.hid (HLT.out x (List.mem_of_getElem? HG.out))
              have HJS := Lib.hid hjl
              have HRB := Lib.hid (fun w => refByte_any x HX9.out w)
              clear hjs
              cases hq : refB x with
              | true =>
                rw [hq] at HRB
                have HN2 : Hid (((ns s).take (j + 1)).all refB = true) := Lib.hid (by rw [all_take_succ HG.out, HRA2.out, hq]; rfl)
                clear hq
                go_wp2_with (go_at_call 28; refine (HRB.out _).mono ?_; rintro e w5 ⟨rfl, rfl⟩)
                exact ⟨⟨j + 1, by go_num, HJS.out, HN2.out, trivial⟩, by have := HJS.out; simp only [intOf]; omega⟩
              | false =>
                rw [hq] at HRB
                have HE : Hid (wellN t = false) := Lib.hid (by rw [HW.out]; simp [all_bad HG.out hq])
                clear hq
                go_wp2_with (go_at_call 28; refine (HRB.out _).mono ?_; rintro e w5 ⟨rfl, rfl⟩)
                go_ret
                exact ⟨by rw [HWT.out, HE.out]; rfl, bthen HB1.out HB.out⟩
        have q3 : (k == 3) = false := by rw [beq_eq_false_iff_ne]; exact k3
        by_cases k4 : k = 4
        · subst k4
          clear k1 k2 k3 q1 q2 q3
          obtain ⟨v, hv⟩ : ∃ v, v = lvR (ns s) := ⟨_, rfl⟩
          have hv7 : v ≤ 7 := by rw [hv]; exact (lvR_lt _).1
          have hv7i : (v : Int) ≤ 7 := by omega
          have HW4 : Hid (wellN t = if 0 < v then u == 0 && i == 2 else if ns s = wNot then u == 0 && i == 1 else u == 0 && !(ns s == []) && (ns s).all letB) := Lib.hid (by rw [HW.out, hv]; rfl)
          rw [← hv] at HL
          clear hv HW
          by_cases h0 : 0 < v
          · have h0i : (0 : Int) < (v : Int) := by omega
            have HW : Hid (wellN t = (u == 0 && i == 2)) := Lib.hid (by rw [HW4.out, if_pos h0])
            clear h0
            by_cases h5 : u = 0
            rotate_left
            · have HE : Hid (wellN t = false) := Lib.hid (by rw [HW.out]; simp [h5])
              have g0 : (u == 0) = false := by rw [beq_eq_false_iff_ne]; exact h5
              go_wp2_with (first | (go_at_call 29; refine (HL.out _).mono ?_; rintro e w2 ⟨rfl, rfl⟩) | (go_at_call 30; refine (HWD.out _).mono ?_; rintro e w3 ⟨rfl, rfl⟩))
              go_ret
              exact ⟨by rw [HWT.out, HE.out]; rfl, bthen HB1.out HB.out⟩
            by_cases h2 : i = 2
            rotate_left
            · have HE : Hid (wellN t = false) := Lib.hid (by rw [HW.out]; simp [h5, h2])
              have g0 : (u == 0) = true := by simp [h5]
              have g1 : ((i : Int) == 2) = false := by rw [beq_eq_false_iff_ne]; omega
              go_wp2_with (first | (go_at_call 29; refine (HL.out _).mono ?_; rintro e w2 ⟨rfl, rfl⟩) | (go_at_call 30; refine (HWD.out _).mono ?_; rintro e w3 ⟨rfl, rfl⟩))
              go_ret
              exact ⟨by rw [HWT.out, HE.out]; rfl, bthen HB1.out HB.out⟩
            have HE : Hid (wellN t = true) := Lib.hid (by rw [HW.out]; simp [h5, h2])
            have g0 : (u == 0) = true := by simp [h5]
            have g1 : (i : Int) = 2 := by omega
            go_wp2_with (first | (go_at_call 29; refine (HL.out _).mono ?_; rintro e w2 ⟨rfl, rfl⟩) | (go_at_call 30; refine (HWD.out _).mono ?_; rintro e w3 ⟨rfl, rfl⟩))
            go_ret
            exact ⟨by rw [HWT.out, HE.out]; rfl, bthen HB1.out HB.out⟩
          obtain rfl : v = 0 := by omega
          have s1 : (s.toList == [110, 111, 116]) = decide (ns s = wNot) := str_lit s [110, 111, 116]
          by_cases h1 : ns s = wNot
          · have HW : Hid (wellN t = (u == 0 && i == 1)) := Lib.hid (by rw [HW4.out, if_neg h0, if_pos h1])
            rw [decide_eq_true h1] at s1
            clear h0 h1
            by_cases h5 : u = 0
            rotate_left
            · have HE : Hid (wellN t = false) := Lib.hid (by rw [HW.out]; simp [h5])
              have g0 : (u == 0) = false := by rw [beq_eq_false_iff_ne]; exact h5
              go_wp2_with (first | (go_at_call 29; refine (HL.out _).mono ?_; rintro e w2 ⟨rfl, rfl⟩) | (go_at_call 30; refine (HWD.out _).mono ?_; rintro e w3 ⟨rfl, rfl⟩))
              go_ret
              exact ⟨by rw [HWT.out, HE.out]; rfl, bthen HB1.out HB.out⟩
            by_cases h2 : i = 1
            rotate_left
            · have HE : Hid (wellN t = false) := Lib.hid (by rw [HW.out]; simp [h5, h2])
              have g0 : (u == 0) = true := by simp [h5]
              have g1 : ((i : Int) == 1) = false := by rw [beq_eq_false_iff_ne]; omega
              go_wp2_with (first | (go_at_call 29; refine (HL.out _).mono ?_; rintro e w2 ⟨rfl, rfl⟩) | (go_at_call 30; refine (HWD.out _).mono ?_; rintro e w3 ⟨rfl, rfl⟩))
              go_ret
              exact ⟨by rw [HWT.out, HE.out]; rfl, bthen HB1.out HB.out⟩
            have HE : Hid (wellN t = true) := Lib.hid (by rw [HW.out]; simp [h5, h2])
            have g0 : (u == 0) = true := by simp [h5]
            have g1 : (i : Int) = 1 := by omega
            go_wp2_with (first | (go_at_call 29; refine (HL.out _).mono ?_; rintro e w2 ⟨rfl, rfl⟩) | (go_at_call 30; refine (HWD.out _).mono ?_; rintro e w3 ⟨rfl, rfl⟩))
            go_ret
            exact ⟨by rw [HWT.out, HE.out]; rfl, bthen HB1.out HB.out⟩
          rw [decide_eq_false h1] at s1
          obtain ⟨b, hb⟩ : ∃ b, b = (!(ns s == []) && (ns s).all letB) := ⟨_, rfl⟩
          have HW : Hid (wellN t = (u == 0 && b)) := Lib.hid (by rw [HW4.out, if_neg h0, if_neg h1, hb, Bool.and_assoc])
          rw [← hb] at HWD
          clear h0 h1 hb
          by_cases h5 : u = 0
          · have g0 : (u == 0) = true := by simp [h5]
            have HE : Hid (wellN t = b) := Lib.hid (by rw [HW.out]; simp [h5])
            clear h5
            go_wp2_with (first | (go_at_call 29; refine (HL.out _).mono ?_; rintro e w2 ⟨rfl, rfl⟩) | (go_at_call 30; refine (HWD.out _).mono ?_; rintro e w3 ⟨rfl, rfl⟩))
            go_ret
            exact ⟨by rw [HWT.out, HE.out]; try rfl, bthen HB1.out HB.out⟩
          · have g0 : (u == 0) = false := by rw [beq_eq_false_iff_ne]; exact h5
            have HE : Hid (wellN t = false) := Lib.hid (by rw [HW.out]; simp [h5])
            clear h5
            go_wp2_with (first | (go_at_call 29; refine (HL.out _).mono ?_; rintro e w2 ⟨rfl, rfl⟩) | (go_at_call 30; refine (HWD.out _).mono ?_; rintro e w3 ⟨rfl, rfl⟩))
            go_ret
            exact ⟨by rw [HWT.out, HE.out]; try rfl, bthen HB1.out HB.out⟩
        have q4 : (k == 4) = false := by rw [beq_eq_false_iff_ne]; exact k4
        have HE : Hid (wellN t = false) := Lib.hid (by rw [HW.out, if_neg k1, if_neg k2, if_neg k3, if_neg k4])
        clear k1 k2 k3 k4
        go_wp2
        go_ret
        exact ⟨by rw [HWT.out, HE.out]; rfl, bthen HB1.out HB.out⟩

end Go.Proofs.YtpabngicbfcdkaaDoor

/- The reference's at, write and Format: the walks. -/
namespace Go.Proofs.YtpabngicbfcdkaaDoor
open Go.RowKit
set_option linter.unusedVariables false
set_option linter.unusedSimpArgs false

/-- how long a formatted text is at most -/
theorem br_len (n : Nat) (u : Ex) : (txI (br n (own u, wI u))).length ≤ (txI (wI u)).length + 2 := by
  unfold br
  split
  · show (txI ([sgT [40]] ++ (wI u ++ [sgT [41]]))).length ≤ _
    rw [txI_app, txI_app, xI_sg, xI_sg]; simp
  · simp only; omega
theorem join_len : ∀ us : List Ex, (∀ u ∈ us, (txI (wI u)).length ≤ wt u) → (txI (joinI (wIs us))).length ≤ wts us
  | [], _ => Nat.zero_le _
  | [u], h => by have := h u (by simp); simp only [wIs, joinI, wts]; omega
  | u :: v :: us, h => by
    have ih := join_len (v :: us) (fun w hw => h w (List.mem_cons_of_mem _ hw))
    have := h u (by simp)
    simp only [wIs, joinI, txI_app, List.length_append] at ih ⊢
    rw [wts]
    have : (txI [sgT [44], none]).length = 2 := rfl
    omega
theorem quC_len (c : Nat) : (quC c).length ≤ 4 := by
  unfold quC
  repeat' split
  all_goals simp
theorem flat_len : ∀ l : List Nat, (l.flatMap quC).length ≤ 4 * l.length
  | [] => by simp
  | c :: r => by
    have := flat_len r
    have := quC_len c
    rw [List.flatMap_cons, List.length_append, List.length_cons]; omega
theorem lvlO_len {v : Nat} {l : List Nat} (hv : 1 ≤ v ∧ v ≤ 7 ∧ v ≠ 3) (hl : l ∈ lvlO v) : l.length ≤ 3 := by
  have : ∀ v : Fin 8, ∀ l ∈ lvlO v.1, l.length ≤ 3 := by decide
  exact this ⟨v, by omega⟩ l hl
theorem tx_len : ∀ (m : Nat) (t : Ex), t.size ≤ m → Well t → (txI (wI t)).length ≤ wt t
  | 0, t, h, _ => absurd t.size_pos (by omega)
  | m + 1, t, hm, hw => by
    have ih : ∀ u ∈ t.args, (txI (wI u)).length ≤ wt u := fun u hu => tx_len m u (by have := kid_lt hu; omega) (hw.kid hu)
    rcases look hw with ⟨n, rfl, hn⟩ | ⟨l, rfl, h8⟩ | ⟨l, rfl, h8, hl⟩ | ⟨v, l, a, b, rfl, hv, hl⟩ | ⟨a, rfl⟩ | ⟨a, b, c, rfl⟩ | ⟨l, us, rfl, hn, hl⟩
    · have e : txI (wI (.mk 1 (bs []) (n : Int) [])) = decP n := by
        show txI (comb 1 (ns (bs [])) (n : Int) []) = _
        unfold comb
        rw [if_pos rfl]; simp [txI, xI, tb]
      have := decP_len 20 n (by decide) (by omega)
      rw [e, wt_eq]; omega
    · have e : txI (wI (.mk 2 (bs l) 0 [])) = quX l := by
        show txI (comb 2 (ns (bs l)) 0 []) = _
        unfold comb
        rw [if_neg (by decide), if_pos rfl, ns_bs' h8]; simp [txI, xI, tb]
      have := flat_len l
      have h2 : (bs l).size = l.length := bs_sz h8
      rw [e, wt_eq]; simp only [Ex.text, h2, quX, List.length_cons, List.length_append, List.length_nil]; omega
    · have e : txI (wI (.mk 3 (bs l) 0 [])) = 64 :: l := by
        show txI (comb 3 (ns (bs l)) 0 []) = _
        unfold comb
        rw [if_neg (by decide), if_neg (by decide), if_pos rfl, ns_bs' h8]; simp [txI, xI, tb]
      have h2 : (bs l).size = l.length := bs_sz h8
      rw [e, wt_eq]; simp only [Ex.text, h2, List.length_cons]; omega
    · have ha := ih a (by simp [callE, Ex.args])
      have hb := ih b (by simp [callE, Ex.args])
      have h1 := br_len (lftL v) a
      have h2 := br_len (v + 1) b
      have h3 := lvlO_len hv hl
      rw [(own_bin hv hl).2, txI_app, txI_app, xI_op hv, wt_eq]
      simp only [callE, Ex.args, wts, List.length_append, List.length_cons, List.length_nil] at *; omega
    · have ha := ih a (by simp [callE, Ex.args])
      have h1 := br_len 3 a
      rw [(own_neg a).2, txI_app, wt_eq]
      have h2 : (txI [some (4, wNot, 0), none]).length = 4 := rfl
      simp only [callE, Ex.args, wts, List.length_append] at *; omega
    · have ha := ih a (by simp [callE, Ex.args])
      have hb := ih b (by simp [callE, Ex.args])
      have hc := ih c (by simp [callE, Ex.args])
      have h1 := br_len 8 a
      rw [(own_cut a b c).2, wt_eq]
      simp only [txI_app, xI_sg]
      simp only [callE, Ex.args, wts, List.length_append, List.length_cons, List.length_nil] at *; omega
    · have hj := join_len us (fun u hu => ih u (by simpa [callE, Ex.args] using hu))
      rw [(own_app hn hl).2, txI_app, txI_app, wt_eq]
      have h2 : (txI [some (4, l, 0), sgT [40]]).length = l.length + 1 := by simp [txI, xI, tb, sgT]
      have h3 : (bs l).size = l.length := bs_sz (isNm_8 hn)
      rw [xI_sg]
      simp only [callE, Ex.args, Ex.text, List.length_append, List.length_cons, List.length_nil] at *; omega
theorem txb8 {u : Ex} (hw : Well u) (lv : Nat) : ∀ c ∈ txI (br lv (own u, wI u)), c < 256 := txI8 _ (OkI_br (OkI_w u.size u (Nat.le_refl _) hw))
theorem tx8 {u : Ex} (hw : Well u) : ∀ c ∈ txI (wI u), c < 256 := txI8 _ (OkI_w u.size u (Nat.le_refl _) hw)
theorem txb_sz {u : Ex} (hw : Well u) (lv : Nat) : (bs (txI (br lv (own u, wI u)))).size ≤ wt u + 2 := by
  rw [bs_sz (txb8 hw lv)]
  have := br_len lv u
  have := tx_len u.size u (Nat.le_refl _) hw
  omega
theorem tx_sz {u : Ex} (hw : Well u) : (bs (txI (wI u))).size ≤ wt u := by
  rw [bs_sz (tx8 hw)]
  exact tx_len u.size u (Nat.le_refl _) hw

/-- write and at, at one tree -/
def RWr (u : Ex) : Prop := ∀ (T : Nat → Prop) (ka : Option Addr) (kc : Nat) (w : World), RdA T w u.args ka →
  Calls Tryd.prog 26 #[exV u ka kc] w fun e w' => e = .returned (.string (bs (txI (wI u)))) ∧ Below w.heap.size w w'
def RAt (u : Ex) : Prop := ∀ (T : Nat → Prop) (ka : Option Addr) (kc : Nat) (lv : Nat) (i : Int) (w : World), i = (lv : Int) → RdA T w u.args ka →
  Calls Tryd.prog 49 #[exV u ka kc, .int .i64 i] w fun e w' => e = .returned (.string (bs (txI (br lv (own u, wI u))))) ∧ Below w.heap.size w w'

set_option maxRecDepth 100000 in
set_option maxHeartbeats 2000000 in
theorem rat_of (u : Ex) (hw : Well u) (hwt : wt u ≤ 4000000000) (HW0 : RWr u) : RAt u := by
  intro T ka kc lv iv w hiv hra
  subst hiv
  have hal : u.args.length ≤ 1000000000 := by have := wts_len u.args; have := wt_eq u; omega
  obtain ⟨n, hn⟩ : ∃ n, n = u.args.length := ⟨_, rfl⟩
  obtain ⟨w1, hw1⟩ : ∃ w1, w1 = w.alloc (.cells #[.int .i64 u.kind, .string u.text, .int .i64 u.num, .slice ka n kc] 25) := ⟨_, rfl⟩
  obtain ⟨g, hg⟩ : ∃ g, g = w.heap.size := ⟨_, rfl⟩
  have HB1 : Hid (Below w.heap.size w w1) := Lib.hid (by rw [hw1]; exact below_alloc _ _)
  have HCL : Hid (∀ wx, Below w1.heap.size w1 wx → wx.cell? ⟨g, 0, none⟩ = some (.int .i64 u.kind) ∧ wx.cell? ⟨g, 1, none⟩ = some (.string u.text) ∧ wx.cell? ⟨g, 2, none⟩ = some (.int .i64 u.num) ∧ wx.cell? ⟨g, 3, none⟩ = some (.slice ka n kc)) := Lib.hid (fun wx hb => by
    have c0 : w1.cell? ⟨g, 0, none⟩ = some (.int .i64 u.kind) := by rw [hw1, hg]; simp
    have c1 : w1.cell? ⟨g, 1, none⟩ = some (.string u.text) := by rw [hw1, hg]; simp
    have c2 : w1.cell? ⟨g, 2, none⟩ = some (.int .i64 u.num) := by rw [hw1, hg]; simp
    have c3 : w1.cell? ⟨g, 3, none⟩ = some (.slice ka n kc) := by rw [hw1, hg]; simp
    exact ⟨below_cell hb c0, below_cell hb c1, below_cell hb c2, below_cell hb c3⟩)
  have HRA := Lib.hid (hra.below HB1.out)
  obtain ⟨o, ho⟩ : ∃ o, o = own u := ⟨_, rfl⟩
  obtain ⟨S, hS⟩ : ∃ S, S = bs (txI (wI u)) := ⟨_, rfl⟩
  have HO : Hid (∀ w, Calls Tryd.prog 48 #[.agg #[.int .i64 u.kind, .string u.text, .int .i64 u.num, .slice ka n kc]] w fun e w' => e = .returned (.int .i64 (o : Nat)) ∧ Below w.heap.size w w') := Lib.hid (fun w => by rw [ho, hn]; exact rown_any u ka kc w hal)
  have HWR : Hid (∀ wx, Below w1.heap.size w1 wx → Calls Tryd.prog 26 #[.agg #[.int .i64 u.kind, .string u.text, .int .i64 u.num, .slice ka n kc]] wx fun e w' => e = .returned (.string S) ∧ Below wx.heap.size wx w') := Lib.hid (fun wx hb => by rw [hS, hn]; exact HW0 T ka kc wx (HRA.out.below hb))
  have hss : S.size ≤ 4000000000 := by rw [hS]; have := tx_sz hw; omega
  have HW1 := Lib.hid hw1
  have HGG := Lib.hid hg
  unfold exV
  rw [← hn]
  obtain ⟨y0, y1, y2, y3⟩ := HCL.out w1 (Below.refl _ _)
  by_cases hlt : o < lv
  · have hi : (o : Int) < (lv : Int) := by omega
    have HF : Hid (⟨#[40]⟩ ++ S ++ ⟨#[41]⟩ = bs (txI (br lv (own u, wI u)))) := Lib.hid (by
      have e : txI (br lv (own u, wI u)) = [40] ++ txI (wI u) ++ [41] := by
        unfold br; rw [if_pos (by simp only; omega)]
        show txI ([sgT [40]] ++ (wI u ++ [sgT [41]])) = _
        rw [txI_app, txI_app, xI_sg, xI_sg, List.append_assoc]
      rw [e, hS, ← bs_app (by intro c hc; rcases List.mem_append.1 hc with h | h; (simp at h; omega); exact tx8 hw c h) (by decide), ← bs_app (by decide) (tx8 hw)]
      rfl)
    have hz1 : ¬ 9223372036854775807 < 1 + S.size := by omega
    have hz2 : ¬ 9223372036854775807 < 1 + S.size + 1 := by omega
    clear hal hn hw1 hg hra ho hS hss hlt hw hwt HW0
    go_enter Tryd.func49, Tryd.ntmps49
    go_upto_region 1 with fail
    rw [← HW1.out, ← HGG.out]
    go_wp2_with (first
      | (go_at_call 26; refine (HWR.out _ HB2.out).mono ?_; rintro e w3 ⟨rfl, hb3⟩; have HB3 := Lib.hid hb3; clear hb3)
      | (go_at_call 48; refine (HO.out _).mono ?_; rintro e w2 ⟨rfl, hb2⟩; have HB2 : Hid (Below w1.heap.size w1 w2) := Lib.hid hb2; clear hb2 y0 y1 y2 y3; obtain ⟨y0, y1, y2, y3⟩ := HCL.out w2 HB2.out))
    go_ret
    exact ⟨by rw [← HF.out]; rfl, bthen (bthen HB1.out HB2.out) HB3.out⟩
  · have hi : decide ((o : Int) < (lv : Int)) = false := decide_eq_false (by omega)
    have hi2 : decide (o < lv) = false := decide_eq_false hlt
    have HF : Hid (S = bs (txI (br lv (own u, wI u)))) := Lib.hid (by
      unfold br; rw [if_neg (by simp only; omega)]; exact hS)
    clear hal hn hw1 hg hra ho hS hss hlt hw hwt HW0
    go_enter Tryd.func49, Tryd.ntmps49
    go_upto_region 1 with fail
    rw [← HW1.out, ← HGG.out]
    go_wp2_with (first
      | (go_at_call 26; refine (HWR.out _ HB2.out).mono ?_; rintro e w3 ⟨rfl, hb3⟩; have HB3 := Lib.hid hb3; clear hb3)
      | (go_at_call 48; refine (HO.out _).mono ?_; rintro e w2 ⟨rfl, hb2⟩; have HB2 : Hid (Below w1.heap.size w1 w2) := Lib.hid hb2; clear hb2 y0 y1 y2 y3; obtain ⟨y0, y1, y2, y3⟩ := HCL.out w2 HB2.out))
    go_ret
    exact ⟨by rw [← HF.out]; rfl, bthen (bthen HB1.out HB2.out) HB3.out⟩

/-- the box, the cells of the tree and of its arguments, in every later world -/
structure WC (w : World) (t : Ex) (ka : Option Addr) (kc : Nat) (g : Nat) (w1 : World) : Prop where
  hw1 : w1 = w.alloc (.cells #[.int .i64 t.kind, .string t.text, .int .i64 t.num, .slice ka t.args.length kc] 25)
  hg : g = w.heap.size
theorem WC.b1 {w t ka kc g w1} (h : WC w t ka kc g w1) : Below w.heap.size w w1 := by rw [h.hw1]; exact below_alloc _ _
theorem WC.cl {w t ka kc g w1} (h : WC w t ka kc g w1) {wx : World} (hb : Below w1.heap.size w1 wx) : wx.cell? ⟨g, 0, none⟩ = some (.int .i64 t.kind) ∧ wx.cell? ⟨g, 1, none⟩ = some (.string t.text) ∧ wx.cell? ⟨g, 2, none⟩ = some (.int .i64 t.num) ∧ wx.cell? ⟨g, 3, none⟩ = some (.slice ka t.args.length kc) := by
  have c0 : w1.cell? ⟨g, 0, none⟩ = some (.int .i64 t.kind) := by rw [h.hw1, h.hg]; simp
  have c1 : w1.cell? ⟨g, 1, none⟩ = some (.string t.text) := by rw [h.hw1, h.hg]; simp
  have c2 : w1.cell? ⟨g, 2, none⟩ = some (.int .i64 t.num) := by rw [h.hw1, h.hg]; simp
  have c3 : w1.cell? ⟨g, 3, none⟩ = some (.slice ka t.args.length kc) := by rw [h.hw1, h.hg]; simp
  exact ⟨below_cell hb c0, below_cell hb c1, below_cell hb c2, below_cell hb c3⟩

set_option maxRecDepth 100000 in
set_option maxHeartbeats 2000000 in
/-- write at a leaf -/
theorem rwr_leaf (t : Ex) (hw : Well t) (hwt : wt t ≤ 4000000000) (hk4 : t.kind ≠ 4) : RWr t := by
  intro T ka kc w hra
  obtain ⟨w1, hw1⟩ : ∃ w1, w1 = w.alloc (.cells #[.int .i64 t.kind, .string t.text, .int .i64 t.num, .slice ka t.args.length kc] 25) := ⟨_, rfl⟩
  obtain ⟨g, hg⟩ : ∃ g, g = w.heap.size := ⟨_, rfl⟩
  have HC : Hid (WC w t ka kc g w1) := Lib.hid ⟨hw1, hg⟩
  have HB1 := Lib.hid HC.out.b1
  have HW1 := Lib.hid hw1
  have HGG := Lib.hid hg
  clear hra hw1 hg
  rcases look hw with ⟨n, rfl, hn⟩ | ⟨x, rfl, h8⟩ | ⟨x, rfl, h8, hl⟩ | ⟨v, x, a, b, rfl, hv, hl⟩ | ⟨a, rfl⟩ | ⟨a, b, c, rfl⟩ | ⟨x, us, rfl, hn, hl⟩
  · have HX : Hid (txI (wI (.mk 1 (bs []) (n : Int) [])) = decP n) := Lib.hid (by
      show txI (comb 1 (ns (bs [])) (n : Int) []) = _
      unfold comb
      rw [if_pos rfl]; simp [txI, xI, tb])
    have HD := Lib.hid (rdec_any n n (Nat.le_refl _) hn)
    obtain ⟨y0, y1, y2, y3⟩ := HC.out.cl (Below.refl _ _)
    have y0' : w1.cell? ⟨g, 0, none⟩ = some (.int .i64 1) := y0
    have y2' : w1.cell? ⟨g, 2, none⟩ = some (.int .i64 (n : Int)) := y2
    clear hw hwt hk4 hn y0 y1 y2 y3
    unfold exV
    go_enter Tryd.func26, Tryd.ntmps26
    go_upto_region 1 with fail
    rw [← HW1.out, ← HGG.out]
    go_wp2_with (go_at_call 46; refine (HD.out _).mono ?_; rintro e w2 ⟨rfl, rfl⟩)
    go_ret
    exact ⟨by rw [HX.out]; rfl, HB1.out⟩
  · have HX : Hid (txI (wI (.mk 2 (bs x) 0 [])) = quX (ns (bs x))) := Lib.hid (by
      show txI (comb 2 (ns (bs x)) 0 []) = _
      unfold comb
      rw [if_neg (by decide), if_pos rfl]; simp [txI, xI, tb])
    have HQ := Lib.hid (rquote_any (bs x) (by have h1 := wt_eq (.mk 2 (bs x) 0 []); rw [show (Ex.mk 2 (bs x) 0 []).text = bs x from rfl] at h1; omega))
    obtain ⟨y0, y1, y2, y3⟩ := HC.out.cl (Below.refl _ _)
    have y0' : w1.cell? ⟨g, 0, none⟩ = some (.int .i64 2) := y0
    have y1' : w1.cell? ⟨g, 1, none⟩ = some (.string (bs x)) := y1
    clear hw hwt hk4 y0 y1 y2 y3
    unfold exV
    go_enter Tryd.func26, Tryd.ntmps26
    go_upto_region 1 with fail
    rw [← HW1.out, ← HGG.out]
    go_wp2_with (go_at_call 47; refine (HQ.out _).mono ?_; rintro e w2 ⟨rfl, hb2⟩; have HB2 := Lib.hid hb2; clear hb2)
    go_ret
    exact ⟨by rw [HX.out]; rfl, bthen HB1.out HB2.out⟩
  · have HX : Hid (⟨#[64]⟩ ++ bs x = bs (txI (wI (.mk 3 (bs x) 0 [])))) := Lib.hid (by
      have e : txI (wI (.mk 3 (bs x) 0 [])) = [64] ++ x := by
        show txI (comb 3 (ns (bs x)) 0 []) = _
        unfold comb
        rw [if_neg (by decide), if_neg (by decide), if_pos rfl, ns_bs' h8]; simp [txI, xI, tb]
      rw [e, ← bs_app (by decide) h8]; rfl)
    have hz1 : ¬ 9223372036854775807 < 1 + (bs x).size := by have h1 := wt_eq (.mk 3 (bs x) 0 []); rw [show (Ex.mk 3 (bs x) 0 []).text = bs x from rfl] at h1; omega
    obtain ⟨y0, y1, y2, y3⟩ := HC.out.cl (Below.refl _ _)
    have y0' : w1.cell? ⟨g, 0, none⟩ = some (.int .i64 3) := y0
    have y1' : w1.cell? ⟨g, 1, none⟩ = some (.string (bs x)) := y1
    clear hw hwt hk4 y0 y1 y2 y3 h8 hl
    unfold exV
    go_enter Tryd.func26, Tryd.ntmps26
    go_upto_region 1 with fail
    rw [← HW1.out, ← HGG.out]
    go_wp2
    go_ret
    exact ⟨by rw [← HX.out]; rfl, HB1.out⟩
  · exact absurd rfl hk4
  · exact absurd rfl hk4
  · exact absurd rfl hk4
  · exact absurd rfl hk4

set_option maxRecDepth 100000 in
/-- the kids' cells in every later world -/
theorem kid_cells {T : Nat → Prop} {w1 : World} {us : List Ex} {ka : Option Addr} (h : RdA T w1 us ka) {b o : Nat} (hb : ka = some ⟨b, o, none⟩) {i : Nat} {u : Ex} (hu : us[i]? = some u) : ∃ k c, RdA T w1 u.args k ∧ ∀ wx, Below w1.heap.size w1 wx → wx.cell? ⟨b, o + i * 4, none⟩ = some (.int .i64 u.kind) ∧ wx.cell? ⟨b, o + i * 4 + 1, none⟩ = some (.string u.text) ∧ wx.cell? ⟨b, o + i * 4 + 2, none⟩ = some (.int .i64 u.num) ∧ wx.cell? ⟨b, o + i * 4 + 3, none⟩ = some (.slice k u.args.length c) := by
  obtain ⟨b', o', k, c, ha, x0, x1, x2, x3, -, hr⟩ := h.kid hu
  rw [hb] at ha
  cases ha
  exact ⟨k, c, hr, fun wx hx => ⟨below_cell hx x0, below_cell hx x1, below_cell hx x2, below_cell hx x3⟩⟩

set_option maxRecDepth 100000 in
set_option maxHeartbeats 4000000 in
/-- write at a comparison -/
theorem rwr_cmp (l : List Nat) (a b' : Ex) (hl : l ∈ lvlO 4) (hw : Well (callE l [a, b'])) (hwt : wt (callE l [a, b']) ≤ 4000000000) (Ra : RAt a) (Qa : RWr a) (Rb' : RAt b') (Qb' : RWr b') : RWr (callE l [a, b']) := by
  intro T ka kc w hra
  have hra : RdA T w [a, b'] ka := hra
  obtain ⟨b, o, -, -, hka, -⟩ := hra.kid (i := 0) (u := a) rfl
  subst hka
  have hwe := wt_eq (callE l [a, b'])
  rw [show (callE l [a, b']).args = [a, b'] from rfl, show (callE l [a, b']).text = bs l from rfl] at hwe
  simp only [wts] at hwe
  have hwa : Well a := hw.kid (by simp [callE, Ex.args])
  have hwb' : Well b' := hw.kid (by simp [callE, Ex.args])
  have hown : own (callE l [a, b']) = 4 := (own_bin (v := 4) ⟨by decide, by decide, by decide⟩ hl).1
  obtain ⟨w1, hw1⟩ : ∃ w1, w1 = w.alloc (.cells #[.int .i64 4, .string (bs l), .int .i64 0, .slice (some ⟨b, o, none⟩) 2 kc] 25) := ⟨_, rfl⟩
  obtain ⟨g, hg⟩ : ∃ g, g = w.heap.size := ⟨_, rfl⟩
  have HB1 : Hid (Below w.heap.size w w1) := Lib.hid (by rw [hw1]; exact below_alloc _ _)
  have hra1 := hra.below HB1.out
  obtain ⟨k0, c0, hr0, hx0⟩ := kid_cells hra1 rfl (i := 0) (u := a) rfl
  obtain ⟨k1, c1, hr1, hx1⟩ := kid_cells hra1 rfl (i := 1) (u := b') rfl
  have HO : Hid (∀ w, Calls Tryd.prog 48 #[.agg #[.int .i64 4, .string (bs l), .int .i64 0, .slice (some ⟨b, o, none⟩) 2 kc]] w fun e w' => e = .returned (.int .i64 (4 : Nat)) ∧ Below w.heap.size w w') := Lib.hid (fun w => by have h := rown_any (callE l [a, b']) (some ⟨b, o, none⟩) kc w (by show 2 ≤ 1000000000; decide); rw [hown] at h; exact h)
  obtain ⟨X, hX⟩ : ∃ X, X = bs l := ⟨_, rfl⟩
  obtain ⟨A, hA⟩ : ∃ X, X = bs (txI (br (5) (own a, wI a))) := ⟨_, rfl⟩
  obtain ⟨B, hB⟩ : ∃ X, X = bs (txI (br (5) (own b', wI b'))) := ⟨_, rfl⟩
  have sA : A.size ≤ wt a + 2 := by rw [hA]; exact txb_sz hwa _
  have sB : B.size ≤ wt b' + 2 := by rw [hB]; exact txb_sz hwb' _
  have h8l : ∀ c ∈ l, c < 256 := lvlO_8 (v := 4) ⟨by decide, by decide, by decide⟩ hl
  have sX : X.size ≤ 3 := by rw [hX, bs_sz h8l]; exact lvlO_len (v := 4) ⟨by decide, by decide, by decide⟩ hl
  have HF : Hid (A ++ ⟨#[32]⟩ ++ X ++ ⟨#[32]⟩ ++ B = bs (txI (wI (callE l [a, b'])))) := Lib.hid (by
    have e : txI (wI (callE l [a, b'])) = txI (br (5) (own a, wI a)) ++ [32] ++ l ++ [32] ++ txI (br (5) (own b', wI b')) := by
      rw [(own_bin (a := a) (b := b') (v := 4) ⟨by decide, by decide, by decide⟩ hl).2, txI_app, txI_app, xI_op (v := 4) ⟨by decide, by decide, by decide⟩]
      rw [show lftL 4 = 5 from rfl]
      simp
    have g1 := txb8 hwa (5)
    have g2 := txb8 hwb' (5)
    have m : ∀ (p q : List Nat), (∀ c ∈ p, c < 256) → (∀ c ∈ q, c < 256) → ∀ c ∈ p ++ q, c < 256 := fun p q hp hq c hc => by
      rcases List.mem_append.1 hc with h | h
      · exact hp c h
      · exact hq c h
    have d : ∀ c ∈ ([32] : List Nat), c < 256 := by decide
    rw [e, hA, hB, hX, ← bs_app (m _ _ (m _ _ (m _ _ g1 d) h8l) d) g2, ← bs_app (m _ _ (m _ _ g1 d) h8l) d, ← bs_app (m _ _ g1 d) h8l, ← bs_app g1 d]
    rfl)
  have HA : Hid (∀ wx, Below w1.heap.size w1 wx → Calls Tryd.prog 49 #[.agg #[.int .i64 a.kind, .string a.text, .int .i64 a.num, .slice k0 a.args.length c0], .int .i64 5] wx fun e w' => e = .returned (.string A) ∧ Below wx.heap.size wx w') := Lib.hid (fun wx hb => by rw [hA]; exact Ra _ k0 c0 (5) _ wx rfl (hr0.below hb))
  have HBB : Hid (∀ wx, Below w1.heap.size w1 wx → Calls Tryd.prog 49 #[.agg #[.int .i64 b'.kind, .string b'.text, .int .i64 b'.num, .slice k1 b'.args.length c1], .int .i64 5] wx fun e w' => e = .returned (.string B) ∧ Below wx.heap.size wx w') := Lib.hid (fun wx hb => by rw [hB]; exact Rb' _ k1 c1 (5) _ wx rfl (hr1.below hb))
  have HCL : Hid (∀ wx, Below w1.heap.size w1 wx → wx.cell? ⟨g, 0, none⟩ = some (.int .i64 4) ∧ wx.cell? ⟨g, 1, none⟩ = some (.string X) ∧ wx.cell? ⟨g, 2, none⟩ = some (.int .i64 0) ∧ wx.cell? ⟨g, 3, none⟩ = some (.slice (some ⟨b, o, none⟩) 2 kc) ∧ wx.cell? ⟨b, o, none⟩ = some (.int .i64 a.kind) ∧ wx.cell? ⟨b, o + 1, none⟩ = some (.string a.text) ∧ wx.cell? ⟨b, o + 2, none⟩ = some (.int .i64 a.num) ∧ wx.cell? ⟨b, o + 3, none⟩ = some (.slice k0 a.args.length c0) ∧ wx.cell? ⟨b, o + 4, none⟩ = some (.int .i64 b'.kind) ∧ wx.cell? ⟨b, o + 4 + 1, none⟩ = some (.string b'.text) ∧ wx.cell? ⟨b, o + 5, none⟩ = some (.string b'.text) ∧ wx.cell? ⟨b, o + 4 + 2, none⟩ = some (.int .i64 b'.num) ∧ wx.cell? ⟨b, o + 6, none⟩ = some (.int .i64 b'.num) ∧ wx.cell? ⟨b, o + 4 + 3, none⟩ = some (.slice k1 b'.args.length c1) ∧ wx.cell? ⟨b, o + 7, none⟩ = some (.slice k1 b'.args.length c1)) := Lib.hid (fun wx hb => by
    have y0 : wx.cell? ⟨g, 0, none⟩ = some (.int .i64 4) := below_cell hb (by rw [hw1, hg]; simp)
    have y1 : wx.cell? ⟨g, 1, none⟩ = some (.string X) := below_cell hb (by rw [hw1, hg, hX]; simp)
    have y2 : wx.cell? ⟨g, 2, none⟩ = some (.int .i64 0) := below_cell hb (by rw [hw1, hg]; simp)
    have y3 : wx.cell? ⟨g, 3, none⟩ = some (.slice (some ⟨b, o, none⟩) 2 kc) := below_cell hb (by rw [hw1, hg]; simp)
    obtain ⟨z00, z01, z02, z03⟩ := hx0 wx hb
    rw [show o + 0 * 4 = o by omega] at z00 z01 z02 z03
    obtain ⟨z10, z11, z12, z13⟩ := hx1 wx hb
    exact ⟨y0, y1, y2, y3, z00, z01, z02, z03, z10, z11, z11, z12, z12, z13, z13⟩)
  have HW1 := Lib.hid hw1
  have HGG := Lib.hid hg
  rw [← hX] at HO HW1
  have t0 : ¬ 9223372036854775807 < A.size + 1 := by omega
  have t1 : ¬ 9223372036854775807 < A.size + 1 + X.size := by omega
  have t2 : ¬ 9223372036854775807 < A.size + 1 + X.size + 1 := by omega
  have t3 : ¬ 9223372036854775807 < A.size + 1 + X.size + 1 + B.size := by omega
  obtain ⟨q0, q1, q2, q3, q4, q5, q6, q7, q8, q9, q10, q11, q12, q13, q14⟩ := HCL.out w1 (Below.refl _ _)
  show Calls Tryd.prog 26 #[.agg #[.int .i64 4, .string (bs l), .int .i64 0, .slice (some ⟨b, o, none⟩) 2 kc]] w _
  rw [← hX]
  clear sX h8l
  clear hwe hown hra hra1 hw1 hg hX hA hB hr0 hx0 hr1 hx1 sA sB Ra Qa Rb' Qb' hwt hw hwa hwb'
  go_enter Tryd.func26, Tryd.ntmps26
  go_upto_region 1 with fail
  rw [← HW1.out, ← HGG.out]
  go_upto_region 12 with (go_at_call 48; refine (HO.out _).mono ?_; rintro e w2 ⟨rfl, hb2⟩; have HB2 : Hid (Below w1.heap.size w1 w2) := Lib.hid hb2; clear hb2 q0 q1 q2 q3 q4 q5 q6 q7 q8 q9 q10 q11 q12 q13 q14; obtain ⟨q0, q1, q2, q3, q4, q5, q6, q7, q8, q9, q10, q11, q12, q13, q14⟩ := HCL.out w2 HB2.out)
  go_region_held3 (fun wx => wx.cell? ⟨g, 0, none⟩ = some (.int .i64 4) ∧ wx.cell? ⟨g, 1, none⟩ = some (.string X) ∧ wx.cell? ⟨g, 2, none⟩ = some (.int .i64 0) ∧ wx.cell? ⟨g, 3, none⟩ = some (.slice (some ⟨b, o, none⟩) 2 kc) ∧ wx.cell? ⟨b, o, none⟩ = some (.int .i64 a.kind) ∧ wx.cell? ⟨b, o + 1, none⟩ = some (.string a.text) ∧ wx.cell? ⟨b, o + 2, none⟩ = some (.int .i64 a.num) ∧ wx.cell? ⟨b, o + 3, none⟩ = some (.slice k0 a.args.length c0) ∧ wx.cell? ⟨b, o + 4, none⟩ = some (.int .i64 b'.kind) ∧ wx.cell? ⟨b, o + 4 + 1, none⟩ = some (.string b'.text) ∧ wx.cell? ⟨b, o + 5, none⟩ = some (.string b'.text) ∧ wx.cell? ⟨b, o + 4 + 2, none⟩ = some (.int .i64 b'.num) ∧ wx.cell? ⟨b, o + 6, none⟩ = some (.int .i64 b'.num) ∧ wx.cell? ⟨b, o + 4 + 3, none⟩ = some (.slice k1 b'.args.length c1) ∧ wx.cell? ⟨b, o + 7, none⟩ = some (.slice k1 b'.args.length c1)) (go_keep) (first
    | (go_at_call 49; refine (HBB.out _ HB3.out).mono ?_; rintro e w4 ⟨rfl, hb4⟩; have HB4 : Hid (Below w1.heap.size w1 w4) := Lib.hid (bthen HB3.out hb4); obtain ⟨q0, q1, q2, q3, q4, q5, q6, q7, q8, q9, q10, q11, q12, q13, q14⟩ := HCL.out w4 HB4.out; clear hb4)
    | (go_at_call 49; refine (HA.out _ (HB2.out.trans ((Below.refl _ _).drew))).mono ?_; rintro e w3 ⟨rfl, hb3⟩; have HB3 : Hid (Below w1.heap.size w1 w3) := Lib.hid (bthen HB2.out ((Below.refl _ _).drew.trans hb3)); obtain ⟨q0, q1, q2, q3, q4, q5, q6, q7, q8, q9, q10, q11, q12, q13, q14⟩ := HCL.out w3 HB3.out; clear hb3))
  all_goals
    go_wp2
    go_ret
    exact ⟨by rw [← HF.out]; rfl, bthen HB1.out HB4.out⟩

set_option maxRecDepth 100000 in
set_option maxHeartbeats 4000000 in
/-- write at an operator -/
theorem rwr_bin (v : Nat) (l : List Nat) (a b' : Ex) (hv : 1 ≤ v ∧ v ≤ 7 ∧ v ≠ 3) (hl : l ∈ lvlO v) (h4 : v ≠ 4) (hw : Well (callE l [a, b'])) (hwt : wt (callE l [a, b']) ≤ 4000000000) (Ra : RAt a) (Qa : RWr a) (Rb' : RAt b') (Qb' : RWr b') : RWr (callE l [a, b']) := by
  intro T ka kc w hra
  have hra : RdA T w [a, b'] ka := hra
  obtain ⟨b, o, -, -, hka, -⟩ := hra.kid (i := 0) (u := a) rfl
  subst hka
  have hwe := wt_eq (callE l [a, b'])
  rw [show (callE l [a, b']).args = [a, b'] from rfl, show (callE l [a, b']).text = bs l from rfl] at hwe
  simp only [wts] at hwe
  have hwa : Well a := hw.kid (by simp [callE, Ex.args])
  have hwb' : Well b' := hw.kid (by simp [callE, Ex.args])
  have hown : own (callE l [a, b']) = v := (own_bin hv hl).1
  obtain ⟨w1, hw1⟩ : ∃ w1, w1 = w.alloc (.cells #[.int .i64 4, .string (bs l), .int .i64 0, .slice (some ⟨b, o, none⟩) 2 kc] 25) := ⟨_, rfl⟩
  obtain ⟨g, hg⟩ : ∃ g, g = w.heap.size := ⟨_, rfl⟩
  have HB1 : Hid (Below w.heap.size w w1) := Lib.hid (by rw [hw1]; exact below_alloc _ _)
  have hra1 := hra.below HB1.out
  obtain ⟨k0, c0, hr0, hx0⟩ := kid_cells hra1 rfl (i := 0) (u := a) rfl
  obtain ⟨k1, c1, hr1, hx1⟩ := kid_cells hra1 rfl (i := 1) (u := b') rfl
  have HO : Hid (∀ w, Calls Tryd.prog 48 #[.agg #[.int .i64 4, .string (bs l), .int .i64 0, .slice (some ⟨b, o, none⟩) 2 kc]] w fun e w' => e = .returned (.int .i64 (v : Nat)) ∧ Below w.heap.size w w') := Lib.hid (fun w => by have h := rown_any (callE l [a, b']) (some ⟨b, o, none⟩) kc w (by show 2 ≤ 1000000000; decide); rw [hown] at h; exact h)
  obtain ⟨X, hX⟩ : ∃ X, X = bs l := ⟨_, rfl⟩
  obtain ⟨A, hA⟩ : ∃ X, X = bs (txI (br (v) (own a, wI a))) := ⟨_, rfl⟩
  obtain ⟨B, hB⟩ : ∃ X, X = bs (txI (br (v + 1) (own b', wI b'))) := ⟨_, rfl⟩
  have sA : A.size ≤ wt a + 2 := by rw [hA]; exact txb_sz hwa _
  have sB : B.size ≤ wt b' + 2 := by rw [hB]; exact txb_sz hwb' _
  have h8l : ∀ c ∈ l, c < 256 := lvlO_8 hv hl
  have sX : X.size ≤ 3 := by rw [hX, bs_sz h8l]; exact lvlO_len hv hl
  have HF : Hid (A ++ ⟨#[32]⟩ ++ X ++ ⟨#[32]⟩ ++ B = bs (txI (wI (callE l [a, b'])))) := Lib.hid (by
    have e : txI (wI (callE l [a, b'])) = txI (br (v) (own a, wI a)) ++ [32] ++ l ++ [32] ++ txI (br (v + 1) (own b', wI b')) := by
      rw [(own_bin (a := a) (b := b') hv hl).2, txI_app, txI_app, xI_op hv]
      rw [show lftL v = v by unfold lftL; rw [if_neg h4]]
      simp
    have g1 := txb8 hwa (v)
    have g2 := txb8 hwb' (v + 1)
    have m : ∀ (p q : List Nat), (∀ c ∈ p, c < 256) → (∀ c ∈ q, c < 256) → ∀ c ∈ p ++ q, c < 256 := fun p q hp hq c hc => by
      rcases List.mem_append.1 hc with h | h
      · exact hp c h
      · exact hq c h
    have d : ∀ c ∈ ([32] : List Nat), c < 256 := by decide
    rw [e, hA, hB, hX, ← bs_app (m _ _ (m _ _ (m _ _ g1 d) h8l) d) g2, ← bs_app (m _ _ (m _ _ g1 d) h8l) d, ← bs_app (m _ _ g1 d) h8l, ← bs_app g1 d]
    rfl)
  have HA : Hid (∀ wx, Below w1.heap.size w1 wx → Calls Tryd.prog 49 #[.agg #[.int .i64 a.kind, .string a.text, .int .i64 a.num, .slice k0 a.args.length c0], .int .i64 (v : Nat)] wx fun e w' => e = .returned (.string A) ∧ Below wx.heap.size wx w') := Lib.hid (fun wx hb => by rw [hA]; exact Ra _ k0 c0 (v) _ wx rfl (hr0.below hb))
  have HBB : Hid (∀ wx, Below w1.heap.size w1 wx → Calls Tryd.prog 49 #[.agg #[.int .i64 b'.kind, .string b'.text, .int .i64 b'.num, .slice k1 b'.args.length c1], .int .i64 ((v : Nat) + 1)] wx fun e w' => e = .returned (.string B) ∧ Below wx.heap.size wx w') := Lib.hid (fun wx hb => by rw [hB]; exact Rb' _ k1 c1 (v + 1) _ wx (by push_cast; rfl) (hr1.below hb))
  have HCL : Hid (∀ wx, Below w1.heap.size w1 wx → wx.cell? ⟨g, 0, none⟩ = some (.int .i64 4) ∧ wx.cell? ⟨g, 1, none⟩ = some (.string X) ∧ wx.cell? ⟨g, 2, none⟩ = some (.int .i64 0) ∧ wx.cell? ⟨g, 3, none⟩ = some (.slice (some ⟨b, o, none⟩) 2 kc) ∧ wx.cell? ⟨b, o, none⟩ = some (.int .i64 a.kind) ∧ wx.cell? ⟨b, o + 1, none⟩ = some (.string a.text) ∧ wx.cell? ⟨b, o + 2, none⟩ = some (.int .i64 a.num) ∧ wx.cell? ⟨b, o + 3, none⟩ = some (.slice k0 a.args.length c0) ∧ wx.cell? ⟨b, o + 4, none⟩ = some (.int .i64 b'.kind) ∧ wx.cell? ⟨b, o + 4 + 1, none⟩ = some (.string b'.text) ∧ wx.cell? ⟨b, o + 5, none⟩ = some (.string b'.text) ∧ wx.cell? ⟨b, o + 4 + 2, none⟩ = some (.int .i64 b'.num) ∧ wx.cell? ⟨b, o + 6, none⟩ = some (.int .i64 b'.num) ∧ wx.cell? ⟨b, o + 4 + 3, none⟩ = some (.slice k1 b'.args.length c1) ∧ wx.cell? ⟨b, o + 7, none⟩ = some (.slice k1 b'.args.length c1)) := Lib.hid (fun wx hb => by
    have y0 : wx.cell? ⟨g, 0, none⟩ = some (.int .i64 4) := below_cell hb (by rw [hw1, hg]; simp)
    have y1 : wx.cell? ⟨g, 1, none⟩ = some (.string X) := below_cell hb (by rw [hw1, hg, hX]; simp)
    have y2 : wx.cell? ⟨g, 2, none⟩ = some (.int .i64 0) := below_cell hb (by rw [hw1, hg]; simp)
    have y3 : wx.cell? ⟨g, 3, none⟩ = some (.slice (some ⟨b, o, none⟩) 2 kc) := below_cell hb (by rw [hw1, hg]; simp)
    obtain ⟨z00, z01, z02, z03⟩ := hx0 wx hb
    rw [show o + 0 * 4 = o by omega] at z00 z01 z02 z03
    obtain ⟨z10, z11, z12, z13⟩ := hx1 wx hb
    exact ⟨y0, y1, y2, y3, z00, z01, z02, z03, z10, z11, z11, z12, z12, z13, z13⟩)
  have HW1 := Lib.hid hw1
  have HGG := Lib.hid hg
  rw [← hX] at HO HW1
  have t0 : ¬ 9223372036854775807 < A.size + 1 := by omega
  have t1 : ¬ 9223372036854775807 < A.size + 1 + X.size := by omega
  have t2 : ¬ 9223372036854775807 < A.size + 1 + X.size + 1 := by omega
  have t3 : ¬ 9223372036854775807 < A.size + 1 + X.size + 1 + B.size := by omega
  obtain ⟨q0, q1, q2, q3, q4, q5, q6, q7, q8, q9, q10, q11, q12, q13, q14⟩ := HCL.out w1 (Below.refl _ _)
  show Calls Tryd.prog 26 #[.agg #[.int .i64 4, .string (bs l), .int .i64 0, .slice (some ⟨b, o, none⟩) 2 kc]] w _
  rw [← hX]
  have v1 : (v : Int) < 8 := by omega
  have v2 : ((v : Int) == 3) = false := by rw [beq_eq_false_iff_ne]; omega
  have v3 : ((v : Int) == 4) = false := by rw [beq_eq_false_iff_ne]; omega
  have v4 : IntKind.i64.wrap ((v : Int) + 1) = (v : Int) + 1 := IntWalk.i64_in _ (by omega)
  clear hv h4 hl
  clear sX h8l
  clear hwe hown hra hra1 hw1 hg hX hA hB hr0 hx0 hr1 hx1 sA sB Ra Qa Rb' Qb' hwt hw hwa hwb'
  go_enter Tryd.func26, Tryd.ntmps26
  go_upto_region 1 with fail
  rw [← HW1.out, ← HGG.out]
  go_upto_region 14 with (go_at_call 48; refine (HO.out _).mono ?_; rintro e w2 ⟨rfl, hb2⟩; have HB2 : Hid (Below w1.heap.size w1 w2) := Lib.hid hb2; clear hb2 q0 q1 q2 q3 q4 q5 q6 q7 q8 q9 q10 q11 q12 q13 q14; obtain ⟨q0, q1, q2, q3, q4, q5, q6, q7, q8, q9, q10, q11, q12, q13, q14⟩ := HCL.out w2 HB2.out)
  go_region_held3 (fun wx => wx.cell? ⟨g, 0, none⟩ = some (.int .i64 4) ∧ wx.cell? ⟨g, 1, none⟩ = some (.string X) ∧ wx.cell? ⟨g, 2, none⟩ = some (.int .i64 0) ∧ wx.cell? ⟨g, 3, none⟩ = some (.slice (some ⟨b, o, none⟩) 2 kc) ∧ wx.cell? ⟨b, o, none⟩ = some (.int .i64 a.kind) ∧ wx.cell? ⟨b, o + 1, none⟩ = some (.string a.text) ∧ wx.cell? ⟨b, o + 2, none⟩ = some (.int .i64 a.num) ∧ wx.cell? ⟨b, o + 3, none⟩ = some (.slice k0 a.args.length c0) ∧ wx.cell? ⟨b, o + 4, none⟩ = some (.int .i64 b'.kind) ∧ wx.cell? ⟨b, o + 4 + 1, none⟩ = some (.string b'.text) ∧ wx.cell? ⟨b, o + 5, none⟩ = some (.string b'.text) ∧ wx.cell? ⟨b, o + 4 + 2, none⟩ = some (.int .i64 b'.num) ∧ wx.cell? ⟨b, o + 6, none⟩ = some (.int .i64 b'.num) ∧ wx.cell? ⟨b, o + 4 + 3, none⟩ = some (.slice k1 b'.args.length c1) ∧ wx.cell? ⟨b, o + 7, none⟩ = some (.slice k1 b'.args.length c1)) (go_keep) (first
    | (go_at_call 49; refine (HBB.out _ HB3.out).mono ?_; rintro e w4 ⟨rfl, hb4⟩; have HB4 : Hid (Below w1.heap.size w1 w4) := Lib.hid (bthen HB3.out hb4); obtain ⟨q0, q1, q2, q3, q4, q5, q6, q7, q8, q9, q10, q11, q12, q13, q14⟩ := HCL.out w4 HB4.out; clear hb4)
    | (go_at_call 49; refine (HA.out _ (HB2.out.trans ((Below.refl _ _).drew))).mono ?_; rintro e w3 ⟨rfl, hb3⟩; have HB3 : Hid (Below w1.heap.size w1 w3) := Lib.hid (bthen HB2.out ((Below.refl _ _).drew.trans hb3)); obtain ⟨q0, q1, q2, q3, q4, q5, q6, q7, q8, q9, q10, q11, q12, q13, q14⟩ := HCL.out w3 HB3.out; clear hb3))
  all_goals
    go_wp2
    go_ret
    exact ⟨by rw [← HF.out]; rfl, bthen HB1.out HB4.out⟩

set_option maxRecDepth 100000 in
set_option maxHeartbeats 4000000 in
/-- write at a not -/
theorem rwr_neg (a : Ex) (hw : Well (callE wNot [a])) (hwt : wt (callE wNot [a]) ≤ 4000000000) (Ra : RAt a) (Qa : RWr a) : RWr (callE wNot [a]) := by
  intro T ka kc w hra
  have hra : RdA T w [a] ka := hra
  obtain ⟨b, o, -, -, hka, -⟩ := hra.kid (i := 0) (u := a) rfl
  subst hka
  have hwe := wt_eq (callE wNot [a])
  rw [show (callE wNot [a]).args = [a] from rfl, show (callE wNot [a]).text = bs wNot from rfl] at hwe
  simp only [wts] at hwe
  have hwa : Well a := hw.kid (by simp [callE, Ex.args])
  have hown : own (callE wNot [a]) = 3 := (own_neg a).1
  obtain ⟨w1, hw1⟩ : ∃ w1, w1 = w.alloc (.cells #[.int .i64 4, .string (bs wNot), .int .i64 0, .slice (some ⟨b, o, none⟩) 1 kc] 25) := ⟨_, rfl⟩
  obtain ⟨g, hg⟩ : ∃ g, g = w.heap.size := ⟨_, rfl⟩
  have HB1 : Hid (Below w.heap.size w w1) := Lib.hid (by rw [hw1]; exact below_alloc _ _)
  have hra1 := hra.below HB1.out
  obtain ⟨k0, c0, hr0, hx0⟩ := kid_cells hra1 rfl (i := 0) (u := a) rfl
  have HO : Hid (∀ w, Calls Tryd.prog 48 #[.agg #[.int .i64 4, .string (bs wNot), .int .i64 0, .slice (some ⟨b, o, none⟩) 1 kc]] w fun e w' => e = .returned (.int .i64 (3 : Nat)) ∧ Below w.heap.size w w') := Lib.hid (fun w => by have h := rown_any (callE wNot [a]) (some ⟨b, o, none⟩) kc w (by show 1 ≤ 1000000000; decide); rw [hown] at h; exact h)
  obtain ⟨X, hX⟩ : ∃ X, X = bs wNot := ⟨_, rfl⟩
  obtain ⟨A, hA⟩ : ∃ X, X = bs (txI (br 3 (own a, wI a))) := ⟨_, rfl⟩
  have sA : A.size ≤ wt a + 2 := by rw [hA]; exact txb_sz hwa _
  have HF : Hid (⟨#[110, 111, 116, 32]⟩ ++ A = bs (txI (wI (callE wNot [a])))) := Lib.hid (by
    have e : txI (wI (callE wNot [a])) = [110, 111, 116, 32] ++ txI (br 3 (own a, wI a)) := by
      rw [(own_neg a).2, txI_app]; rfl
    rw [e, hA, ← bs_app (by decide) (txb8 hwa 3)]
    rfl)
  have HA : Hid (∀ wx, Below w1.heap.size w1 wx → Calls Tryd.prog 49 #[.agg #[.int .i64 a.kind, .string a.text, .int .i64 a.num, .slice k0 a.args.length c0], .int .i64 3] wx fun e w' => e = .returned (.string A) ∧ Below wx.heap.size wx w') := Lib.hid (fun wx hb => by rw [hA]; exact Ra _ k0 c0 3 _ wx rfl (hr0.below hb))
  have HCL : Hid (∀ wx, Below w1.heap.size w1 wx → wx.cell? ⟨g, 0, none⟩ = some (.int .i64 4) ∧ wx.cell? ⟨g, 1, none⟩ = some (.string X) ∧ wx.cell? ⟨g, 2, none⟩ = some (.int .i64 0) ∧ wx.cell? ⟨g, 3, none⟩ = some (.slice (some ⟨b, o, none⟩) 1 kc) ∧ wx.cell? ⟨b, o, none⟩ = some (.int .i64 a.kind) ∧ wx.cell? ⟨b, o + 1, none⟩ = some (.string a.text) ∧ wx.cell? ⟨b, o + 2, none⟩ = some (.int .i64 a.num) ∧ wx.cell? ⟨b, o + 3, none⟩ = some (.slice k0 a.args.length c0)) := Lib.hid (fun wx hb => by
    have y0 : wx.cell? ⟨g, 0, none⟩ = some (.int .i64 4) := below_cell hb (by rw [hw1, hg]; simp)
    have y1 : wx.cell? ⟨g, 1, none⟩ = some (.string X) := below_cell hb (by rw [hw1, hg, hX]; simp)
    have y2 : wx.cell? ⟨g, 2, none⟩ = some (.int .i64 0) := below_cell hb (by rw [hw1, hg]; simp)
    have y3 : wx.cell? ⟨g, 3, none⟩ = some (.slice (some ⟨b, o, none⟩) 1 kc) := below_cell hb (by rw [hw1, hg]; simp)
    obtain ⟨z00, z01, z02, z03⟩ := hx0 wx hb
    rw [show o + 0 * 4 = o by omega] at z00 z01 z02 z03
    exact ⟨y0, y1, y2, y3, z00, z01, z02, z03⟩)
  have HW1 := Lib.hid hw1
  have HGG := Lib.hid hg
  rw [← hX] at HO HW1
  have t1 : ¬ 9223372036854775807 < 4 + A.size := by omega
  obtain ⟨q0, q1, q2, q3, q4, q5, q6, q7⟩ := HCL.out w1 (Below.refl _ _)
  show Calls Tryd.prog 26 #[.agg #[.int .i64 4, .string (bs wNot), .int .i64 0, .slice (some ⟨b, o, none⟩) 1 kc]] w _
  rw [← hX]
  clear hwe hown hra hra1 hw1 hg hX hA hr0 hx0 sA Ra Qa hwt hw hwa
  go_enter Tryd.func26, Tryd.ntmps26
  go_upto_region 1 with fail
  rw [← HW1.out, ← HGG.out]
  go_wp2_with (first
    | (go_at_call 48; refine (HO.out _).mono ?_; rintro e w2 ⟨rfl, hb2⟩; have HB2 : Hid (Below w1.heap.size w1 w2) := Lib.hid hb2; clear hb2 q0 q1 q2 q3 q4 q5 q6 q7; obtain ⟨q0, q1, q2, q3, q4, q5, q6, q7⟩ := HCL.out w2 HB2.out)
    | (go_at_call 49; refine (HA.out _ HB2.out).mono ?_; rintro e w3 ⟨rfl, hb3⟩; have HB3 := Lib.hid (bthen HB2.out hb3); clear hb3))
  go_ret
  exact ⟨by rw [← HF.out]; rfl, bthen HB1.out HB3.out⟩

set_option maxRecDepth 100000 in
set_option maxHeartbeats 4000000 in
/-- write at a cut -/
theorem rwr_cut (a b' c' : Ex) (hw : Well (callE wCut [a, b', c'])) (hwt : wt (callE wCut [a, b', c']) ≤ 4000000000) (Ra : RAt a) (Qa : RWr a) (Rb' : RAt b') (Qb' : RWr b') (Rc' : RAt c') (Qc' : RWr c') : RWr (callE wCut [a, b', c']) := by
  intro T ka kc w hra
  have hra : RdA T w [a, b', c'] ka := hra
  obtain ⟨b, o, -, -, hka, -⟩ := hra.kid (i := 0) (u := a) rfl
  subst hka
  have hwe := wt_eq (callE wCut [a, b', c'])
  rw [show (callE wCut [a, b', c']).args = [a, b', c'] from rfl, show (callE wCut [a, b', c']).text = bs wCut from rfl] at hwe
  simp only [wts] at hwe
  have hwa : Well a := hw.kid (by simp [callE, Ex.args])
  have hwb' : Well b' := hw.kid (by simp [callE, Ex.args])
  have hwc' : Well c' := hw.kid (by simp [callE, Ex.args])
  have hown : own (callE wCut [a, b', c']) = 8 := (own_cut a b' c').1
  obtain ⟨w1, hw1⟩ : ∃ w1, w1 = w.alloc (.cells #[.int .i64 4, .string (bs wCut), .int .i64 0, .slice (some ⟨b, o, none⟩) 3 kc] 25) := ⟨_, rfl⟩
  obtain ⟨g, hg⟩ : ∃ g, g = w.heap.size := ⟨_, rfl⟩
  have HB1 : Hid (Below w.heap.size w w1) := Lib.hid (by rw [hw1]; exact below_alloc _ _)
  have hra1 := hra.below HB1.out
  obtain ⟨k0, c0, hr0, hx0⟩ := kid_cells hra1 rfl (i := 0) (u := a) rfl
  obtain ⟨k1, c1, hr1, hx1⟩ := kid_cells hra1 rfl (i := 1) (u := b') rfl
  obtain ⟨k2, c2, hr2, hx2⟩ := kid_cells hra1 rfl (i := 2) (u := c') rfl
  have HO : Hid (∀ w, Calls Tryd.prog 48 #[.agg #[.int .i64 4, .string (bs wCut), .int .i64 0, .slice (some ⟨b, o, none⟩) 3 kc]] w fun e w' => e = .returned (.int .i64 (8 : Nat)) ∧ Below w.heap.size w w') := Lib.hid (fun w => by have h := rown_any (callE wCut [a, b', c']) (some ⟨b, o, none⟩) kc w (by show 3 ≤ 1000000000; decide); rw [hown] at h; exact h)
  obtain ⟨X, hX⟩ : ∃ X, X = bs wCut := ⟨_, rfl⟩
  obtain ⟨A, hA⟩ : ∃ X, X = bs (txI (br 8 (own a, wI a))) := ⟨_, rfl⟩
  obtain ⟨B, hB⟩ : ∃ X, X = bs (txI (wI b')) := ⟨_, rfl⟩
  obtain ⟨C, hC⟩ : ∃ X, X = bs (txI (wI c')) := ⟨_, rfl⟩
  have sA : A.size ≤ wt a + 2 := by rw [hA]; exact txb_sz hwa _
  have sB : B.size ≤ wt b' := by rw [hB]; exact tx_sz hwb'
  have sC : C.size ≤ wt c' := by rw [hC]; exact tx_sz hwc'
  have HF : Hid (A ++ ⟨#[91]⟩ ++ B ++ ⟨#[58]⟩ ++ C ++ ⟨#[93]⟩ = bs (txI (wI (callE wCut [a, b', c'])))) := Lib.hid (by
    have e : txI (wI (callE wCut [a, b', c'])) = txI (br 8 (own a, wI a)) ++ [91] ++ txI (wI b') ++ [58] ++ txI (wI c') ++ [93] := by
      rw [(own_cut a b' c').2]
      simp only [txI_app, xI_sg]
    have g1 := txb8 hwa 8
    have g2 := tx8 hwb'
    have g3 := tx8 hwc'
    have m : ∀ (p q : List Nat), (∀ c ∈ p, c < 256) → (∀ c ∈ q, c < 256) → ∀ c ∈ p ++ q, c < 256 := fun p q hp hq c hc => by
      rcases List.mem_append.1 hc with h | h
      · exact hp c h
      · exact hq c h
    have d1 : ∀ c ∈ ([91] : List Nat), c < 256 := by decide
    have d2 : ∀ c ∈ ([58] : List Nat), c < 256 := by decide
    have d3 : ∀ c ∈ ([93] : List Nat), c < 256 := by decide
    rw [e, hA, hB, hC, ← bs_app (m _ _ (m _ _ (m _ _ (m _ _ g1 d1) g2) d2) g3) d3, ← bs_app (m _ _ (m _ _ (m _ _ g1 d1) g2) d2) g3, ← bs_app (m _ _ (m _ _ g1 d1) g2) d2, ← bs_app (m _ _ g1 d1) g2, ← bs_app g1 d1]
    rfl)
  have HA : Hid (∀ wx, Below w1.heap.size w1 wx → Calls Tryd.prog 49 #[.agg #[.int .i64 a.kind, .string a.text, .int .i64 a.num, .slice k0 a.args.length c0], .int .i64 8] wx fun e w' => e = .returned (.string A) ∧ Below wx.heap.size wx w') := Lib.hid (fun wx hb => by rw [hA]; exact Ra _ k0 c0 8 _ wx rfl (hr0.below hb))
  have HBB : Hid (∀ wx, Below w1.heap.size w1 wx → Calls Tryd.prog 26 #[.agg #[.int .i64 b'.kind, .string b'.text, .int .i64 b'.num, .slice k1 b'.args.length c1]] wx fun e w' => e = .returned (.string B) ∧ Below wx.heap.size wx w') := Lib.hid (fun wx hb => by rw [hB]; exact Qb' _ k1 c1 wx (hr1.below hb))
  have HCC : Hid (∀ wx, Below w1.heap.size w1 wx → Calls Tryd.prog 26 #[.agg #[.int .i64 c'.kind, .string c'.text, .int .i64 c'.num, .slice k2 c'.args.length c2]] wx fun e w' => e = .returned (.string C) ∧ Below wx.heap.size wx w') := Lib.hid (fun wx hb => by rw [hC]; exact Qc' _ k2 c2 wx (hr2.below hb))
  have HCL : Hid (∀ wx, Below w1.heap.size w1 wx → wx.cell? ⟨g, 0, none⟩ = some (.int .i64 4) ∧ wx.cell? ⟨g, 1, none⟩ = some (.string X) ∧ wx.cell? ⟨g, 2, none⟩ = some (.int .i64 0) ∧ wx.cell? ⟨g, 3, none⟩ = some (.slice (some ⟨b, o, none⟩) 3 kc) ∧ wx.cell? ⟨b, o, none⟩ = some (.int .i64 a.kind) ∧ wx.cell? ⟨b, o + 1, none⟩ = some (.string a.text) ∧ wx.cell? ⟨b, o + 2, none⟩ = some (.int .i64 a.num) ∧ wx.cell? ⟨b, o + 3, none⟩ = some (.slice k0 a.args.length c0) ∧ wx.cell? ⟨b, o + 4, none⟩ = some (.int .i64 b'.kind) ∧ wx.cell? ⟨b, o + 4 + 1, none⟩ = some (.string b'.text) ∧ wx.cell? ⟨b, o + 5, none⟩ = some (.string b'.text) ∧ wx.cell? ⟨b, o + 4 + 2, none⟩ = some (.int .i64 b'.num) ∧ wx.cell? ⟨b, o + 6, none⟩ = some (.int .i64 b'.num) ∧ wx.cell? ⟨b, o + 4 + 3, none⟩ = some (.slice k1 b'.args.length c1) ∧ wx.cell? ⟨b, o + 7, none⟩ = some (.slice k1 b'.args.length c1) ∧ wx.cell? ⟨b, o + 8, none⟩ = some (.int .i64 c'.kind) ∧ wx.cell? ⟨b, o + 8 + 1, none⟩ = some (.string c'.text) ∧ wx.cell? ⟨b, o + 9, none⟩ = some (.string c'.text) ∧ wx.cell? ⟨b, o + 8 + 2, none⟩ = some (.int .i64 c'.num) ∧ wx.cell? ⟨b, o + 10, none⟩ = some (.int .i64 c'.num) ∧ wx.cell? ⟨b, o + 8 + 3, none⟩ = some (.slice k2 c'.args.length c2) ∧ wx.cell? ⟨b, o + 11, none⟩ = some (.slice k2 c'.args.length c2)) := Lib.hid (fun wx hb => by
    have y0 : wx.cell? ⟨g, 0, none⟩ = some (.int .i64 4) := below_cell hb (by rw [hw1, hg]; simp)
    have y1 : wx.cell? ⟨g, 1, none⟩ = some (.string X) := below_cell hb (by rw [hw1, hg, hX]; simp)
    have y2 : wx.cell? ⟨g, 2, none⟩ = some (.int .i64 0) := below_cell hb (by rw [hw1, hg]; simp)
    have y3 : wx.cell? ⟨g, 3, none⟩ = some (.slice (some ⟨b, o, none⟩) 3 kc) := below_cell hb (by rw [hw1, hg]; simp)
    obtain ⟨z00, z01, z02, z03⟩ := hx0 wx hb
    rw [show o + 0 * 4 = o by omega] at z00 z01 z02 z03
    obtain ⟨z10, z11, z12, z13⟩ := hx1 wx hb
    obtain ⟨z20, z21, z22, z23⟩ := hx2 wx hb
    exact ⟨y0, y1, y2, y3, z00, z01, z02, z03, z10, z11, z11, z12, z12, z13, z13, z20, z21, z21, z22, z22, z23, z23⟩)
  have HW1 := Lib.hid hw1
  have HGG := Lib.hid hg
  rw [← hX] at HO HW1
  have t0 : ¬ 9223372036854775807 < A.size + 1 := by omega
  have t1 : ¬ 9223372036854775807 < A.size + 1 + B.size := by omega
  have t2 : ¬ 9223372036854775807 < A.size + 1 + B.size + 1 := by omega
  have t3 : ¬ 9223372036854775807 < A.size + 1 + B.size + 1 + C.size := by omega
  have t4 : ¬ 9223372036854775807 < A.size + 1 + B.size + 1 + C.size + 1 := by omega
  obtain ⟨q0, q1, q2, q3, q4, q5, q6, q7, q8, q9, q10, q11, q12, q13, q14, q15, q16, q17, q18, q19, q20, q21⟩ := HCL.out w1 (Below.refl _ _)
  show Calls Tryd.prog 26 #[.agg #[.int .i64 4, .string (bs wCut), .int .i64 0, .slice (some ⟨b, o, none⟩) 3 kc]] w _
  rw [← hX]
  clear hwe hown hra hra1 hw1 hg hX hA hB hC hr0 hx0 hr1 hx1 hr2 hx2 sA sB sC Ra Qa Rb' Qb' Rc' Qc' hwt hw hwa hwb' hwc'
  go_enter Tryd.func26, Tryd.ntmps26
  go_upto_region 1 with fail
  rw [← HW1.out, ← HGG.out]
  go_upto_region 16 with (go_at_call 48; refine (HO.out _).mono ?_; rintro e w2 ⟨rfl, hb2⟩; have HB2 : Hid (Below w1.heap.size w1 w2) := Lib.hid hb2; clear hb2 q0 q1 q2 q3 q4 q5 q6 q7 q8 q9 q10 q11 q12 q13 q14 q15 q16 q17 q18 q19 q20 q21; obtain ⟨q0, q1, q2, q3, q4, q5, q6, q7, q8, q9, q10, q11, q12, q13, q14, q15, q16, q17, q18, q19, q20, q21⟩ := HCL.out w2 HB2.out)
  go_region_held3 (fun wx => wx.cell? ⟨g, 0, none⟩ = some (.int .i64 4) ∧ wx.cell? ⟨g, 1, none⟩ = some (.string X) ∧ wx.cell? ⟨g, 2, none⟩ = some (.int .i64 0) ∧ wx.cell? ⟨g, 3, none⟩ = some (.slice (some ⟨b, o, none⟩) 3 kc) ∧ wx.cell? ⟨b, o, none⟩ = some (.int .i64 a.kind) ∧ wx.cell? ⟨b, o + 1, none⟩ = some (.string a.text) ∧ wx.cell? ⟨b, o + 2, none⟩ = some (.int .i64 a.num) ∧ wx.cell? ⟨b, o + 3, none⟩ = some (.slice k0 a.args.length c0) ∧ wx.cell? ⟨b, o + 4, none⟩ = some (.int .i64 b'.kind) ∧ wx.cell? ⟨b, o + 4 + 1, none⟩ = some (.string b'.text) ∧ wx.cell? ⟨b, o + 5, none⟩ = some (.string b'.text) ∧ wx.cell? ⟨b, o + 4 + 2, none⟩ = some (.int .i64 b'.num) ∧ wx.cell? ⟨b, o + 6, none⟩ = some (.int .i64 b'.num) ∧ wx.cell? ⟨b, o + 4 + 3, none⟩ = some (.slice k1 b'.args.length c1) ∧ wx.cell? ⟨b, o + 7, none⟩ = some (.slice k1 b'.args.length c1) ∧ wx.cell? ⟨b, o + 8, none⟩ = some (.int .i64 c'.kind) ∧ wx.cell? ⟨b, o + 8 + 1, none⟩ = some (.string c'.text) ∧ wx.cell? ⟨b, o + 9, none⟩ = some (.string c'.text) ∧ wx.cell? ⟨b, o + 8 + 2, none⟩ = some (.int .i64 c'.num) ∧ wx.cell? ⟨b, o + 10, none⟩ = some (.int .i64 c'.num) ∧ wx.cell? ⟨b, o + 8 + 3, none⟩ = some (.slice k2 c'.args.length c2) ∧ wx.cell? ⟨b, o + 11, none⟩ = some (.slice k2 c'.args.length c2)) (go_keep) (first
    | (go_at_call 26; refine (HCC.out _ HB4.out).mono ?_; rintro e w5 ⟨rfl, hb5⟩; have HB5 : Hid (Below w1.heap.size w1 w5) := Lib.hid (bthen HB4.out hb5); obtain ⟨q0, q1, q2, q3, q4, q5, q6, q7, q8, q9, q10, q11, q12, q13, q14, q15, q16, q17, q18, q19, q20, q21⟩ := HCL.out w5 HB5.out; clear hb5)
    | (go_at_call 26; refine (HBB.out _ HB3.out).mono ?_; rintro e w4 ⟨rfl, hb4⟩; have HB4 : Hid (Below w1.heap.size w1 w4) := Lib.hid (bthen HB3.out hb4); obtain ⟨q0, q1, q2, q3, q4, q5, q6, q7, q8, q9, q10, q11, q12, q13, q14, q15, q16, q17, q18, q19, q20, q21⟩ := HCL.out w4 HB4.out; clear hb4)
    | (go_at_call 49; refine (HA.out _ (HB2.out.trans ((Below.refl _ _).drew))).mono ?_; rintro e w3 ⟨rfl, hb3⟩; have HB3 : Hid (Below w1.heap.size w1 w3) := Lib.hid (bthen HB2.out ((Below.refl _ _).drew.trans hb3)); obtain ⟨q0, q1, q2, q3, q4, q5, q6, q7, q8, q9, q10, q11, q12, q13, q14, q15, q16, q17, q18, q19, q20, q21⟩ := HCL.out w3 HB3.out; clear hb3))
  all_goals
    go_wp2
    go_ret
    exact ⟨by rw [← HF.out]; rfl, bthen HB1.out HB5.out⟩

set_option maxRecDepth 100000 in
set_option maxHeartbeats 4000000 in
/-- write at a call -/
theorem rwr_app (l : List Nat) (us : List Ex) (hn : isNm l = true) (hc3 : ¬ (l = wCut ∧ us.length = 3)) (hw : Well (callE l us)) (hwt : wt (callE l us) ≤ 4000000000) (ih : ∀ u ∈ us, RWr u) : RWr (callE l us) := by
  intro T ka kc w hra
  have hra : RdA T w us ka := hra
  have hwe := wt_eq (callE l us)
  rw [show (callE l us).args = us from rfl, show (callE l us).text = bs l from rfl] at hwe
  have hl8 := isNm_8 hn
  obtain ⟨N, hN⟩ : ∃ N, N = us.length := ⟨_, rfl⟩
  have hNN := hN
  have hNl := wts_len us
  obtain ⟨w1, hw1⟩ : ∃ w1, w1 = w.alloc (.cells #[.int .i64 4, .string (bs l), .int .i64 0, .slice ka N kc] 25) := ⟨_, rfl⟩
  obtain ⟨g, hg⟩ : ∃ g, g = w.heap.size := ⟨_, rfl⟩
  have HB1 : Hid (Below w.heap.size w w1) := Lib.hid (by rw [hw1]; exact below_alloc _ _)
  have HRA := Lib.hid (hra.below HB1.out)
  have HO : Hid (∀ w, Calls Tryd.prog 48 #[.agg #[.int .i64 4, .string (bs l), .int .i64 0, .slice ka N kc]] w fun e w' => e = .returned (.int .i64 9) ∧ Below w.heap.size w w') := Lib.hid (fun w => by
    have h := rown_any (callE l us) ka kc w (by show us.length ≤ 1000000000; omega)
    rw [(own_app hn hc3).1] at h; rw [hN]; exact h)
  have HWELL : Hid (∀ u ∈ us, Well u) := Lib.hid (fun u hu => hw.kid hu)
  have HUP : Hid (∀ i, (∀ c ∈ upA l us i, c < 256)) := Lib.hid (fun i c hc => by
    unfold upA at hc
    rcases List.mem_append.1 hc with h | h
    · rcases List.mem_append.1 h with h | h
      · exact hl8 c h
      · simp at h; omega
    · exact txI8 _ (OkI_join _ (fun u hu => OkI_w u.size u (Nat.le_refl _) (hw.kid (List.mem_of_mem_take hu)))) c h)
  have HUL : Hid (∀ i, (upA l us i).length ≤ 4000000000) := Lib.hid (fun i => by
    unfold upA
    have h1 := join_len (us.take i) (fun u hu => tx_len u.size u (Nat.le_refl _) (hw.kid (List.mem_of_mem_take hu)))
    have h2 := wts_take us i
    have h3 : (bs l).size = l.length := bs_sz hl8
    simp only [List.length_append, List.length_singleton]; omega)
  have HFIN : Hid (bs (upA l us N) ++ ⟨#[41]⟩ = bs (txI (wI (callE l us)))) := Lib.hid (by
    have e : txI (wI (callE l us)) = upA l us N ++ [41] := by
      rw [(own_app hn hc3).2, txI_app, txI_app, xI_sg]
      unfold upA
      rw [hN, List.take_length]
      simp [txI, xI, tb, sgT]
    rw [e, ← bs_app (HUP.out N) (by decide)]; rfl)
  have H0 : Hid (bs l ++ ⟨#[40]⟩ = bs (upA l us 0)) := Lib.hid (by rw [upA_zero, ← bs_app hl8 (by decide)]; rfl)
  have HCL : Hid (∀ wx, Below w1.heap.size w1 wx → wx.cell? ⟨g, 0, none⟩ = some (.int .i64 4) ∧ wx.cell? ⟨g, 1, none⟩ = some (.string (bs l)) ∧ wx.cell? ⟨g, 2, none⟩ = some (.int .i64 0) ∧ wx.cell? ⟨g, 3, none⟩ = some (.slice ka N kc)) := Lib.hid (fun wx hb => by
    exact ⟨below_cell hb (by rw [hw1, hg]; simp), below_cell hb (by rw [hw1, hg]; simp), below_cell hb (by rw [hw1, hg]; simp), below_cell hb (by rw [hw1, hg]; simp)⟩)
  have HIH := Lib.hid ih
  have HW1 := Lib.hid hw1
  have HGG := Lib.hid hg
  have HN := Lib.hid hNN
  have hN9 : (N : Int) ≤ 1000000000 := by omega
  show Calls Tryd.prog 26 #[.agg #[.int .i64 4, .string (bs l), .int .i64 0, .slice ka us.length kc]] w _
  rw [← hN]
  have hz1 : ¬ 9223372036854775807 < (bs l).size + 1 := by omega
  obtain ⟨X, hX⟩ : ∃ X, X = bs l := ⟨_, rfl⟩
  rw [← hX] at HO HW1 H0 HCL hz1 ⊢
  obtain ⟨y0, y1, y2, y3⟩ := HCL.out w1 (Below.refl _ _)
  clear hra hwe hl8 hN hNN hNl hw1 hg hw hwt hn hc3 hX ih
  go_enter Tryd.func26, Tryd.ntmps26
  go_upto_region 1 with fail
  rw [← HW1.out, ← HGG.out]
  go_wp2_with (go_at_call 48; refine (HO.out _).mono ?_; rintro e w2 ⟨rfl, hb2⟩; have HB2 : Hid (Below w1.heap.size w1 w2) := Lib.hid hb2; clear hb2 y0 y1 y2 y3; obtain ⟨y0, y1, y2, y3⟩ := HCL.out w2 HB2.out)
  go_loopw [4, 5] (fun tv iv wr => ∃ i : Nat, iv = .int .i64 i ∧ i ≤ N ∧ tv = .string (bs (upA l us i)) ∧ Below w1.heap.size w1 wr) (fun _ iv _ => N - (intOf iv).toNat)
  case atStart => exact ⟨0, rfl, by omega, by rw [← H0.out], HB2.out⟩
  case round =>
    obtain ⟨i, rfl, hi, rfl, hb⟩ := hrel
    have HB := Lib.hid hb
    clear y0 y1 y2 y3
    obtain ⟨y0, y1, y2, y3⟩ := HCL.out wr hb
    have hiI : (i : Int) ≤ (N : Int) := by omega
    have hs1 : (bs (upA l us i)).size ≤ 4000000000 := by rw [bs_sz (HUP.out i)]; exact HUL.out i
    by_cases hiN : i = N
    · subst hiN
      have hz2 : ¬ 9223372036854775807 < (bs (upA l us i)).size + 1 := by omega
      obtain ⟨V, hV⟩ : ∃ V, V = bs (upA l us i) := ⟨_, rfl⟩
      rw [← hV] at HFIN hz2 ⊢
      clear hi hb hs1 hV
      go_wp2
      go_ret
      exact ⟨by rw [← HFIN.out]; rfl, bthen HB1.out HB.out⟩
    · have hil : i < us.length := by have := HN.out; omega
      have hii : (i : Int) < (N : Int) := by omega
      have HU : Hid (us[i]? = some us[i]) := Lib.hid (List.getElem?_eq_getElem hil)
      obtain ⟨u, hu⟩ : ∃ u, u = us[i] := ⟨_, rfl⟩
      rw [← hu] at HU
      obtain ⟨b, o, k1, c1, hka, x0, x1, x2, x3, -, hkr⟩ := (HRA.out.below hb).kid HU.out
      subst hka
      have hmem := List.mem_of_getElem? HU.out
      obtain ⟨S, hS⟩ : ∃ S, S = bs (txI (wI u)) := ⟨_, rfl⟩
      have HK : Hid (Calls Tryd.prog 26 #[.agg #[.int .i64 u.kind, .string u.text, .int .i64 u.num, .slice k1 u.args.length c1]] wr fun e w' => e = .returned (.string S) ∧ Below wr.heap.size wr w') := Lib.hid (by rw [hS]; exact HIH.out u hmem T k1 c1 wr hkr)
      have h8u := tx8 (HWELL.out u hmem)
      have hsn : (upA l us (i + 1)).length ≤ 4000000000 := HUL.out (i + 1)
      have HIN : Hid (i < N) := Lib.hid (by omega)
      by_cases h0 : i = 0
      · subst h0
        have HN1 : Hid (bs (upA l us 0) ++ S = bs (upA l us (0 + 1))) := Lib.hid (by
          rw [hS, bs_app (HUP.out 0) h8u, upA_one HU.out, br_one])
        have hsz : ¬ 9223372036854775807 < (bs (upA l us 0)).size + S.size := by
          rw [hS, bs_sz (HUP.out 0), bs_sz h8u]
          rw [upA_one HU.out, br_one, List.length_append] at hsn
          omega
        obtain ⟨V, hV⟩ : ∃ V, V = bs (upA l us 0) := ⟨_, rfl⟩
        rw [← hV] at HN1 hsz ⊢
        simp only [Nat.zero_mul, Nat.add_zero] at x0 x1 x2 x3
        clear hb hs1 hu hkr hil hiN hi hmem hS h8u hsn hV
        go_wp2_with (go_at_call 26; refine HK.out.mono ?_; rintro e w5 ⟨rfl, hb5⟩; have HB5 := Lib.hid hb5; clear hb5)
        exact ⟨⟨0 + 1, by go_num, HIN.out, by rw [← HN1.out], bthen HB.out HB5.out⟩, by have := HIN.out; simp only [intOf]; omega⟩
      · have h0i : (0 : Int) < (i : Int) := by omega
        have h0n : 0 < i := by omega
        have HN1 : Hid (bs (upA l us i) ++ ⟨#[44, 32]⟩ ++ S = bs (upA l us (i + 1))) := Lib.hid (by
          rw [upA_succ HU.out h0n, br_one, hS, ← bs_app (by intro c hc; rcases List.mem_append.1 hc with h | h; (exact HUP.out i c h); (simp at h; omega)) h8u, ← bs_app (HUP.out i) (by decide)]
          rfl)
        have hsz1 : ¬ 9223372036854775807 < (bs (upA l us i)).size + 2 := by omega
        have hsz2 : ¬ 9223372036854775807 < (bs (upA l us i)).size + 2 + S.size := by
          rw [hS, bs_sz (HUP.out i), bs_sz h8u]
          rw [upA_succ HU.out h0n, br_one, List.length_append, List.length_append, show ([44, 32] : List Nat).length = 2 from rfl] at hsn
          omega
        obtain ⟨V, hV⟩ : ∃ V, V = bs (upA l us i) := ⟨_, rfl⟩
        rw [← hV] at HN1 hsz1 hsz2 ⊢
        clear hb hs1 hu hkr hil hiN hi hmem hS h8u hsn hV h0 h0n
        go_wp2_with (go_at_call 26; refine HK.out.mono ?_; rintro e w5 ⟨rfl, hb5⟩; have HB5 := Lib.hid hb5; clear hb5)
        exact ⟨⟨i + 1, by go_num, HIN.out, by rw [← HN1.out], bthen HB.out HB5.out⟩, by have := HIN.out; simp only [intOf]; omega⟩

theorem rwr_all : ∀ (m : Nat) (t : Ex), t.size ≤ m → Well t → wt t ≤ 4000000000 → RWr t
  | 0, t, h, _, _ => absurd t.size_pos (by omega)
  | m + 1, t, hm, hw, hwt => by
    have kw : ∀ u ∈ t.args, wt u ≤ 4000000000 := fun u hu => by
      obtain ⟨i, hi⟩ := List.getElem?_of_mem hu
      exact Nat.le_trans (wt_kid hi) hwt
    have Q : ∀ u ∈ t.args, RWr u := fun u hu => rwr_all m u (by have := kid_lt hu; omega) (hw.kid hu) (kw u hu)
    have R : ∀ u ∈ t.args, RAt u := fun u hu => rat_of u (hw.kid hu) (kw u hu) (Q u hu)
    by_cases hk : t.kind = 4
    · rcases look hw with ⟨n, he, hn⟩ | ⟨x, he, h8⟩ | ⟨x, he, h8, hl⟩ | ⟨v, x, a, b, rfl, hv, hl⟩ | ⟨a, rfl⟩ | ⟨a, b, c, rfl⟩ | ⟨x, us, rfl, hn, hl⟩
      · exact absurd hk (by rw [he]; simp [Ex.kind])
      · exact absurd hk (by rw [he]; simp [Ex.kind])
      · exact absurd hk (by rw [he]; simp [Ex.kind])
      · have ma : a ∈ (callE x [a, b]).args := by simp [callE, Ex.args]
        have mb : b ∈ (callE x [a, b]).args := by simp [callE, Ex.args]
        by_cases h4 : v = 4
        · subst h4; exact rwr_cmp x a b hl hw hwt (R a ma) (Q a ma) (R b mb) (Q b mb)
        · exact rwr_bin v x a b hv hl h4 hw hwt (R a ma) (Q a ma) (R b mb) (Q b mb)
      · have ma : a ∈ (callE wNot [a]).args := by simp [callE, Ex.args]
        exact rwr_neg a hw hwt (R a ma) (Q a ma)
      · have ma : a ∈ (callE wCut [a, b, c]).args := by simp [callE, Ex.args]
        have mb : b ∈ (callE wCut [a, b, c]).args := by simp [callE, Ex.args]
        have mc : c ∈ (callE wCut [a, b, c]).args := by simp [callE, Ex.args]
        exact rwr_cut a b c hw hwt (R a ma) (Q a ma) (R b mb) (Q b mb) (R c mc) (Q c mc)
      · exact rwr_app x us hn hl hw hwt (fun u hu => Q u hu)
    · exact rwr_leaf t hw hwt hk
theorem rwrite_any {t : Ex} (hw : Well t) (hwt : wt t ≤ 4000000000) : RWr t := rwr_all t.size t (Nat.le_refl _) hw hwt

set_option maxRecDepth 100000 in
set_option maxHeartbeats 2000000 in
/-- the reference's Format -/
theorem rformat_any (T : Nat → Prop) (t : Ex) (ka : Option Addr) (kc : Nat) (w : World) (hra : RdA T w t.args ka) (hsz : t.size ≤ 1000000) (hwt : wt t ≤ 4000000000) :
    Calls Tryd.prog 10 #[exV t ka kc] w fun e w' => e = .returned (.tuple #[.string (bs (fmtP t).2), .int .i64 ((fmtP t).1 : Nat)]) ∧ Below w.heap.size w w' := by
  obtain ⟨n, hn⟩ : ∃ n, n = t.args.length := ⟨_, rfl⟩
  obtain ⟨w1, hw1⟩ : ∃ w1, w1 = w.alloc (.cells #[.int .i64 t.kind, .string t.text, .int .i64 t.num, .slice ka n kc] 25) := ⟨_, rfl⟩
  obtain ⟨g, hg⟩ : ∃ g, g = w.heap.size := ⟨_, rfl⟩
  have HB1 : Hid (Below w.heap.size w w1) := Lib.hid (by rw [hw1]; exact below_alloc _ _)
  have HCL : Hid (∀ wx, Below w1.heap.size w1 wx → wx.cell? ⟨g, 0, none⟩ = some (.int .i64 t.kind) ∧ wx.cell? ⟨g, 1, none⟩ = some (.string t.text) ∧ wx.cell? ⟨g, 2, none⟩ = some (.int .i64 t.num) ∧ wx.cell? ⟨g, 3, none⟩ = some (.slice ka n kc)) := Lib.hid (fun wx hb =>
    ⟨below_cell hb (by rw [hw1, hg]; simp), below_cell hb (by rw [hw1, hg]; simp), below_cell hb (by rw [hw1, hg]; simp), below_cell hb (by rw [hw1, hg]; simp)⟩)
  have HRA := Lib.hid (hra.below HB1.out)
  have htx : t.all (fun u => decide (u.text.size ≤ 4000000000)) := by
    have : ∀ (m : Nat) (t : Ex), t.size ≤ m → wt t ≤ 4000000000 → t.all (fun u => decide (u.text.size ≤ 4000000000)) := by
      intro m
      induction m with
      | zero => intro t h; exact absurd t.size_pos (by omega)
      | succ m ih =>
        intro t hm hwt
        refine (Ex.all_eq _ t).2 ⟨?_, fun i u hu => ih u ?_ (Nat.le_trans (wt_kid hu) hwt)⟩
        · have h1 := wt_eq t
          simp only [decide_eq_true_eq]; omega
        · have := Ex.size_kid hu
          have := t.size_eq
          omega
    exact this t.size t (Nat.le_refl _) hwt
  have HWL : Hid (∀ wx, Below w1.heap.size w1 wx → Calls Tryd.prog 13 #[.agg #[.int .i64 t.kind, .string t.text, .int .i64 t.num, .slice ka n kc]] wx fun e w' => e = .returned (.bool (wB t)) ∧ Below wx.heap.size wx w') := Lib.hid (fun wx hb => by rw [hn]; exact rwell_any t.size T t ka kc wx (Nat.le_refl _) hsz htx (HRA.out.below hb))
  have HDP : Hid (∀ wx, Below w1.heap.size w1 wx → Calls Tryd.prog 25 #[.agg #[.int .i64 t.kind, .string t.text, .int .i64 t.num, .slice ka n kc]] wx fun e w' => e = .returned (.int .i64 (t.depth : Nat)) ∧ Below wx.heap.size wx w') := Lib.hid (fun wx hb => by rw [hn]; exact rdepth_any t.size T t ka kc wx (Nat.le_refl _) hsz (HRA.out.below hb))
  have HW1 := Lib.hid hw1
  have HGG := Lib.hid hg
  have hd9 : (t.depth : Int) ≤ 1000000 := by have := t.depth_le; omega
  obtain ⟨d, hd⟩ : ∃ d, d = t.depth := ⟨_, rfl⟩
  rw [← hd] at HDP hd9
  unfold exV
  obtain ⟨y0, y1, y2, y3⟩ := HCL.out w1 (Below.refl _ _)
  by_cases hw : Well t
  rotate_left
  · have hb0 : wB t = false := by
      cases h : wB t with
      | false => rfl
      | true => exact absurd ((wB_iff t).1 h) hw
    have HF := Lib.hid (fmtP_bad hw)
    rw [hb0] at HWL
    rw [← hn]
    clear hra hw1 hg hn hsz hwt htx hw hb0 hd
    go_enter Tryd.func10, Tryd.ntmps10
    go_upto_region 1 with fail
    rw [← HW1.out, ← HGG.out]
    go_wp2_with (go_at_call 13; refine (HWL.out _ (Below.refl _ _)).mono ?_; rintro e w2 ⟨rfl, hb2⟩; have HB2 := Lib.hid hb2; clear hb2)
    refine bodyPost_ret (v := .tuple #[.string ⟨#[]⟩, .int .i64 4]) (by simp [results, Tryd.results10, go_sem]; try rfl) rfl ?_
    exact ⟨by rw [HF.out]; rfl, bthen HB1.out HB2.out⟩
  rw [(wB_iff t).2 hw] at HWL
  by_cases hdd : 64 < t.depth
  · have HF := Lib.hid (fmtP_deep hw hdd)
    have hdi : (64 : Int) < (d : Int) := by omega
    rw [← hn]
    clear hra hw1 hg hn hsz hwt htx hw hd hdd
    go_enter Tryd.func10, Tryd.ntmps10
    go_upto_region 1 with fail
    rw [← HW1.out, ← HGG.out]
    go_wp2_with (first
      | (go_at_call 13; refine (HWL.out _ (Below.refl _ _)).mono ?_; rintro e w2 ⟨rfl, hb2⟩; have HB2 : Hid (Below w1.heap.size w1 w2) := Lib.hid hb2; clear hb2 y0 y1 y2 y3; obtain ⟨y0, y1, y2, y3⟩ := HCL.out w2 HB2.out)
      | (go_at_call 25; refine (HDP.out _ HB2.out).mono ?_; rintro e w3 ⟨rfl, hb3⟩; have HB3 : Hid (Below w1.heap.size w1 w3) := Lib.hid (bthen HB2.out hb3); clear hb3 y0 y1 y2 y3; obtain ⟨y0, y1, y2, y3⟩ := HCL.out w3 HB3.out))
    refine bodyPost_ret (v := .tuple #[.string ⟨#[]⟩, .int .i64 9]) (by simp [results, Tryd.results10, go_sem]; try rfl) rfl ?_
    exact ⟨by rw [HF.out]; rfl, bthen HB1.out HB3.out⟩
  have hdi : decide ((64 : Int) < (d : Int)) = false := decide_eq_false (by omega)
  obtain ⟨S, hS⟩ : ∃ S, S = bs (txI (wI t)) := ⟨_, rfl⟩
  have HWR : Hid (∀ wx, Below w1.heap.size w1 wx → Calls Tryd.prog 26 #[.agg #[.int .i64 t.kind, .string t.text, .int .i64 t.num, .slice ka n kc]] wx fun e w' => e = .returned (.string S) ∧ Below wx.heap.size wx w') := Lib.hid (fun wx hb => by rw [hS, hn]; exact rwrite_any hw hwt T ka kc wx (HRA.out.below hb))
  have hSs : S.size = (txI (wI t)).length := by rw [hS]; exact fm_size hw
  by_cases hL : 4096 < (txI (wI t)).length
  · have HF := Lib.hid (fmtP_long hw (by omega) hL)
    have hsi : (4096 : Int) < (S.size : Int) := by omega
    rw [← hn]
    clear hra hw1 hg hn hsz hwt htx hw hd hdd hS hSs hL
    go_enter Tryd.func10, Tryd.ntmps10
    go_upto_region 1 with fail
    rw [← HW1.out, ← HGG.out]
    go_wp2_with (first
      | (go_at_call 13; refine (HWL.out _ (Below.refl _ _)).mono ?_; rintro e w2 ⟨rfl, hb2⟩; have HB2 : Hid (Below w1.heap.size w1 w2) := Lib.hid hb2; clear hb2 y0 y1 y2 y3; obtain ⟨y0, y1, y2, y3⟩ := HCL.out w2 HB2.out)
      | (go_at_call 25; refine (HDP.out _ HB2.out).mono ?_; rintro e w3 ⟨rfl, hb3⟩; have HB3 : Hid (Below w1.heap.size w1 w3) := Lib.hid (bthen HB2.out hb3); clear hb3 y0 y1 y2 y3; obtain ⟨y0, y1, y2, y3⟩ := HCL.out w3 HB3.out)
      | (go_at_call 26; refine (HWR.out _ HB3.out).mono ?_; rintro e w4 ⟨rfl, hb4⟩; have HB4 : Hid (Below w1.heap.size w1 w4) := Lib.hid (bthen HB3.out hb4); clear hb4))
    refine bodyPost_ret (v := .tuple #[.string ⟨#[]⟩, .int .i64 9]) (by simp [results, Tryd.results10, go_sem]; try rfl) rfl ?_
    exact ⟨by rw [HF.out]; rfl, bthen HB1.out HB4.out⟩
  · have HF := Lib.hid (fmtP_ok hw (by omega) (by omega : (txI (wI t)).length ≤ 4096))
    have hsi : decide ((4096 : Int) < (S.size : Int)) = false := decide_eq_false (by omega)
    have HS := Lib.hid hS
    rw [← hn]
    clear hra hw1 hg hn hsz hwt htx hw hd hdd hS hSs hL
    go_enter Tryd.func10, Tryd.ntmps10
    go_upto_region 1 with fail
    rw [← HW1.out, ← HGG.out]
    go_wp2_with (first
      | (go_at_call 13; refine (HWL.out _ (Below.refl _ _)).mono ?_; rintro e w2 ⟨rfl, hb2⟩; have HB2 : Hid (Below w1.heap.size w1 w2) := Lib.hid hb2; clear hb2 y0 y1 y2 y3; obtain ⟨y0, y1, y2, y3⟩ := HCL.out w2 HB2.out)
      | (go_at_call 25; refine (HDP.out _ HB2.out).mono ?_; rintro e w3 ⟨rfl, hb3⟩; have HB3 : Hid (Below w1.heap.size w1 w3) := Lib.hid (bthen HB2.out hb3); clear hb3 y0 y1 y2 y3; obtain ⟨y0, y1, y2, y3⟩ := HCL.out w3 HB3.out)
      | (go_at_call 26; refine (HWR.out _ HB3.out).mono ?_; rintro e w4 ⟨rfl, hb4⟩; have HB4 : Hid (Below w1.heap.size w1 w4) := Lib.hid (bthen HB3.out hb4); clear hb4))
    refine bodyPost_ret (v := .tuple #[.string S, .int .i64 0]) (by simp [results, Tryd.results10, go_sem]; try rfl) rfl ?_
    exact ⟨by rw [HF.out, HS.out]; rfl, bthen HB1.out HB4.out⟩

end Go.Proofs.YtpabngicbfcdkaaDoor

/- SyntaxFormats: the walk. -/
namespace Go.Proofs.YtpabngicbfcdkaaDoor
open Go.RowKit
set_option linter.unusedVariables false
set_option linter.unusedSimpArgs false

set_option maxRecDepth 100000 in
set_option maxHeartbeats 4000000 in
theorem walk_SyntaxFormats (a0 : Option Addr) (len0 cap0 : Nat) (l0 : List Nd) (W : World) (h0 : RdN W (fun b => b < W.heap.size) a0 len0 l0) (s0 : ∀ x ∈ l0, x.2.1.size ≤ 1048576) (ht : TAB W.heap.size W) :
    Calls Tryd.prog 3 #[.slice a0 len0 cap0] W fun e W' => e = .returned (.bool true) ∧ Below W.heap.size W W' := by
  have HT := Lib.hid (Tree_box a0 len0 cap0 l0 W h0 s0)
  have HTAB := Lib.hid ht
  have HAW := Lib.hid (fun (w : World) => awake_any w)
  clear h0 s0 ht
  go_enter Tryd.func3, Tryd.ntmps3
  go_upto_region 2 with (go_at_call 8; refine HT.out.mono ?_; rintro e w1 ⟨t, k1, m1, x1, n1, a1, c1, ok, rfl, htb⟩)
  obtain ⟨w2, hw2⟩ : ∃ w2, w2 = w1.alloc (.cells #[.int .i64 k1, .string x1, .int .i64 m1, .slice a1 n1 c1] 25) := ⟨_, rfl⟩
  obtain ⟨be, hbe⟩ : ∃ be, be = w1.heap.size := ⟨_, rfl⟩
  have HTB := Lib.hid (htb w2 be hw2 hbe)
  rw [← hw2, ← hbe]
  clear hw2 hbe htb
  obtain ⟨y0, y1, y2, y3⟩ := HTB.out.cl (Below.refl _ _)
  cases ok with
  | false =>
    go_wp2
    refine bodyPost_ret (v := .bool true) (by simp [results, Tryd.results3, go_sem]; try rfl) rfl ?_
    exact ⟨rfl, HTB.out.bw⟩
  | true =>
    obtain ⟨hsz, hwt⟩ := HTB.out.sz rfl
    obtain ⟨S, hS⟩ : ∃ S, S = bs (fmtP t).2 := ⟨_, rfl⟩
    obtain ⟨k, hk⟩ : ∃ k, k = (fmtP t).1 := ⟨_, rfl⟩
    have HF : Hid (∀ wx, Below w2.heap.size w2 wx → Calls Tryd.prog 9 #[.agg #[.int .i64 k1, .string x1, .int .i64 m1, .slice a1 n1 c1]] wx fun e w' => e = .returned (.tuple #[.string S, errN k]) ∧ Below wx.heap.size wx w') := Lib.hid (fun wx hb => by
      rw [hS, hk]; exact (HTB.out.tv.below hb).fmt (by omega) (HTB.out.tab HTAB.out hb))
    have HR : Hid (∀ wx, Below w2.heap.size w2 wx → Calls Tryd.prog 10 #[.agg #[.int .i64 k1, .string x1, .int .i64 m1, .slice a1 n1 c1]] wx fun e w' => e = .returned (.tuple #[.string S, .int .i64 (k : Nat)]) ∧ Below wx.heap.size wx w') := Lib.hid (fun wx hb => by
      rw [hS, hk, HTB.out.tv.val]
      obtain ⟨T, hT⟩ := HTB.out.tv.ra
      exact rformat_any T t a1 c1 wx (hT.below hb) (by omega) (by omega))
    have HNM := Lib.hid (fun w => num_errN k w)
    have hss : (S.toList == S.toList) = true := by simp
    have hk9 : (k : Int) ≤ 9 := by
      rw [hk]
      rcases fmtP_cases t with ⟨-, h⟩ | ⟨-, h⟩ | ⟨-, -, -, h⟩ <;> simp [h]
    clear hS hk hsz hwt
    go_wp2_with (first
      | (go_at_call 12; refine (HNM.out _).mono ?_; rintro e w6 ⟨rfl, rfl⟩)
      | (go_at_call 11; refine (HAW.out _).mono ?_; rintro e w5 ⟨rfl, hb5⟩; have HB5 : Hid (Below w2.heap.size w2 w5) := Lib.hid (bthen HB4.out hb5); clear hb5; clear y0 y1 y2 y3; obtain ⟨y0, y1, y2, y3⟩ := HTB.out.cl HB5.out)
      | (go_at_call 10; refine (HR.out _ HB3.out).mono ?_; rintro e w4 ⟨rfl, hb4⟩; have HB4 : Hid (Below w2.heap.size w2 w4) := Lib.hid (bthen HB3.out hb4); clear hb4; clear y0 y1 y2 y3; obtain ⟨y0, y1, y2, y3⟩ := HTB.out.cl HB4.out)
      | (go_at_call 9; refine (HF.out _ (Below.refl _ _)).mono ?_; rintro e w3 ⟨rfl, hb3⟩; have HB3 : Hid (Below w2.heap.size w2 w3) := Lib.hid (hb3); clear hb3; clear y0 y1 y2 y3; obtain ⟨y0, y1, y2, y3⟩ := HTB.out.cl HB3.out))
    refine bodyPost_ret (v := .bool true) (by simp [results, Tryd.results3, go_sem]; try rfl) rfl ?_
    exact ⟨rfl, bthen HTB.out.bw HB5.out⟩

end Go.Proofs.YtpabngicbfcdkaaDoor

/- What the rows of the Door list: the table of powers of ten, as the walks read it; a world that holds what is listed. -/
namespace Go.Proofs.YtpabngicbfcdkaaDoor
open Go.ChangeShapes Go.WideShapes Go.ChangeAt Go.RowKit
set_option linter.unusedVariables false
set_option linter.unusedSimpArgs false

theorem gPow : Tryd.prog.globalNamed "internal/strconv.uint64pow10" = some 1 := by kernel_rfl
theorem gPowType : (Tryd.prog.globals[1]?).map (·.type) = some 123 := by kernel_rfl
theorem cellsArr20 : Tryd.prog.cellsOf 123 = 20 := by kernel_rfl
theorem cellsU64 : Tryd.prog.cellsOf 115 = 1 := by kernel_rfl
abbrev laid3 : List (String × DataW Unit) := [("math/bits.deBruijn32tab", Rows.laid_math_bits_deBruijn32tab), ("math/bits.deBruijn64tab", Rows.laid_math_bits_deBruijn64tab), ("internal/strconv.uint64pow10", Rows.laid_internal_strconv_uint64pow10)]
/-- WHAT THE ROW's LIST GIVES: the table of powers of ten. -/
theorem tabW_of {W : World} (h : laidMetH Tryd.prog laid3 W) : TabW W := by
  have h2 : laidMet Tryd.prog laid3 W := h
  exact Lib.tabIs_of_head (rest := []) gPow gPowType Tryd.underlying123 Tryd.underlying115 cellsU64 cellsArr20 h2.tail.tail
theorem tab_lt {W : World} (h : laidMetH Tryd.prog laid3 W) : 1 < W.heap.size :=
  World.block_lt_of_cell? W _ ((tabW_of h).cell gPow 0 (by decide))
theorem tab_of {W : World} (h : laidMetH Tryd.prog laid3 W) (hb : 1 < W.heap.size) : TAB W.heap.size W := fun w' hw => by
  have h1 := tabW_of h
  unfold TabW Lib.TabIs at h1 ⊢
  exact var?_below hw gPow hb h1
theorem laid_met (os : Os) (args : Array Value) : laidMetH Tryd.prog laid3 ((World.doorLaid Tryd.prog 24 os).forCall (fun _ _ => 0) ⟨#[], args, []⟩).memory :=
  laidMetH_of_parts3 (fuel := 8) (laidMet_of_run' 8 (by kernel_rfl) (by kernel_rfl)) (by kernel_rfl) (by kernel_rfl)

end Go.Proofs.YtpabngicbfcdkaaDoor

/- what the bound of the second form gives (from the seat's own example). -/
namespace Go.Proofs.YtpabngicbfcdkaaDoor.bulks

theorem one_le {H : Type} (d : DataW H) : 1 ≤ Rows.uptoBulk d := by
  cases d with
  | lit l => cases l <;> simp [Rows.uptoBulk]
  | nil => simp [Rows.uptoBulk]
  | ptr d => simp [Rows.uptoBulk]
  | slice elems spare => simp [Rows.uptoBulk]
  | agg parts => simp [Rows.uptoBulk]
  | iface t d => simp [Rows.uptoBulk]
  | map entries => simp [Rows.uptoBulk]
  | held h => simp [Rows.uptoBulk]

/-- a part's bulk is at most the whole's -/
theorem part_le {H : Type} {d : DataW H} {l : List (DataW H)} (h : d ∈ l) : Rows.uptoBulk d ≤ Rows.uptoBulkAll l := by
  induction l with
  | nil => cases h
  | cons x r ih =>
    simp only [Rows.uptoBulkAll]
    cases List.mem_cons.1 h with
    | inl e => subst e; omega
    | inr e => have := ih e; omega

theorem append {H : Type} (l r : List (DataW H)) : Rows.uptoBulkAll (l ++ r) = Rows.uptoBulkAll l + Rows.uptoBulkAll r := by
  induction l with
  | nil => simp [Rows.uptoBulkAll]
  | cons x l ih => simp only [List.cons_append, Rows.uptoBulkAll, ih]; omega

/-- so many values at the most -/
theorem length_le {H : Type} (l : List (DataW H)) : l.length ≤ Rows.uptoBulkAll l := by
  induction l with
  | nil => simp [Rows.uptoBulkAll]
  | cons x r ih => have := one_le x; simp only [Rows.uptoBulkAll, List.length_cons]; omega

/-- a slice's places, and what they hold -/
theorem slice_le {H : Type} (elems spare : List (DataW H)) : elems.length + spare.length + 1 ≤ Rows.uptoBulk (.slice elems spare) := by
  have h1 := length_le elems
  have h2 := length_le spare
  simp only [Rows.uptoBulk]
  omega
theorem slice_elems {H : Type} (elems spare : List (DataW H)) : Rows.uptoBulkAll elems + 1 ≤ Rows.uptoBulk (.slice elems spare) := by
  simp only [Rows.uptoBulk]
  omega

/-- a string's letters -/
theorem string_eq {H : Type} (bytes : List UInt8) : Rows.uptoBulk (DataW.lit (H := H) (.string bytes)) = bytes.length + 1 := by
  simp [Rows.uptoBulk]

/-- THE BOUND, as the builder hands it over ('hk') -/
theorem bound {H : Type} {l : List (DataW H)} (hk : Rows.uptoSmall H l = true) : Rows.uptoBulkAll l ≤ 1048576 := by
  simpa [Rows.uptoSmall] using hk

/-- ROOM: a slice of n elements of b bytes, grown by append: below the 2^48 bytes that append, make and a Builder bear. Here n up to 2^21, b up to 4,096: put your own numbers. -/
theorem room {n b : Nat} (hn : n ≤ 2097152) (hb : b ≤ 4096) : (n + n / 4 + 192) * b ≤ 281474976710656 := by
  have h : (n + n / 4 + 192) * b ≤ 2621632 * 4096 := Nat.mul_le_mul (by omega) hb
  omega

end Go.Proofs.YtpabngicbfcdkaaDoor.bulks

/- fields of arguments, opened: a list of integers. -/
namespace Go.Proofs.YtpabngicbfcdkaaDoor
open Go.RowKit Go.ChangeShapes Go.WideShapes Go.Deep Go.Joins
set_option linter.unusedVariables false
set_option linter.unusedSimpArgs false

theorem spot_none {w : World} {a : Addr} {v : Value} (h : w.cell? (a.add 0) = some v) : ∃ b off, a = ⟨b, off, none⟩ := by
  have hs := World.cell?_spot h
  obtain ⟨b, off, spot⟩ := a
  have : spot = none := by simpa [Addr.add] using hs
  subst this
  exact ⟨b, off, rfl⟩

theorem open_rd1 {H : Type} {enc : TypeId × Value → H} {P : Program} {W : World} {n : Nat} {v : Value} {y : DataW H × List MemPlace} {t e : TypeId} {k : IntKind} (ht : P.underlying t = some (.slice e)) (he : P.underlying e = some (.int k)) (hc : P.cellsOf e = 1)
    (h : DataW.trod enc P W 0 (fun _ => true) true n t [v] = some y) : ∃ a len cap l, v = .slice a len cap ∧ Rd W k a len l ∧ (len ≤ cap ∧ (a = none → cap = 0)) := by
  have h2 : ∃ a len cap, v = .slice a len cap ∧ (a = none → cap = 0) := by
    rcases open_ints ht he hc h with ⟨hcs, _⟩ | ⟨x, l, c', zs, hcs, _⟩
    · exact ⟨none, 0, 0, by simpa using hcs, fun _ => rfl⟩
    · exact ⟨_, _, _, by simpa using hcs, fun h => by cases h⟩
  obtain ⟨a, len, cap, rfl, h0⟩ := h2
  obtain ⟨l, h3, h4, _⟩ := open_rd (d := y.1) (p := y.2) ht he hc ⟨n, by simpa [Value.cells] using h⟩
  exact ⟨a, len, cap, l, rfl, h3, h4, h0⟩

end Go.Proofs.YtpabngicbfcdkaaDoor
