/-
  The reference's parser: must, call, Level.
-/
import Derived.Test.YtpabngicbfcdkaaRp1
namespace Go.Proofs.Ytpabngicbfcdkaa
open Go.RowKit
set_option linter.unusedVariables false
set_option linter.unusedSimpArgs false

set_option maxRecDepth 100000 in
set_option maxHeartbeats 1500000 in
/-- a sign is passed, or the parser goes bad -/
theorem must_any (l : List Nat) (h8 : ∀ c ∈ l, c < 256) (hl : l ∈ signL) {w : World} {pb A ts bad} (hp : RPS w pb A ts bad) :
    Calls Try.prog 59 #[.pointer (some ⟨pb, 0, none⟩), .string (bs l)] w fun e w' => e = .returned (.tuple #[]) ∧ RPS w' pb A (if isT 5 [l] ts then ts.tail else ts) (if isT 5 [l] ts then bad else true) ∧ Fr (fun x => x = pb) w w' := by
  have HIS := Lib.hid (is_any 5 l h8 (by omega) (fun t ht h4 he => ht.kind5 h4 hl he) hp)
  have HP := Lib.hid hp
  cases hi : isT 5 [l] ts with
  | true =>
    rw [hi] at HIS
    obtain ⟨t, r, rfl⟩ : ∃ t r, ts = t :: r := by
      cases ts with
      | nil => cases hi
      | cons a b => exact ⟨a, b, rfl⟩
    clear hi hp h8 hl
    go_enter Try.func59, Try.ntmps59
    go_upto_region 2 with (go_at_call 42; refine HIS.out.mono ?_; rintro e w2 ⟨rfl, hb2⟩; have HB2 := Lib.hid hb2; clear hb2)
    have HP2 := Lib.hid (HP.out.below HB2.out)
    obtain ⟨p, b, c1, hpl, -, -, -, -, -, -, -, -, -⟩ := HP2.out.head
    have HC1 := Lib.hid c1
    have hpi : (p : Int) ≤ 1000000 := by have := HP2.out.lim; omega
    have cf1 := HP2.out.fz 1
    clear hpl
    go_wp2
    refine bodyPost_end (v := .tuple #[]) (by simp [results, Try.results59, go_sem]; try rfl) rfl ?_
    exact ⟨rfl, by simpa using HP2.out.setAt HC1.out rfl, (Fr.of_below (S := fun x => x = pb) HB2.out).setCell (p := ⟨pb, 1, none⟩) rfl _⟩
  | false =>
    rw [hi] at HIS
    clear hi hp h8 hl
    go_enter Try.func59, Try.ntmps59
    go_upto_region 1 with (go_at_call 42; refine HIS.out.mono ?_; rintro e w2 ⟨rfl, hb2⟩; have HB2 := Lib.hid hb2; clear hb2)
    have HP2 := Lib.hid (HP.out.below HB2.out)
    have c2 := HP2.out.c2
    have cf2 := HP2.out.fz 2
    go_wp2
    refine bodyPost_ret (v := .tuple #[]) (by simp [results, Try.results59, go_sem]; try rfl) rfl ?_
    exact ⟨rfl, by simpa using HP2.out.setBad, (Fr.of_below (S := fun x => x = pb) HB2.out).setCell (p := ⟨pb, 2, none⟩) rfl _⟩

set_option maxRecDepth 100000 in
set_option maxHeartbeats 1500000 in
theorem rcall_any (s : ByteArray) (a : Option Addr) (n c : Nat) (w : World) : Calls Try.prog 43 #[.string s, .slice a n c] w fun e w' => e = .returned (.agg #[.int .i64 4, .string s, .int .i64 0, .slice a n c]) ∧ Below w.heap.size w w' := by
  go_enter Try.func43, Try.ntmps43
  go_wp2
  exact bodyPost_ret (v := .agg #[.int .i64 4, .string s, .int .i64 0, .slice a n c]) (by simp [results, Try.results43, go_sem]; try rfl) rfl ⟨rfl, below_alloc _ _⟩

def lvR (x : List Nat) : Nat := if x = [111, 114] then 1 else if x = [97, 110, 100] then 2 else if x = [61, 61] ∨ x = [33, 61] ∨ x = [60] ∨ x = [60, 61] then 4 else if x = [43, 43] then 5 else if x = [43] ∨ x = [45] then 6 else if x = [42] then 7 else 0
theorem sq_eq {x : List Nat} (hx : ∀ c ∈ x, c < 256) (m : List Nat) (hm : ∀ c ∈ m, c < 256) (M : List UInt8) (hM : M = m.map (fun u => u.toUInt8)) {b : Bool} (hb : (x == m) = b) : ((bs x).toList == M) = b := by
  rw [hM, bs_eqs hx m hm, hb]
theorem lvR_lt (x : List Nat) : lvR x ≤ 7 ∧ lvR x ≠ 3 := by
  unfold lvR
  repeat' split
  all_goals omega
theorem lvR_iff (n : Nat) (h1 : 1 ≤ n) (h7 : n ≤ 7) (h3 : n ≠ 3) (x : List Nat) : lvR x = n ↔ x ∈ lvlO n := by
  constructor
  · intro h
    unfold lvR at h
    split at h
    · rename_i e; subst h; rw [e]; decide
    split at h
    · rename_i e; subst h; rw [e]; decide
    split at h
    · rename_i e; subst h; rcases e with e | e | e | e <;> (rw [e]; decide)
    split at h
    · rename_i e; subst h; rw [e]; decide
    split at h
    · rename_i e; subst h; rcases e with e | e <;> (rw [e]; decide)
    split at h
    · rename_i e; subst h; rw [e]; decide
    · omega
  · intro h
    rcases Nat.lt_or_ge n 3 with h9 | h9
    · rcases Nat.lt_or_ge n 2 with h8 | h8
      · obtain rfl : n = 1 := by omega
        simp [lvlO] at h; subst h; rfl
      · obtain rfl : n = 2 := by omega
        simp [lvlO] at h; subst h; rfl
    · rcases Nat.lt_or_ge n 5 with h8 | h8
      · obtain rfl : n = 4 := by omega
        simp [lvlO] at h
        rcases h with rfl | rfl | rfl | rfl <;> rfl
      · rcases Nat.lt_or_ge n 6 with h6 | h6
        · obtain rfl : n = 5 := by omega
          simp [lvlO] at h; subst h; rfl
        · rcases Nat.lt_or_ge n 7 with h5 | h5
          · obtain rfl : n = 6 := by omega
            simp [lvlO] at h
            rcases h with rfl | rfl <;> rfl
          · obtain rfl : n = 7 := by omega
            simp [lvlO] at h; subst h; rfl
/-- the reference's test is the parser's -/
theorem lvl_isT (n : Nat) (h1 : 1 ≤ n) (h7 : n ≤ 7) (h3 : n ≠ 3) {t : Tk} {r : List Tk} (hwt : WT t) : isT (lvlK n) (lvlO n) (t :: r) = (decide (4 ≤ t.1.1) && decide (lvR t.1.2.1 = n)) := by
  rw [Bool.eq_iff_iff]
  simp only [isT, Bool.and_eq_true, beq_iff_eq, List.contains_iff_mem, decide_eq_true_eq]
  rw [lvR_iff n h1 h7 h3]
  have hw : n ≤ 2 → ∀ l ∈ lvlO n, l.all letB = true := fun h => by
    rcases Nat.lt_or_ge n 2 with h8 | h8
    · obtain rfl : n = 1 := by omega
      decide
    · obtain rfl : n = 2 := by omega
      decide
  have hs : 2 < n → ∀ l ∈ lvlO n, l ∈ signL := fun h => by
    have : n = 4 ∨ n = 5 ∨ n = 6 ∨ n = 7 := by omega
    rcases this with rfl | rfl | rfl | rfl <;> decide
  constructor
  · rintro ⟨ha, hb⟩
    refine ⟨?_, hb⟩
    rw [ha]; unfold lvlK; split <;> omega
  · rintro ⟨ha, hb⟩
    refine ⟨?_, hb⟩
    unfold lvlK
    split
    · rename_i h; exact hwt.kind4 ha (hw h _ hb) rfl
    · rename_i h; exact hwt.kind5 ha (hs (by omega) _ hb) rfl

set_option maxRecDepth 100000 in
set_option maxHeartbeats 1500000 in
theorem rLevel_any (x : List Nat) (hx : ∀ c ∈ x, c < 256) (w : World) : Calls Try.prog 45 #[.string (bs x)] w fun e w' => e = .returned (.int .i64 (lvR x : Nat)) ∧ w = w' := by
  by_cases e0 : x = [111, 114]
  · have HE : Hid (lvR x = 1) := Lib.hid (by rw [e0]; rfl)
    have f0 : ((bs x).toList == [111, 114]) = true := sq_eq hx [111, 114] (by decide) _ rfl (by rw [beq_iff_eq]; exact e0)
    clear hx e0
    go_enter Try.func45, Try.ntmps45
    go_wp2
    go_ret
    exact ⟨by rw [HE.out]; rfl, rfl⟩
  by_cases e1 : x = [97, 110, 100]
  · have HE : Hid (lvR x = 2) := Lib.hid (by rw [e1]; rfl)
    have f0 : ((bs x).toList == [111, 114]) = false := sq_eq hx [111, 114] (by decide) _ rfl (by rw [beq_eq_false_iff_ne]; exact e0)
    have f1 : ((bs x).toList == [97, 110, 100]) = true := sq_eq hx [97, 110, 100] (by decide) _ rfl (by rw [beq_iff_eq]; exact e1)
    clear hx e0 e1
    go_enter Try.func45, Try.ntmps45
    go_wp2
    go_ret
    exact ⟨by rw [HE.out]; rfl, rfl⟩
  by_cases e2 : x = [61, 61]
  · have HE : Hid (lvR x = 4) := Lib.hid (by rw [e2]; rfl)
    have f0 : ((bs x).toList == [111, 114]) = false := sq_eq hx [111, 114] (by decide) _ rfl (by rw [beq_eq_false_iff_ne]; exact e0)
    have f1 : ((bs x).toList == [97, 110, 100]) = false := sq_eq hx [97, 110, 100] (by decide) _ rfl (by rw [beq_eq_false_iff_ne]; exact e1)
    have f2 : ((bs x).toList == [61, 61]) = true := sq_eq hx [61, 61] (by decide) _ rfl (by rw [beq_iff_eq]; exact e2)
    clear hx e0 e1 e2
    go_enter Try.func45, Try.ntmps45
    go_wp2
    go_ret
    exact ⟨by rw [HE.out]; rfl, rfl⟩
  by_cases e3 : x = [33, 61]
  · have HE : Hid (lvR x = 4) := Lib.hid (by rw [e3]; rfl)
    have f0 : ((bs x).toList == [111, 114]) = false := sq_eq hx [111, 114] (by decide) _ rfl (by rw [beq_eq_false_iff_ne]; exact e0)
    have f1 : ((bs x).toList == [97, 110, 100]) = false := sq_eq hx [97, 110, 100] (by decide) _ rfl (by rw [beq_eq_false_iff_ne]; exact e1)
    have f2 : ((bs x).toList == [61, 61]) = false := sq_eq hx [61, 61] (by decide) _ rfl (by rw [beq_eq_false_iff_ne]; exact e2)
    have f3 : ((bs x).toList == [33, 61]) = true := sq_eq hx [33, 61] (by decide) _ rfl (by rw [beq_iff_eq]; exact e3)
    clear hx e0 e1 e2 e3
    go_enter Try.func45, Try.ntmps45
    go_wp2
    go_ret
    exact ⟨by rw [HE.out]; rfl, rfl⟩
  by_cases e4 : x = [60]
  · have HE : Hid (lvR x = 4) := Lib.hid (by rw [e4]; rfl)
    have f0 : ((bs x).toList == [111, 114]) = false := sq_eq hx [111, 114] (by decide) _ rfl (by rw [beq_eq_false_iff_ne]; exact e0)
    have f1 : ((bs x).toList == [97, 110, 100]) = false := sq_eq hx [97, 110, 100] (by decide) _ rfl (by rw [beq_eq_false_iff_ne]; exact e1)
    have f2 : ((bs x).toList == [61, 61]) = false := sq_eq hx [61, 61] (by decide) _ rfl (by rw [beq_eq_false_iff_ne]; exact e2)
    have f3 : ((bs x).toList == [33, 61]) = false := sq_eq hx [33, 61] (by decide) _ rfl (by rw [beq_eq_false_iff_ne]; exact e3)
    have f4 : ((bs x).toList == [60]) = true := sq_eq hx [60] (by decide) _ rfl (by rw [beq_iff_eq]; exact e4)
    clear hx e0 e1 e2 e3 e4
    go_enter Try.func45, Try.ntmps45
    go_wp2
    go_ret
    exact ⟨by rw [HE.out]; rfl, rfl⟩
  by_cases e5 : x = [60, 61]
  · have HE : Hid (lvR x = 4) := Lib.hid (by rw [e5]; rfl)
    have f0 : ((bs x).toList == [111, 114]) = false := sq_eq hx [111, 114] (by decide) _ rfl (by rw [beq_eq_false_iff_ne]; exact e0)
    have f1 : ((bs x).toList == [97, 110, 100]) = false := sq_eq hx [97, 110, 100] (by decide) _ rfl (by rw [beq_eq_false_iff_ne]; exact e1)
    have f2 : ((bs x).toList == [61, 61]) = false := sq_eq hx [61, 61] (by decide) _ rfl (by rw [beq_eq_false_iff_ne]; exact e2)
    have f3 : ((bs x).toList == [33, 61]) = false := sq_eq hx [33, 61] (by decide) _ rfl (by rw [beq_eq_false_iff_ne]; exact e3)
    have f4 : ((bs x).toList == [60]) = false := sq_eq hx [60] (by decide) _ rfl (by rw [beq_eq_false_iff_ne]; exact e4)
    have f5 : ((bs x).toList == [60, 61]) = true := sq_eq hx [60, 61] (by decide) _ rfl (by rw [beq_iff_eq]; exact e5)
    clear hx e0 e1 e2 e3 e4 e5
    go_enter Try.func45, Try.ntmps45
    go_wp2
    go_ret
    exact ⟨by rw [HE.out]; rfl, rfl⟩
  by_cases e6 : x = [43, 43]
  · have HE : Hid (lvR x = 5) := Lib.hid (by rw [e6]; rfl)
    have f0 : ((bs x).toList == [111, 114]) = false := sq_eq hx [111, 114] (by decide) _ rfl (by rw [beq_eq_false_iff_ne]; exact e0)
    have f1 : ((bs x).toList == [97, 110, 100]) = false := sq_eq hx [97, 110, 100] (by decide) _ rfl (by rw [beq_eq_false_iff_ne]; exact e1)
    have f2 : ((bs x).toList == [61, 61]) = false := sq_eq hx [61, 61] (by decide) _ rfl (by rw [beq_eq_false_iff_ne]; exact e2)
    have f3 : ((bs x).toList == [33, 61]) = false := sq_eq hx [33, 61] (by decide) _ rfl (by rw [beq_eq_false_iff_ne]; exact e3)
    have f4 : ((bs x).toList == [60]) = false := sq_eq hx [60] (by decide) _ rfl (by rw [beq_eq_false_iff_ne]; exact e4)
    have f5 : ((bs x).toList == [60, 61]) = false := sq_eq hx [60, 61] (by decide) _ rfl (by rw [beq_eq_false_iff_ne]; exact e5)
    have f6 : ((bs x).toList == [43, 43]) = true := sq_eq hx [43, 43] (by decide) _ rfl (by rw [beq_iff_eq]; exact e6)
    clear hx e0 e1 e2 e3 e4 e5 e6
    go_enter Try.func45, Try.ntmps45
    go_wp2
    go_ret
    exact ⟨by rw [HE.out]; rfl, rfl⟩
  by_cases e7 : x = [43]
  · have HE : Hid (lvR x = 6) := Lib.hid (by rw [e7]; rfl)
    have f0 : ((bs x).toList == [111, 114]) = false := sq_eq hx [111, 114] (by decide) _ rfl (by rw [beq_eq_false_iff_ne]; exact e0)
    have f1 : ((bs x).toList == [97, 110, 100]) = false := sq_eq hx [97, 110, 100] (by decide) _ rfl (by rw [beq_eq_false_iff_ne]; exact e1)
    have f2 : ((bs x).toList == [61, 61]) = false := sq_eq hx [61, 61] (by decide) _ rfl (by rw [beq_eq_false_iff_ne]; exact e2)
    have f3 : ((bs x).toList == [33, 61]) = false := sq_eq hx [33, 61] (by decide) _ rfl (by rw [beq_eq_false_iff_ne]; exact e3)
    have f4 : ((bs x).toList == [60]) = false := sq_eq hx [60] (by decide) _ rfl (by rw [beq_eq_false_iff_ne]; exact e4)
    have f5 : ((bs x).toList == [60, 61]) = false := sq_eq hx [60, 61] (by decide) _ rfl (by rw [beq_eq_false_iff_ne]; exact e5)
    have f6 : ((bs x).toList == [43, 43]) = false := sq_eq hx [43, 43] (by decide) _ rfl (by rw [beq_eq_false_iff_ne]; exact e6)
    have f7 : ((bs x).toList == [43]) = true := sq_eq hx [43] (by decide) _ rfl (by rw [beq_iff_eq]; exact e7)
    clear hx e0 e1 e2 e3 e4 e5 e6 e7
    go_enter Try.func45, Try.ntmps45
    go_wp2
    go_ret
    exact ⟨by rw [HE.out]; rfl, rfl⟩
  by_cases e8 : x = [45]
  · have HE : Hid (lvR x = 6) := Lib.hid (by rw [e8]; rfl)
    have f0 : ((bs x).toList == [111, 114]) = false := sq_eq hx [111, 114] (by decide) _ rfl (by rw [beq_eq_false_iff_ne]; exact e0)
    have f1 : ((bs x).toList == [97, 110, 100]) = false := sq_eq hx [97, 110, 100] (by decide) _ rfl (by rw [beq_eq_false_iff_ne]; exact e1)
    have f2 : ((bs x).toList == [61, 61]) = false := sq_eq hx [61, 61] (by decide) _ rfl (by rw [beq_eq_false_iff_ne]; exact e2)
    have f3 : ((bs x).toList == [33, 61]) = false := sq_eq hx [33, 61] (by decide) _ rfl (by rw [beq_eq_false_iff_ne]; exact e3)
    have f4 : ((bs x).toList == [60]) = false := sq_eq hx [60] (by decide) _ rfl (by rw [beq_eq_false_iff_ne]; exact e4)
    have f5 : ((bs x).toList == [60, 61]) = false := sq_eq hx [60, 61] (by decide) _ rfl (by rw [beq_eq_false_iff_ne]; exact e5)
    have f6 : ((bs x).toList == [43, 43]) = false := sq_eq hx [43, 43] (by decide) _ rfl (by rw [beq_eq_false_iff_ne]; exact e6)
    have f7 : ((bs x).toList == [43]) = false := sq_eq hx [43] (by decide) _ rfl (by rw [beq_eq_false_iff_ne]; exact e7)
    have f8 : ((bs x).toList == [45]) = true := sq_eq hx [45] (by decide) _ rfl (by rw [beq_iff_eq]; exact e8)
    clear hx e0 e1 e2 e3 e4 e5 e6 e7 e8
    go_enter Try.func45, Try.ntmps45
    go_wp2
    go_ret
    exact ⟨by rw [HE.out]; rfl, rfl⟩
  by_cases e9 : x = [42]
  · have HE : Hid (lvR x = 7) := Lib.hid (by rw [e9]; rfl)
    have f0 : ((bs x).toList == [111, 114]) = false := sq_eq hx [111, 114] (by decide) _ rfl (by rw [beq_eq_false_iff_ne]; exact e0)
    have f1 : ((bs x).toList == [97, 110, 100]) = false := sq_eq hx [97, 110, 100] (by decide) _ rfl (by rw [beq_eq_false_iff_ne]; exact e1)
    have f2 : ((bs x).toList == [61, 61]) = false := sq_eq hx [61, 61] (by decide) _ rfl (by rw [beq_eq_false_iff_ne]; exact e2)
    have f3 : ((bs x).toList == [33, 61]) = false := sq_eq hx [33, 61] (by decide) _ rfl (by rw [beq_eq_false_iff_ne]; exact e3)
    have f4 : ((bs x).toList == [60]) = false := sq_eq hx [60] (by decide) _ rfl (by rw [beq_eq_false_iff_ne]; exact e4)
    have f5 : ((bs x).toList == [60, 61]) = false := sq_eq hx [60, 61] (by decide) _ rfl (by rw [beq_eq_false_iff_ne]; exact e5)
    have f6 : ((bs x).toList == [43, 43]) = false := sq_eq hx [43, 43] (by decide) _ rfl (by rw [beq_eq_false_iff_ne]; exact e6)
    have f7 : ((bs x).toList == [43]) = false := sq_eq hx [43] (by decide) _ rfl (by rw [beq_eq_false_iff_ne]; exact e7)
    have f8 : ((bs x).toList == [45]) = false := sq_eq hx [45] (by decide) _ rfl (by rw [beq_eq_false_iff_ne]; exact e8)
    have f9 : ((bs x).toList == [42]) = true := sq_eq hx [42] (by decide) _ rfl (by rw [beq_iff_eq]; exact e9)
    clear hx e0 e1 e2 e3 e4 e5 e6 e7 e8 e9
    go_enter Try.func45, Try.ntmps45
    go_wp2
    go_ret
    exact ⟨by rw [HE.out]; rfl, rfl⟩
  · have HE : Hid (lvR x = 0) := Lib.hid (by simp [lvR, e0, e1, e2, e3, e4, e5, e6, e7, e8, e9])
    have f0 : ((bs x).toList == [111, 114]) = false := sq_eq hx [111, 114] (by decide) _ rfl (by rw [beq_eq_false_iff_ne]; exact e0)
    have f1 : ((bs x).toList == [97, 110, 100]) = false := sq_eq hx [97, 110, 100] (by decide) _ rfl (by rw [beq_eq_false_iff_ne]; exact e1)
    have f2 : ((bs x).toList == [61, 61]) = false := sq_eq hx [61, 61] (by decide) _ rfl (by rw [beq_eq_false_iff_ne]; exact e2)
    have f3 : ((bs x).toList == [33, 61]) = false := sq_eq hx [33, 61] (by decide) _ rfl (by rw [beq_eq_false_iff_ne]; exact e3)
    have f4 : ((bs x).toList == [60]) = false := sq_eq hx [60] (by decide) _ rfl (by rw [beq_eq_false_iff_ne]; exact e4)
    have f5 : ((bs x).toList == [60, 61]) = false := sq_eq hx [60, 61] (by decide) _ rfl (by rw [beq_eq_false_iff_ne]; exact e5)
    have f6 : ((bs x).toList == [43, 43]) = false := sq_eq hx [43, 43] (by decide) _ rfl (by rw [beq_eq_false_iff_ne]; exact e6)
    have f7 : ((bs x).toList == [43]) = false := sq_eq hx [43] (by decide) _ rfl (by rw [beq_eq_false_iff_ne]; exact e7)
    have f8 : ((bs x).toList == [45]) = false := sq_eq hx [45] (by decide) _ rfl (by rw [beq_eq_false_iff_ne]; exact e8)
    have f9 : ((bs x).toList == [42]) = false := sq_eq hx [42] (by decide) _ rfl (by rw [beq_eq_false_iff_ne]; exact e9)
    clear hx e0 e1 e2 e3 e4 e5 e6 e7 e8 e9
    go_enter Try.func45, Try.ntmps45
    go_wp2
    go_ret
    exact ⟨by rw [HE.out]; rfl, rfl⟩

end Go.Proofs.Ytpabngicbfcdkaa
