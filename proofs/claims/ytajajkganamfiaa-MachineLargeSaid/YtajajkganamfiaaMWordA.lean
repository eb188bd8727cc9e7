/-
  add: a sum and a product, capped.
-/
import Derived.Test.YtajajkganamfiaaMWordP
import Derived.Test.YtajajkganamfiaaShelf
namespace Go.Proofs.Ytajajkganamfiaa
open Go.RowKit
set_option linter.unusedVariables false
set_option linter.unusedSimpArgs false

set_option maxRecDepth 100000 in
theorem add_any (s x y : Nat) (hs : s ≤ capM) (hx : x ≤ capM) (hy : y ≤ capM) (w : World) :
    Calls Try.prog 51 #[.int .u64 s, .int .u64 x, .int .u64 y] w fun e w' => e = .returned (.int .u64 (addC s x y : Nat)) ∧ w = w' := by
  have HM := Lib.hid (Try.bits_Mul64 x y (by unfold capM at hx; omega) (by unfold capM at hy; omega) w)
  obtain ⟨h, hh⟩ : ∃ h, h = x * y / 18446744073709551616 := ⟨_, rfl⟩
  obtain ⟨l, hl⟩ : ∃ l, l = x * y % 18446744073709551616 := ⟨_, rfl⟩
  have hxy : x * y = h * 18446744073709551616 + l := by rw [hh, hl]; omega
  have hl9 : l < 18446744073709551616 := by rw [hl]; exact Nat.mod_lt _ (by decide)
  rw [← hh, ← hl] at HM
  by_cases h0 : 0 < h
  · have HE : Hid (addC s x y = capM) := Lib.hid (by unfold addC; rw [if_pos (by unfold capM; omega)])
    have h0' : (0 : Int) < (h : Int) := by omega
    clear hs hx hy hh hl hxy hl9
    go_enter Try.func51, Try.ntmps51
    go_wp2_with fail
    refine HM.out.mono ?_
    rintro e w1 ⟨rfl, rfl⟩
    go_wp2
    go_ret
    exact ⟨ret_eq (by rw [HE.out]; rfl), rfl⟩
  · obtain rfl : h = 0 := by omega
    have hle : x * y = l := by omega
    by_cases h1 : capM ≤ l
    · have HE : Hid (addC s x y = capM) := Lib.hid (by unfold addC; rw [if_pos (by omega)])
      have h1' : (1152921504606846977 : Int) ≤ (l : Int) := by unfold capM at h1; omega
      clear hs hx hy hh hl hxy hl9 hle h1 h0
      go_enter Try.func51, Try.ntmps51
      go_wp2_with fail
      refine HM.out.mono ?_
      rintro e w1 ⟨rfl, rfl⟩
      go_wp2
      go_ret
      exact ⟨ret_eq (by rw [HE.out]; rfl), rfl⟩
    · have HE : Hid (addC s x y = min (s + l) capM) := Lib.hid (by unfold addC; rw [if_neg (by omega), hle])
      have h1' : decide ((1152921504606846977 : Int) ≤ (l : Int)) = false := decide_eq_false (by unfold capM at h1; omega)
      obtain ⟨t, ht⟩ : ∃ t : Nat, t = s + l := ⟨_, rfl⟩
      have hsum : IntKind.u64.wrap ((s : Int) + (l : Int)) = (t : Int) := by
        rw [ht, Int.natCast_add]; exact IntWalk.u64_in _ (by unfold capM at h1 hs; omega)
      rw [← ht] at HE
      clear hs hx hy hh hl hxy hl9 hle h1 h0 ht
      go_enter Try.func51, Try.ntmps51
      go_wp2_with fail
      refine HM.out.mono ?_
      rintro e w1 ⟨rfl, rfl⟩
      go_wp2
      go_ret
      exact ⟨ret_eq (by
        rw [HE.out]
        show Value.int .u64 (min (t : Int) 1152921504606846977) = Value.int .u64 ((min t capM : Nat) : Int)
        congr 1
        unfold capM
        omega), rfl⟩

end Go.Proofs.Ytajajkganamfiaa
