/-
  evergreenref29.Equal of two machines that read the same: true.
-/
import Derived.Test.YtajajkganamfiaaMSamW
namespace Go.Proofs.Ytajajkganamfiaa
open Go.RowKit Go.Maps
set_option linter.unusedVariables false
set_option linter.unusedSimpArgs false

set_option maxRecDepth 100000 in
set_option maxHeartbeats 4000000 in
theorem equal_same (s : Int) (ac ac2 : Option Addr) (nc cc cc2 : Nat) (an an2 : Option Addr) (nn cn cn2 : Nat) (aa aa2 : Option Addr) (na ca ca2 : Nat) (cls : List Int) (next : List (List Int)) (acc : List Bool) (w : World)
    (hm : RdM w ac nc an nn aa na cls next acc) (hm2 : RdM w ac2 nc an2 nn aa2 na cls next acc) :
    Calls Try.prog 28 #[.agg #[.int .i64 s, .slice ac nc cc, .slice an nn cn, .slice aa na ca], .agg #[.int .i64 s, .slice ac2 nc cc2, .slice an2 nn cn2, .slice aa2 na ca2]] w fun e w' => e = .returned (.bool true) ∧ Below w.heap.size w w' := by
  obtain ⟨w1, hw1⟩ : ∃ w1, w1 = (w.alloc (.cells #[.int .i64 s, .slice ac nc cc, .slice an nn cn, .slice aa na ca] 26)).alloc (.cells #[.int .i64 s, .slice ac2 nc cc2, .slice an2 nn cn2, .slice aa2 na ca2] 26) := ⟨_, rfl⟩
  have HB := Lib.hid (show Below w.heap.size w w1 by rw [hw1]; exact (below_alloc _ _).alloc (by simp) _)
  have HM := Lib.hid (hm.below HB.out)
  have HM2 := Lib.hid (hm2.below HB.out)
  have hx0 : w1.cell? ⟨w.heap.size, 0, none⟩ = some (.int .i64 s) := by rw [hw1]; simp
  have hx1 : w1.cell? ⟨w.heap.size, 1, none⟩ = some (.slice ac nc cc) := by rw [hw1]; simp
  have hx2 : w1.cell? ⟨w.heap.size, 2, none⟩ = some (.slice an nn cn) := by rw [hw1]; simp
  have hx3 : w1.cell? ⟨w.heap.size, 3, none⟩ = some (.slice aa na ca) := by rw [hw1]; simp
  have hy0 : w1.cell? ⟨w.heap.size + 1, 0, none⟩ = some (.int .i64 s) := by rw [hw1]; simp
  have hy1 : w1.cell? ⟨w.heap.size + 1, 1, none⟩ = some (.slice ac2 nc cc2) := by rw [hw1]; simp
  have hy2 : w1.cell? ⟨w.heap.size + 1, 2, none⟩ = some (.slice an2 nn cn2) := by rw [hw1]; simp
  have hy3 : w1.cell? ⟨w.heap.size + 1, 3, none⟩ = some (.slice aa2 na ca2) := by rw [hw1]; simp
  have HX1 := Lib.hid hx1
  have HX2 := Lib.hid hx2
  have HX3 := Lib.hid hx3
  have HY1 := Lib.hid hy1
  have HY2 := Lib.hid hy2
  have HY3 := Lib.hid hy3
  have HW1 := Lib.hid hw1
  have hmc := hm.c.max
  have hmn := hm.n.max
  have hma := hm.a.max
  clear hm hm2 hw1 hx0 hx1 hx2 hx3 hy0 hy1 hy2 hy3
  go_enter Try.func28, Try.ntmps28
  go_wp2
  rw [← HW1.out]
  go_loopg [5] nc (fun gg iv wr => ∃ k : Nat, k ≤ nc ∧ gg = nc - k ∧ iv = .int .i64 k ∧ Below w1.heap.size w1 wr)
  case atStart => exact ⟨0, by omega, rfl, rfl, Below.refl _ _⟩
  case round =>
    obtain ⟨k, hk, rfl, rfl, hbl⟩ := hrel
    have HBL := Lib.hid hbl
    have hx1 := below_cell hbl HX1.out
    have hy1 := below_cell hbl HY1.out
    clear hbl
    by_cases hlt : k < nc
    · obtain ⟨b1, o1, rfl, h1⟩ := (HM.out.c.below HBL.out).cell k hlt
      obtain ⟨b2, o2, rfl, h2⟩ := (HM2.out.c.below HBL.out).cell k hlt
      have hkz : (k : Int) < (nc : Int) := by omega
      generalize cls.getD k 0 = z at h1 h2
      go_wp2
      go_quiet (fail)
      go_wp2
      go_roundg (nc - (k + 1))
      case measure => omega
      case rel => exact ⟨k + 1, by omega, rfl, by go_num, bdrewN HBL.out _⟩
    · have hkn : k = nc := by omega
      subst hkn
      go_wp2
      go_loopg [6] na (fun gg iv wr2 => ∃ k : Nat, k ≤ na ∧ gg = na - k ∧ iv = .int .i64 k ∧ Below w1.heap.size w1 wr2)
      case atStart => exact ⟨0, by omega, rfl, rfl, HBL.out⟩
      case round =>
        clear hx1 hy1 HBL
        obtain ⟨j, hj, rfl, rfl, hbl⟩ := hrel
        have HBL := Lib.hid hbl
        have hx3 := below_cell hbl HX3.out
        have hy3 := below_cell hbl HY3.out
        clear hbl
        by_cases hlt2 : j < na
        · obtain ⟨b1, o1, rfl, h1⟩ := (HM.out.a.below HBL.out).cell j hlt2
          obtain ⟨b2, o2, rfl, h2⟩ := (HM2.out.a.below HBL.out).cell j hlt2
          have hjz : (j : Int) < (na : Int) := by omega
          generalize acc.getD j false = z at h1 h2
          cases z with
          | true =>
            go_wp2
            go_quiet (fail)
            go_wp2
            go_roundg (na - (j + 1))
            case measure => omega
            case rel => exact ⟨j + 1, by omega, rfl, by go_num, bdrewN HBL.out _⟩
          | false =>
            go_wp2
            go_quiet (fail)
            go_wp2
            go_roundg (na - (j + 1))
            case measure => omega
            case rel => exact ⟨j + 1, by omega, rfl, by go_num, bdrewN HBL.out _⟩
        · have hjn : j = na := by omega
          subst hjn
          go_wp2
          go_loopg [7] nn (fun gg iv wr3 => ∃ k : Nat, k ≤ nn ∧ gg = nn - k ∧ iv = .int .i64 k ∧ Below w1.heap.size w1 wr3)
          case atStart => exact ⟨0, by omega, rfl, rfl, HBL.out⟩
          case round =>
            clear hx3 hy3 HBL
            obtain ⟨i, hi, rfl, rfl, hbl⟩ := hrel
            have HBL := Lib.hid hbl
            have hx2 := below_cell hbl HX2.out
            have hy2 := below_cell hbl HY2.out
            clear hbl
            by_cases hlt3 : i < nn
            · obtain ⟨b1, o1, a1, n1, c1, rfl, h1, hr1, _⟩ := (HM.out.n.below HBL.out).cell i hlt3
              obtain ⟨b2, o2, a2, n2, c2, rfl, h2, hr2, _⟩ := (HM2.out.n.below HBL.out).cell i hlt3
              have hn12 : n2 = n1 := by rw [← hr1.len, ← hr2.len]
              subst hn12
              have HR1 := Lib.hid hr1
              have HR2 := Lib.hid hr2
              have hm1 := hr1.max
              have HC1 := Lib.hid h1
              have HC2 := Lib.hid h2
              have hiz : (i : Int) < (nn : Int) := by omega
              clear hr1 hr2
              go_wp2
              go_quiet (fail)
              go_wp2
              have HBL2 := Lib.hid (bdrewN (B := wr.heap.size) (Below.refl _ wr) nq)
              clear h1 h2 hx2 hy2
              go_loopg [8] n2 (fun gg iv wr4 => ∃ k : Nat, k ≤ n2 ∧ gg = n2 - k ∧ iv = .int .i64 k ∧ Below wr.heap.size wr wr4)
              case atStart => exact ⟨0, by omega, rfl, rfl, HBL2.out⟩
              case round =>
                clear HBL2
                obtain ⟨j, hj2, rfl, rfl, hbl2⟩ := hrel
                have HB4 := Lib.hid hbl2
                have hx2 := below_cell hbl2 (below_cell HBL.out HX2.out)
                have hy2 := below_cell hbl2 (below_cell HBL.out HY2.out)
                have h1 := below_cell hbl2 HC1.out
                have h2 := below_cell hbl2 HC2.out
                clear hbl2
                by_cases hlt4 : j < n2
                · obtain ⟨b3, o3, rfl, h3⟩ := (HR1.out.below HB4.out).cell j hlt4
                  obtain ⟨b4, o4, rfl, h4⟩ := (HR2.out.below HB4.out).cell j hlt4
                  have hjz : (j : Int) < (n2 : Int) := by omega
                  generalize (next.getD i []).getD j 0 = z at h3 h4
                  go_wp2
                  go_quiet (fail)
                  go_wp2
                  go_roundg (n2 - (j + 1))
                  case measure => omega
                  case rel => exact ⟨j + 1, by omega, rfl, by go_num, bdrewN HB4.out _⟩
                · have hjn2 : j = n2 := by omega
                  subst hjn2
                  go_wp2
                  go_roundg (nn - (i + 1))
                  case measure => omega
                  case rel => exact ⟨i + 1, by omega, rfl, by go_num, HBL.out.trans (HB4.out.mono HBL.out.size)⟩
            · have hin : i = nn := by omega
              subst hin
              go_wp2
              go_ret
              exact ⟨rfl, HB.out.trans (HBL.out.mono HB.out.size)⟩

end Go.Proofs.Ytajajkganamfiaa
