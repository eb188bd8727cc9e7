/-
  machine.Run at no state; machine.Accepts; the statements' small.
-/
import Derived.Test.YtajajkganamfiaaMRun
namespace Go.Proofs.Ytajajkganamfiaa
open Go.RowKit

set_option maxRecDepth 100000 in
set_option maxHeartbeats 2000000 in
theorem run_range (s : Int) (ac : Option Addr) (nc cc : Nat) (an : Option Addr) (nn cn : Nat) (aa : Option Addr) (na ca : Nat) (cls : List Int) (next : List (List Int)) (acc : List Bool) (q : Int) (at_ : Option Addr) (nt ct : Nat) (w : World)
    (hm : RdM w ac nc an nn aa na cls next acc) (hv : Valid s cls next acc) (hq : q < 0 ∨ (nn : Int) ≤ q) :
    Calls Try.prog 14 #[.agg #[.int .i64 s, .slice ac nc cc, .slice an nn cn, .slice aa na ca], .int .i64 q, .slice at_ nt ct] w fun e w' => e = .returned (.tuple #[.int .i64 0, .iface 43 (.int .i64 1)]) ∧ Below w.heap.size w w' := by
  obtain ⟨w1, hw1⟩ : ∃ w1, w1 = w.alloc (.cells #[.int .i64 s, .slice ac nc cc, .slice an nn cn, .slice aa na ca] 26) := ⟨_, rfl⟩
  have HB := Lib.hid (show Below w.heap.size w w1 by rw [hw1]; exact below_alloc _ _)
  have HM := Lib.hid (hm.below HB.out)
  have HV := Lib.hid hv
  have HX2 : Hid (w1.cell? ⟨w.heap.size, 2, none⟩ = some (.slice an nn cn)) := Lib.hid (by rw [hw1]; simp)
  have HW1 := Lib.hid hw1
  have hne : ∀ w, (binOp .neq 30 .nilIface .nilIface).run Try.prog w = .ok (.bool false) w := fun w => by kernel_rfl
  clear hm hv hw1
  go_enter Try.func14, Try.ntmps14
  go_wp2_with fail
  rw [← HW1.out]
  refine (check_ok _ _ _ _ _ _ _ _ _ _ _ _ _ _ HM.out HV.out).mono ?_
  rintro e w2 ⟨rfl, hb2⟩
  have hx2 := below_cell hb2 HX2.out
  have HB2 := Lib.hid hb2
  clear hb2
  go_wp2
  all_goals go_ret2
  all_goals exact ⟨rfl, bthen HB.out HB2.out⟩

set_option maxRecDepth 100000 in
set_option maxHeartbeats 2000000 in
theorem accepts_ok (s : Int) (ac : Option Addr) (nc cc : Nat) (an : Option Addr) (nn cn : Nat) (aa : Option Addr) (na ca : Nat) (cls : List Int) (next : List (List Int)) (acc : List Bool) (at_ : Option Addr) (nt ct : Nat) (l : List Int) (w : World)
    (hm : RdM w ac nc an nn aa na cls next acc) (hv : Valid s cls next acc) (hr : Rd w .u8 at_ nt l) :
    Calls Try.prog 15 #[.agg #[.int .i64 s, .slice ac nc cc, .slice an nn cn, .slice aa na ca], .slice at_ nt ct] w fun e w' => e = .returned (.tuple #[.bool (acc.getD (mrun cls next s l).toNat false), .nilIface]) ∧ Below w.heap.size w w' := by
  obtain ⟨w1, hw1⟩ : ∃ w1, w1 = w.alloc (.cells #[.int .i64 s, .slice ac nc cc, .slice an nn cn, .slice aa na ca] 26) := ⟨_, rfl⟩
  have HB := Lib.hid (show Below w.heap.size w w1 by rw [hw1]; exact below_alloc _ _)
  have HM := Lib.hid (hm.below HB.out)
  have HR := Lib.hid (hr.below HB.out)
  have HV := Lib.hid hv
  have HX0 : Hid (w1.cell? ⟨w.heap.size, 0, none⟩ = some (.int .i64 s)) := Lib.hid (by rw [hw1]; simp)
  have HX3 : Hid (w1.cell? ⟨w.heap.size, 3, none⟩ = some (.slice aa na ca)) := Lib.hid (by rw [hw1]; simp)
  have HW1 := Lib.hid hw1
  have hbd := mrun_bd hv l s (fun x hx => bd_u8 (hr.wf x hx)) hv.s0 hv.s1
  have hla := hm.a.len
  have hlv := hv.accL
  have hne : ∀ w, (binOp .neq 30 .nilIface .nilIface).run Try.prog w = .ok (.bool false) w := fun w => by kernel_rfl
  obtain ⟨Q, hQ⟩ := Int.eq_ofNat_of_zero_le hbd.1
  rw [hQ] at hbd ⊢
  rw [Int.toNat_natCast]
  have hQn : Q < na := by omega
  have HQ := Lib.hid hQ
  clear hm hv hw1 hr hbd hla hlv hQ
  go_enter Try.func15, Try.ntmps15
  go_wp2_with fail
  rw [← HW1.out]
  have hx0 := HX0.out
  have hx3 := HX3.out
  go_wp2_with fail
  refine (run_ok _ _ _ _ _ _ _ _ _ _ _ _ _ _ _ _ _ l _ HM.out HV.out HV.out.s0 HV.out.s1 HR.out).mono ?_
  rintro e w2 ⟨rfl, hb2⟩
  clear hx0 hx3
  have hx3 := below_cell hb2 HX3.out
  obtain ⟨b, o, rfl, hcell⟩ := (HM.out.a.below hb2).cell Q hQn
  have HB2 := Lib.hid hb2
  rw [HQ.out]
  clear hb2
  generalize hz : acc.getD Q false = z at *
  have HZ := Lib.hid hz
  clear hz
  go_wp2
  go_ret2
  exact ⟨ret_eq (by rw [HZ.out]; rfl), bthen HB.out HB2.out⟩

/-- at most 20 states and valid -/
def msmall (s : Int) (cls : List Int) (next : List (List Int)) (acc : List Bool) : Bool := decide (next.length ≤ 20) && (mcode s cls next acc == 0)

set_option maxRecDepth 100000 in
set_option maxHeartbeats 2000000 in
theorem small_any (s : Int) (ac : Option Addr) (nc cc : Nat) (an : Option Addr) (nn cn : Nat) (aa : Option Addr) (na ca : Nat) (cls : List Int) (next : List (List Int)) (acc : List Bool) (w : World)
    (hm : RdM w ac nc an nn aa na cls next acc) :
    Calls Try.prog 9 #[.agg #[.int .i64 s, .slice ac nc cc, .slice an nn cn, .slice aa na ca]] w fun e w' => e = .returned (.bool (msmall s cls next acc)) ∧ Below w.heap.size w w' := by
  obtain ⟨w1, hw1⟩ : ∃ w1, w1 = w.alloc (.cells #[.int .i64 s, .slice ac nc cc, .slice an nn cn, .slice aa na ca] 26) := ⟨_, rfl⟩
  have HB := Lib.hid (show Below w.heap.size w w1 by rw [hw1]; exact below_alloc _ _)
  have HM := Lib.hid (hm.below HB.out)
  have HX0 : Hid (w1.cell? ⟨w.heap.size, 0, none⟩ = some (.int .i64 s)) := Lib.hid (by rw [hw1]; simp)
  have HX1 : Hid (w1.cell? ⟨w.heap.size, 1, none⟩ = some (.slice ac nc cc)) := Lib.hid (by rw [hw1]; simp)
  have HX2 : Hid (w1.cell? ⟨w.heap.size, 2, none⟩ = some (.slice an nn cn)) := Lib.hid (by rw [hw1]; simp)
  have HX3 : Hid (w1.cell? ⟨w.heap.size, 3, none⟩ = some (.slice aa na ca)) := Lib.hid (by rw [hw1]; simp)
  have HW1 := Lib.hid hw1
  have HLn := Lib.hid hm.n.len
  have HC := Lib.hid (refCheck_any s ac nc cc an nn cn aa na ca cls next acc w1 HM.out)
  clear hm hw1
  by_cases h20 : nn ≤ 20
  · have HE : Hid (msmall s cls next acc = (mcode s cls next acc == 0)) := Lib.hid (by unfold msmall; rw [HLn.out, decide_eq_true h20, Bool.true_and])
    generalize mcode s cls next acc = k at *
    go_enter Try.func9, Try.ntmps9
    go_wp2_with fail
    rw [← HW1.out]
    refine HC.out.mono ?_
    rintro e w2 ⟨rfl, hb2⟩
    have HB2 := Lib.hid hb2
    clear hb2
    go_wp2
    go_ret
    exact ⟨ret_eq (by rw [HE.out]; simp), bthen HB.out HB2.out⟩
  · have HE : Hid (msmall s cls next acc = false) := Lib.hid (by unfold msmall; rw [HLn.out, decide_eq_false h20, Bool.false_and])
    go_enter Try.func9, Try.ntmps9
    go_wp2
    go_ret
    exact ⟨ret_eq (by rw [HE.out]; simp), below_alloc _ _⟩

end Go.Proofs.Ytajajkganamfiaa
