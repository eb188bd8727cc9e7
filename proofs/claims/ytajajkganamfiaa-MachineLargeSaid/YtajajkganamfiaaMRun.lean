/-
  machine.Run and Accepts on a valid machine; small functions of the statements on machines.
-/
import Derived.Test.YtajajkganamfiaaMRefGo
namespace Go.Proofs.Ytajajkganamfiaa
open Go.RowKit

theorem num_nil (w : World) : Calls Try.prog 21 #[.nilIface] w fun e w' => e = .returned (.int .i64 0) ∧ w = w' := by
  go_enter Try.func21, Try.ntmps21
  go_wp2
  go_ret
  exact ⟨rfl, rfl⟩

theorem num_errno (n : Int) (w : World) : Calls Try.prog 21 #[.iface 43 (.int .i64 n)] w fun e w' => e = .returned (.int .i64 n) ∧ w = w' := by
  have ht : ∀ w, (Instr.typeAssert (.iface 43 (.int .i64 n)) 30 43 true).run Try.prog w = .ok (.tuple #[.int .i64 n, .bool true]) w := fun w => by kernel_rfl
  go_enter Try.func21, Try.ntmps21
  go_wp2
  go_ret
  exact ⟨rfl, rfl⟩

theorem num_errV (k : Int) (w : World) : Calls Try.prog 21 #[errV k] w fun e w' => e = .returned (.int .i64 k) ∧ w = w' := by
  unfold errV
  by_cases h : k = 0
  · rw [if_pos h, h]; exact num_nil w
  · rw [if_neg h]; exact num_errno k w

theorem is_errno (k : Int) (hk : (k != 0) = true) (w : World) : Calls Try.prog 17 #[.iface 43 (.int .i64 k), .int .i64 k] w fun e w' => e = .returned (.bool true) ∧ w = w' := by
  go_enter Try.func17, Try.ntmps17
  go_wp2_with fail
  refine (num_errno _ _).mono ?_
  rintro e w' ⟨rfl, rfl⟩
  go_wp2
  go_ret
  exact ⟨ret_eq (by simp), rfl⟩

theorem bytes_eq (a a2 : Option Addr) (n n2 c c2 : Nat) (l : List Int) (w : World) (hr : Rd w .u8 a n l) (hr2 : Rd w .u8 a2 n2 l) :
    Calls Try.prog 13 #[.slice a n c, .slice a2 n2 c2] w fun e w' => e = .returned (.bool true) ∧ w = w' := by
  have h1 := run_str (P := Try.prog) w c hr rfl 28 9 _ Try.underlying28 Try.underlying5 Try.underlying9
  have h2 := run_str (P := Try.prog) w c2 hr2 rfl 28 9 _ Try.underlying28 Try.underlying5 Try.underlying9
  generalize strOfNums l = s at *
  clear hr hr2
  go_enter Try.func13, Try.ntmps13
  go_wp2
  go_ret
  exact ⟨ret_eq (by simp), rfl⟩

theorem check_ok (s : Int) (ac : Option Addr) (nc cc : Nat) (an : Option Addr) (nn cn : Nat) (aa : Option Addr) (na ca : Nat) (cls : List Int) (next : List (List Int)) (acc : List Bool) (w : World)
    (hm : RdM w ac nc an nn aa na cls next acc) (hv : Valid s cls next acc) :
    Calls Try.prog 22 #[.agg #[.int .i64 s, .slice ac nc cc, .slice an nn cn, .slice aa na ca]] w fun e w' => e = .returned .nilIface ∧ Below w.heap.size w w' := by
  have h := check_any s ac nc cc an nn cn aa na ca cls next acc w hm
  rw [code_of_valid hv] at h
  exact h

set_option maxRecDepth 100000 in
set_option maxHeartbeats 2000000 in
theorem run_ok (s : Int) (ac : Option Addr) (nc cc : Nat) (an : Option Addr) (nn cn : Nat) (aa : Option Addr) (na ca : Nat) (cls : List Int) (next : List (List Int)) (acc : List Bool) (q : Int) (at_ : Option Addr) (nt ct : Nat) (l : List Int) (w : World)
    (hm : RdM w ac nc an nn aa na cls next acc) (hv : Valid s cls next acc) (h0 : 0 ≤ q) (h1 : q < next.length) (hr : Rd w .u8 at_ nt l) :
    Calls Try.prog 14 #[.agg #[.int .i64 s, .slice ac nc cc, .slice an nn cn, .slice aa na ca], .int .i64 q, .slice at_ nt ct] w fun e w' => e = .returned (.tuple #[.int .i64 (mrun cls next q l), .nilIface]) ∧ Below w.heap.size w w' := by
  obtain ⟨w1, hw1⟩ : ∃ w1, w1 = w.alloc (.cells #[.int .i64 s, .slice ac nc cc, .slice an nn cn, .slice aa na ca] 26) := ⟨_, rfl⟩
  have HB := Lib.hid (show Below w.heap.size w w1 by rw [hw1]; exact below_alloc _ _)
  have HM := Lib.hid (hm.below HB.out)
  have HR := Lib.hid (hr.below HB.out)
  have HV := Lib.hid hv
  have HL := Lib.hid hr.len
  have HLn := Lib.hid hm.n.len
  have HLc := Lib.hid hm.c.len
  have hmax := hr.max
  have HBB := Lib.hid (fun x hx => bd_u8 (hr.wf x hx))
  have HX0 : Hid (w1.cell? ⟨w.heap.size, 0, none⟩ = some (.int .i64 s)) := Lib.hid (by rw [hw1]; simp)
  have HX1 : Hid (w1.cell? ⟨w.heap.size, 1, none⟩ = some (.slice ac nc cc)) := Lib.hid (by rw [hw1]; simp)
  have HX2 : Hid (w1.cell? ⟨w.heap.size, 2, none⟩ = some (.slice an nn cn)) := Lib.hid (by rw [hw1]; simp)
  have HX3 : Hid (w1.cell? ⟨w.heap.size, 3, none⟩ = some (.slice aa na ca)) := Lib.hid (by rw [hw1]; simp)
  have HW1 := Lib.hid hw1
  have HQ := Lib.hid (And.intro h0 h1)
  have hqn : q < (nn : Int) := by rw [← HLn.out]; exact h1
  have hne : ∀ w, (binOp .neq 30 .nilIface .nilIface).run Try.prog w = .ok (.bool false) w := fun w => by kernel_rfl
  clear hm hr hv hw1 h1
  go_enter Try.func14, Try.ntmps14
  go_wp2_with fail
  rw [← HW1.out]
  refine (check_ok _ _ _ _ _ _ _ _ _ _ _ _ _ _ HM.out HV.out).mono ?_
  rintro e w2 ⟨rfl, hb2⟩
  have HB2 := Lib.hid hb2
  have HY1 := Lib.hid (below_cell hb2 HX1.out)
  have HY2 := Lib.hid (below_cell hb2 HX2.out)
  have hx2 := HY2.out
  have hsz := hb2.size
  clear hb2
  go_wp2
  clear hx2
  go_loopw [1, 28] (fun qv iv wr => ∃ k : Nat, k ≤ nt ∧ iv = .int .i64 k ∧ qv = .int .i64 (mrun cls next q (l.take k)) ∧ Below w2.heap.size w2 wr) (fun _ iv _ => nt - (intOf iv).toNat)
  case atStart => exact ⟨0, by omega, rfl, rfl, Below.refl _ _⟩
  case round =>
    obtain ⟨k, hk, rfl, rfl, hbl⟩ := hrel
    by_cases hlt : k < nt
    · have hbl1 := bthen HB2.out hbl
      obtain ⟨b1, o1, rfl, h1⟩ := (HR.out.below hbl1).cell k hlt
      have hx1 := below_cell hbl HY1.out
      have hx2 := below_cell hbl HY2.out
      have HBL := Lib.hid hbl
      have hkl : k < l.length := by rw [HL.out]; exact hlt
      have hb := HBB.out (l.getD k 0) (getD_mem hkl)
      have HS : Hid (mrun cls next q (l.take (k + 1)) = mgo cls next (mrun cls next q (l.take k)) (l.getD k 0).toNat) := Lib.hid (by rw [getD_take_snoc (d := 0) hkl, mrun_snoc])
      have hbd := mrun_bd HV.out (l.take k) q (fun x hx => HBB.out x (List.mem_of_mem_take hx)) HQ.out.1 HQ.out.2
      obtain ⟨b, hbe⟩ := Int.eq_ofNat_of_zero_le hb.1
      rw [hbe] at h1 hb
      rw [hbe, Int.toNat_natCast] at HS
      obtain ⟨hc0, hc1, hg0, hg1⟩ := mgo_bd HV.out hbd.1 hbd.2 (b := b) (by omega)
      obtain ⟨p, hp⟩ := Int.eq_ofNat_of_zero_le hbd.1
      rw [hp] at HS hbd ⊢
      have hm1 := HM.out.below hbl1
      have hpn : (p : Int) < nn := by rw [← HLn.out]; exact hbd.2
      obtain ⟨b2, o2, a2, n2, c2, hx, hrow, hr2, _⟩ := hm1.n.cell p (by omega)
      cases hx
      have hnc : nc = 256 := by rw [← HLc.out]; exact HV.out.clsL
      obtain ⟨b3, o3, hx, hcl⟩ := hm1.c.cell b (by omega)
      cases hx
      have hrr := HV.out.row (next.getD p []) (getD_mem (by rw [HLn.out]; omega))
      have hr2l := hr2.len
      obtain ⟨C, hC⟩ : ∃ C : Nat, cls.getD b 0 = C := ⟨(cls.getD b 0).toNat, by omega⟩
      rw [hC] at hcl hc0 hc1
      have hcn : (C : Int) < (n2 : Int) := by omega
      have hbn : (b : Int) < nc := by omega
      obtain ⟨b4, o4, hx, hent⟩ := hr2.cell C (by omega)
      subst hx
      have HG : Hid (mgo cls next (p : Int) b = (next.getD p []).getD C 0) := Lib.hid (by unfold mgo; rw [hC]; simp)
      generalize (next.getD p []).getD C 0 = r at *
      clear hm1 hr2 hrr hnc hr2l hg0 hg1 hC hp hc1 hbd hbe hbl1 hbl hkl
      go_wp2
      go_quiet (fail)
      go_wp2
      go_roundw
      case rel => exact ⟨k + 1, by omega, by go_num, by rw [HS.out, HG.out], bdrewN HBL.out _⟩
      case measure => simp [intOf]; omega
    · have HE : Hid (l.take k = l) := Lib.hid (List.take_of_length_le (by rw [HL.out]; omega))
      have HBL := Lib.hid hbl
      clear hbl
      go_wp2
      go_ret2
      exact ⟨ret_eq (by rw [HE.out]; rfl), bthen HB.out (bthen HB2.out HBL.out)⟩

end Go.Proofs.Ytajajkganamfiaa
