/-
  the statements' same and is: a graph and a list with the same commits.
-/
import Derived.Test.YtoakelgjofdmpaaHGet
import Derived.Deep.LoopGhost
import Derived.Deep.Cut
import Derived.Deep.DeepCutAuto
import Derived.Deep.RegionWith
namespace Go.Proofs.Ytoakelgjofdmpaa
open Go.RowKit
set_option linter.unusedVariables false
set_option linter.unusedSimpArgs false

set_option maxRecDepth 100000 in
set_option maxHeartbeats 2000000 in
theorem same_ok (a1 a2 : Option Addr) (n1 c1 n2 c2 : Nat) (ps : List Int) (t : Int) (s : ByteArray) (w : World) (h1 : Rd w .i64 a1 n1 ps) (h2 : Rd w .i64 a2 n2 ps) :
    Calls Try.prog 42 #[.agg #[.slice a1 n1 c1, .int .i64 t, .string s], .agg #[.slice a2 n2 c2, .int .i64 t, .string s]] w fun e w' => e = .returned (.bool true) ∧ Below w.heap.size w w' := by
  obtain ⟨w1, hw1⟩ : ∃ w1, w1 = (w.alloc (.cells #[.slice a1 n1 c1, .int .i64 t, .string s] 27)).alloc (.cells #[.slice a2 n2 c2, .int .i64 t, .string s] 27) := ⟨_, rfl⟩
  have HB := Lib.hid (show Below w.heap.size w w1 by rw [hw1]; exact (below_alloc _ _).alloc (by simp) _)
  have x0 : w1.cell? ⟨w.heap.size, 0, none⟩ = some (.slice a1 n1 c1) := by rw [hw1]; simp
  have x1 : w1.cell? ⟨w.heap.size, 1, none⟩ = some (.int .i64 t) := by rw [hw1]; simp
  have x2 : w1.cell? ⟨w.heap.size, 2, none⟩ = some (.string s) := by rw [hw1]; simp
  have y0 : w1.cell? ⟨w.heap.size + 1, 0, none⟩ = some (.slice a2 n2 c2) := by rw [hw1]; simp
  have y1 : w1.cell? ⟨w.heap.size + 1, 1, none⟩ = some (.int .i64 t) := by rw [hw1]; simp
  have y2 : w1.cell? ⟨w.heap.size + 1, 2, none⟩ = some (.string s) := by rw [hw1]; simp
  have HIN : Hid (Calls Try.prog 17 #[.slice a1 n1 c1, .slice a2 n2 c2] w1 fun e w' => e = .returned (.bool true) ∧ Below w1.heap.size w1 w') := Lib.hid (by
    have h := ints_any a1 a2 n1 n2 c1 c2 ps ps w1 (h1.below HB.out) (h2.below HB.out)
    rw [decide_eq_true rfl] at h
    exact h)
  have HW1 := Lib.hid hw1
  clear h1 h2 hw1
  go_enter Try.func42, Try.ntmps42
  go_upto_region 1 with fail
  rw [← HW1.out]
  go_wp2_with fail
  refine HIN.out.mono ?_
  rintro e w2 ⟨rfl, hb2⟩
  have HB2 := Lib.hid (bthen HB.out hb2)
  clear hb2
  go_wp2
  go_ret
  exact ⟨rfl, HB2.out⟩

set_option maxRecDepth 100000 in
set_option maxHeartbeats 2000000 in
theorem is_any (T T2 : Nat → Prop) (bg : Nat) (al : Option Addr) (cl : Nat) (L : List Cm) (w : World) (hg : RG w T bg L) (hl : RdC w T2 al L.length L) (hL : GoodL L) :
    Calls Try.prog 15 #[.pointer (some ⟨bg, 0, none⟩), .slice al L.length cl] w fun e w' => e = .returned (.bool true) ∧ Below w.heap.size w w' := by
  have hne : ∀ (a : Addr) (w : World), (binOp .eql 28 (.pointer (some a)) (.pointer none)).run Try.prog w = .ok (.bool false) w := fun a w => by kernel_rfl
  have hnn : ∀ w, (binOp .neq 33 .nilIface .nilIface).run Try.prog w = .ok (.bool false) w := fun w => by kernel_rfl
  obtain ⟨ga, gc, hgc, hgl⟩ := hg.ex
  have HG := Lib.hid hg
  have HL := Lib.hid hl
  have HGL := Lib.hid hL
  have hn1 := hg.n1
  obtain ⟨N, hN⟩ : ∃ N, N = L.length := ⟨_, rfl⟩
  have HN := Lib.hid hN
  rw [← hN] at hgc hn1 ⊢
  clear hg hl hL hN hgl
  go_enter Try.func15, Try.ntmps15
  go_wp2_with fail
  refine (len_any bg ga N gc w hgc).mono ?_
  rintro e w1 ⟨rfl, rfl⟩
  clear hgc
  go_wp2
  go_loopg [5] N (fun gg iv wr => ∃ k : Nat, k ≤ N ∧ gg = N - k ∧ iv = .int .i64 k ∧ Below w.heap.size w wr)
  case atStart => exact ⟨0, by omega, rfl, rfl, Below.refl _ _⟩
  case round =>
    obtain ⟨k, hk, rfl, rfl, hb⟩ := hrel
    have HB := Lib.hid hb
    clear hb
    by_cases hlt : k < N
    · have hkz : (k : Int) < (N : Int) := by omega
      have HKL : Hid (k < L.length) := Lib.hid (by rw [← HN.out]; exact hlt)
      have HGE := Lib.hid (get_ok T bg L k wr (HG.out.below HB.out) HGL.out HKL.out)
      go_wp2_with fail
      refine HGE.out.mono ?_
      rintro e w2 ⟨a, c, x, hx, rfl, ho, hb2⟩
      obtain ⟨b, off, v, rfl, _, h1, h2, h3, pa, pn, pc, rfl, hnc, hpf⟩ := HL.out.cell k x hx
      obtain ⟨ps, t, s⟩ := x
      simp only at h1 h2 h3 hpf ho ⊢
      obtain ⟨w3, hw3⟩ : ∃ w3, w3 = w2.alloc (.cells #[.slice a ps.length c, .int .i64 t, .string s] 27) := ⟨_, rfl⟩
      have hb3 : Below w2.heap.size w2 w3 := by rw [hw3]; exact below_alloc _ _
      have HB3 := Lib.hid (bthen (bthen HB.out hb2) hb3)
      have z0 : w3.cell? ⟨w2.heap.size, 0, none⟩ = some (.slice a ps.length c) := by rw [hw3]; simp
      have z1 : w3.cell? ⟨w2.heap.size, 1, none⟩ = some (.int .i64 t) := by rw [hw3]; simp
      have z2 : w3.cell? ⟨w2.heap.size, 2, none⟩ = some (.string s) := by rw [hw3]; simp
      have k0 := below_cell HB3.out h1
      have k1 := below_cell HB3.out h2
      have k2 := below_cell HB3.out h3
      have z0d : w3.drew.cell? ⟨w2.heap.size, 0, none⟩ = some (.slice a ps.length c) := z0
      have z1d : w3.drew.cell? ⟨w2.heap.size, 1, none⟩ = some (.int .i64 t) := z1
      have z2d : w3.drew.cell? ⟨w2.heap.size, 2, none⟩ = some (.string s) := z2
      have k0d : w3.drew.cell? _ = some _ := k0
      have k1d : w3.drew.cell? _ = some _ := k1
      have k2d : w3.drew.cell? _ = some _ := k2
      have HSM := Lib.hid (same_ok a pa ps.length c pn pc ps t s w3.drew (((ho.rd (HL.out.wf _ (List.mem_of_getElem? hx)).2.2).below hb3).below (Below.refl _ _).drew) ((hpf.rd.below HB3.out).below (Below.refl _ _).drew))
      have HW3 := Lib.hid hw3
      clear hw3 hb3 hx ho hb2 h1 h2 h3 hpf hnc
      go_upto_region 7 with fail
      rw [← HW3.out]
      go_region_with (first
        | (go_at_call 42; refine HSM.out.mono ?_; rintro e w5 ⟨rfl, hb5⟩; have hb5 := Lib.hid hb5))
      all_goals
        clear z0 z1 z2 k0 k1 k2 z0d z1d z2d k0d k1d k2d
        go_wp2
        go_roundg (N - (k + 1))
        case measure => omega
        case rel => exact ⟨k + 1, by omega, rfl, by go_num, bthen HB3.out ((Below.refl _ _).drew.trans hb5.out)⟩
    · have hkn : k = N := by omega
      subst hkn
      go_wp2
      go_ret
      exact ⟨rfl, HB.out⟩

end Go.Proofs.Ytoakelgjofdmpaa
