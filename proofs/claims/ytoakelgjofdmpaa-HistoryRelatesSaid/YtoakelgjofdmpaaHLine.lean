/-
  Graph.Line; the reference's Line, Ancestors and Bases.
-/
import Derived.Test.YtoakelgjofdmpaaHGet
namespace Go.Proofs.Ytoakelgjofdmpaa
open Go.RowKit
set_option linter.unusedVariables false
set_option linter.unusedSimpArgs false

set_option maxRecDepth 100000 in
set_option maxHeartbeats 2000000 in
theorem line_ok (T : Nat → Prop) (bg : Nat) (L : List Cm) (n : Nat) (w : World) (hg : RG w T bg L) (hL : GoodL L) (hn : n < L.length) :
    Calls Try.prog 29 #[.pointer (some ⟨bg, 0, none⟩), .int .i64 n] w (ListPost (lineOf L n) w) := by
  obtain ⟨ga, gc, hgc, hgl⟩ := hg.ex
  have HGC := Lib.hid hgc
  have HGL0 := Lib.hid hgl
  have HI1 : Hid (hasB L.length (n : Int) = true) := Lib.hid (by simp [hasB]; omega)
  have HGL := Lib.hid hL
  have HN := Lib.hid hn
  have HN9 : Hid (n + 1 ≤ 65536) := Lib.hid (by have := hg.n1; omega)
  obtain ⟨N, hN⟩ : ∃ N, N = L.length := ⟨_, rfl⟩
  have HNN := Lib.hid hN
  rw [← hN] at HGC HGL0 HI1
  clear hg hL hn hgc hgl hN
  go_enter Try.func29, Try.ntmps29
  go_wp2_with fail
  refine (has_any bg _ _ gc n w HGC.out).mono ?_
  rw [HI1.out]
  rintro e w2 ⟨rfl, rfl⟩
  obtain ⟨w1, hw1⟩ : ∃ w1, w1 = w.alloc (.cells #[.int .i64 n] 3) := ⟨_, rfl⟩
  have HB1 := Lib.hid (show Below w.heap.size w w1 by rw [hw1]; exact below_alloc _ _)
  have HO1 : Hid (Own w1 w.heap.size 3 .i64 (.slice (some ⟨w.heap.size, 0, none⟩) 1 1) [(n : Int)]) := Lib.hid (by rw [hw1]; exact Own.lits w .i64 _ [(n : Int)] _ (Nat.le_refl _) (by simp))
  have HW1 := Lib.hid hw1
  clear hw1
  go_wp2
  rw [← HW1.out]
  go_loopw [1, 6] (fun nv lv wr => ∃ (m : Nat) (pre : List Int) (la : Option Addr) (lc : Nat), m ≤ n ∧ pre.length + m ≤ n ∧ nv = .int .i64 m ∧ lv = .slice la (pre.length + 1) lc ∧ Own wr w.heap.size 3 .i64 (.slice la (pre.length + 1) lc) (pre ++ [(m : Int)]) ∧ lineOf L n = pre ++ lineOf L m ∧ Below w.heap.size w wr) (fun nv _ _ => (intOf nv).toNat)
  case atStart => exact ⟨n, [], some ⟨w.heap.size, 0, none⟩, 1, Nat.le_refl _, by simp, rfl, rfl, HO1.out, rfl, HB1.out⟩
  case round =>
    obtain ⟨m, pre, la, lc, hm, hpl, rfl, rfl, hol, hlin, hbw⟩ := hrel
    have HOL := Lib.hid hol
    have HBL := Lib.hid hbw
    have HLIN := Lib.hid hlin
    have HPL := Lib.hid hpl
    clear hol hbw hlin hpl
    have hgcw := below_cell HBL.out HGC.out
    obtain ⟨b0, off, pa, pn, pc, rfl, hpc0, hpr, hpn⟩ := HGL0.out.pars (i := m) (by have := HN.out; have := HNN.out; omega)
    have hpc := below_cell HBL.out hpc0
    have HPR := Lib.hid hpr
    have HPN := Lib.hid hpn
    have hmN : (m : Int) < (N : Int) := by have := HN.out; have := HNN.out; omega
    have hmxp := hpr.max
    clear hpr hpn hpc0
    cases hp : parsOf L m with
    | nil =>
      rw [hp] at HPN
      obtain rfl : pn = 0 := HPN.out
      have HE : Hid (lineOf L n = pre ++ [(m : Int)]) := Lib.hid (by rw [HLIN.out, lineOf_nil hp])
      clear hp
      go_wp2
      go_ret2
      exact ⟨la, lc, ret_eq (by rw [HE.out, List.length_append]; rfl), by rw [HE.out, List.length_append]; exact HOL.out, HBL.out⟩
    | cons p r =>
      have hq := pars_lt HGL.out (i := m) (p := p) (by rw [hp]; simp)
      have HCO := Lib.hid (lineOf_cons HGL.out hp)
      rw [hp] at HPR HPN
      have hpn0 : (0 : Int) < (pn : Int) := by have := HPN.out; simp at this; omega
      have hpn1 : 0 < pn := by omega
      obtain ⟨pb, po, rfl, h1⟩ := (HPR.out.below HBL.out).cell 0 hpn1
      rw [Nat.add_zero, show (p :: r).getD 0 0 = p from rfl] at h1
      obtain ⟨q, rfl⟩ := Int.eq_ofNat_of_zero_le hq.1
      have hqm : q < m := by omega
      rw [Int.toNat_natCast] at HCO
      have HK := Lib.hid (Rd.one wr .i64 3 (q : Int) (WalkArith.wf_i64 (by have := HN9.out; omega)))
      clear hp hq
      go_wp2_with (at_builtin; refine app_rd (.tmp 37) (.tmp 39) EI rfl rfl w.heap.size (.slice la (pre.length + 1) lc) _ rfl (HOL.out.alloc _) _ _ _ [(q : Int)] rfl HK.out (by have := HPL.out; have := HN9.out; simp; omega) (by omega) (by simp; have := HBL.out.size; omega) ?_; intro a7 c7 w7 ho7 hg7; have HO7 := Lib.hid ho7; have HB7 := Lib.hid (HBL.out.trans ((Below.alloc (Below.refl w.heap.size wr) HBL.out.size (.cells #[.int .i64 (q : Int)] 3)).trans (grown_below (HOL.out.alloc _) hg7 (by simp; have := HBL.out.size; omega)))); clear ho7 hg7 h1 hpc hgcw)
      go_roundw
      case rel => exact ⟨q, pre ++ [(m : Int)], a7, c7, by omega, by have := HPL.out; simp; omega, rfl, by simp, by have h7 := HO7.out; rw [show (pre ++ [(m : Int)] ++ [(q : Int)]).length = (pre ++ [(m : Int)]).length + 1 by simp] at h7; exact h7, by rw [HLIN.out, HCO.out]; simp, HB7.out⟩
      case measure => simp [intOf]; omega

set_option maxRecDepth 100000 in
set_option maxHeartbeats 2000000 in
theorem rline_any (T : Nat → Prop) (al : Option Addr) (N cl : Nat) (L : List Cm) (n : Nat) (w : World) (hl : RdC w T al N L) (hL : GoodL L) (hN : N ≤ 65536) (hn : n < N) :
    Calls Try.prog 32 #[.slice al N cl, .int .i64 n] w (ListPost1 (lineOf L n) w) := by
  have HGL0 := Lib.hid hl
  have HGL := Lib.hid hL
  have HNN : Hid (N = L.length) := Lib.hid hl.len.symm
  have HN : Hid (n < L.length) := Lib.hid (by rw [hl.len]; exact hn)
  have HN9 : Hid (n + 1 ≤ 65536) := Lib.hid (by omega)
  clear hl hL hn hN
  go_enter Try.func32, Try.ntmps32
  obtain ⟨w1, hw1⟩ : ∃ w1, w1 = w.alloc (.cells #[.int .i64 n] 3) := ⟨_, rfl⟩
  have HB1 := Lib.hid (show Below w.heap.size w w1 by rw [hw1]; exact below_alloc _ _)
  have HO1 : Hid (Own w1 w.heap.size 3 .i64 (.slice (some ⟨w.heap.size, 0, none⟩) 1 1) [(n : Int)]) := Lib.hid (by rw [hw1]; exact Own.lits w .i64 _ [(n : Int)] _ (Nat.le_refl _) (by simp))
  have HW1 := Lib.hid hw1
  clear hw1
  go_wp2
  rw [← HW1.out]
  go_loopw [1, 5] (fun nv lv wr => ∃ (m : Nat) (pre : List Int) (la : Option Addr) (lc : Nat), m ≤ n ∧ pre.length + m ≤ n ∧ nv = .int .i64 m ∧ lv = .slice la (pre.length + 1) lc ∧ Own wr w.heap.size 3 .i64 (.slice la (pre.length + 1) lc) (pre ++ [(m : Int)]) ∧ lineOf L n = pre ++ lineOf L m ∧ Below w.heap.size w wr) (fun nv _ _ => (intOf nv).toNat)
  case atStart => exact ⟨n, [], some ⟨w.heap.size, 0, none⟩, 1, Nat.le_refl _, by simp, rfl, rfl, HO1.out, rfl, HB1.out⟩
  case round =>
    obtain ⟨m, pre, la, lc, hm, hpl, rfl, rfl, hol, hlin, hbw⟩ := hrel
    have HOL := Lib.hid hol
    have HBL := Lib.hid hbw
    have HLIN := Lib.hid hlin
    have HPL := Lib.hid hpl
    clear hol hbw hlin hpl
    obtain ⟨b0, off, pa, pn, pc, rfl, hpc0, hpr, hpn⟩ := HGL0.out.pars (i := m) (by have := HN.out; have := HNN.out; omega)
    have hpc := below_cell HBL.out hpc0
    have HPR := Lib.hid hpr
    have HPN := Lib.hid hpn
    have hmN : (m : Int) < (N : Int) := by have := HN.out; have := HNN.out; omega
    have hmxp := hpr.max
    clear hpr hpn hpc0
    cases hp : parsOf L m with
    | nil =>
      rw [hp] at HPN
      obtain rfl : pn = 0 := HPN.out
      have HE : Hid (lineOf L n = pre ++ [(m : Int)]) := Lib.hid (by rw [HLIN.out, lineOf_nil hp])
      clear hp
      go_wp2
      go_ret
      exact ⟨la, lc, ret_eq (by rw [HE.out, List.length_append]; rfl), by rw [HE.out, List.length_append]; exact HOL.out, HBL.out⟩
    | cons p r =>
      have hq := pars_lt HGL.out (i := m) (p := p) (by rw [hp]; simp)
      have HCO := Lib.hid (lineOf_cons HGL.out hp)
      rw [hp] at HPR HPN
      have hpn0 : (0 : Int) < (pn : Int) := by have := HPN.out; simp at this; omega
      have hpn1 : 0 < pn := by omega
      obtain ⟨pb, po, rfl, h1⟩ := (HPR.out.below HBL.out).cell 0 hpn1
      rw [Nat.add_zero, show (p :: r).getD 0 0 = p from rfl] at h1
      obtain ⟨q, rfl⟩ := Int.eq_ofNat_of_zero_le hq.1
      have hqm : q < m := by omega
      rw [Int.toNat_natCast] at HCO
      have HK := Lib.hid (Rd.one wr .i64 3 (q : Int) (WalkArith.wf_i64 (by have := HN9.out; omega)))
      clear hp hq
      go_wp2_with (at_builtin; refine app_rd (.tmp 22) (.tmp 24) EI rfl rfl w.heap.size (.slice la (pre.length + 1) lc) _ rfl (HOL.out.alloc _) _ _ _ [(q : Int)] rfl HK.out (by have := HPL.out; have := HN9.out; simp; omega) (by omega) (by simp; have := HBL.out.size; omega) ?_; intro a7 c7 w7 ho7 hg7; have HO7 := Lib.hid ho7; have HB7 := Lib.hid (HBL.out.trans ((Below.alloc (Below.refl w.heap.size wr) HBL.out.size (.cells #[.int .i64 (q : Int)] 3)).trans (grown_below (HOL.out.alloc _) hg7 (by simp; have := HBL.out.size; omega)))); clear ho7 hg7 h1 hpc)
      go_roundw
      case rel => exact ⟨q, pre ++ [(m : Int)], a7, c7, by omega, by have := HPL.out; simp; omega, rfl, by simp, by have h7 := HO7.out; rw [show (pre ++ [(m : Int)] ++ [(q : Int)]).length = (pre ++ [(m : Int)]).length + 1 by simp] at h7; exact h7, by rw [HLIN.out, HCO.out]; simp, HB7.out⟩
      case measure => simp [intOf]; omega

set_option maxRecDepth 100000 in
set_option maxHeartbeats 2000000 in
theorem ranc_any (T : Nat → Prop) (al : Option Addr) (N cl : Nat) (L : List Cm) (n : Nat) (w : World) (hl : RdC w T al N L) (hL : GoodL L) (hN : N ≤ 65536) (hn : n < N) :
    Calls Try.prog 31 #[.slice al N cl, .int .i64 n] w (ListPost1 (ancsTo L n (n + 1)) w) := by
  have HBEF := Lib.hid (fun (i : Nat) (w' : World) (hi : i < N) (hb : Below w.heap.size w w') => rbefore_any T al N cl L i n w' (hl.below hb) hL hN hi hn)
  have HN : Hid (n < N) := Lib.hid hn
  have HN9 : Hid (n + 1 ≤ 65536) := Lib.hid (by omega)
  have hn9 : (n : Int) + 1 ≤ 9223372036854775807 := by omega
  clear hl hL hn hN
  go_enter Try.func31, Try.ntmps31
  go_wp2
  go_loopw [5, 6] (fun lv iv wr => ∃ i la lc, i ≤ n + 1 ∧ iv = .int .i64 (i : Nat) ∧ lv = .slice la (ancsTo L n i).length lc ∧ Own wr w.heap.size 3 .i64 (.slice la (ancsTo L n i).length lc) (ancsTo L n i) ∧ Below w.heap.size w wr) (fun _ iv _ => n + 1 - (intOf iv).toNat)
  case atStart => exact ⟨0, none, 0, by omega, rfl, rfl, Own.nil _ _ _ _, Below.refl _ _⟩
  case round =>
    obtain ⟨i, la, lc, hi, rfl, rfl, hol, hbw⟩ := hrel
    have HOL := Lib.hid hol
    have HBW := Lib.hid hbw
    clear hol hbw
    by_cases hlt : i < n + 1
    · have HSU := Lib.hid (ancsTo_succ L n i)
      have HLE := Lib.hid (ancsTo_len L n i)
      have hil : (i : Int) ≤ (n : Int) := by omega
      have hil2 : i ≤ n := by omega
      have HC := Lib.hid (HBEF.out i wr (by have := HN.out; omega) HBW.out)
      cases hz : ancB L i n with
      | false =>
        rw [hz] at HC HSU
        clear hz
        go_wp2_with fail
        refine HC.out.mono ?_
        rintro e w3 ⟨rfl, hb3⟩
        have HB3 := Lib.hid (HBW.out.trans (hb3.mono HBW.out.size))
        have HO3 := Lib.hid (HOL.out.below hb3)
        clear hb3
        go_wp2
        go_roundw
        case rel => exact ⟨i + 1, la, lc, by omega, by go_num, by rw [HSU.out]; rfl, by rw [HSU.out]; exact HO3.out, HB3.out⟩
        case measure => simp [intOf]; omega
      | true =>
        rw [hz] at HC HSU
        clear hz
        go_wp2_with fail
        refine HC.out.mono ?_
        rintro e w3 ⟨rfl, hb3⟩
        have HB3 := Lib.hid (HBW.out.trans (hb3.mono HBW.out.size))
        have HO3 := Lib.hid (HOL.out.below hb3)
        have HK := Lib.hid (Rd.one w3 .i64 3 (i : Int) (WalkArith.wf_i64 (by have := HN9.out; omega)))
        clear hb3
        go_wp2_with (at_builtin; refine app_rd (.tmp 16) (.tmp 18) EI rfl rfl w.heap.size _ _ rfl (HO3.out.alloc _) _ _ _ [(i : Int)] rfl HK.out (by have := HLE.out; have := HN9.out; simp; omega) (by omega) (by simp; have := HB3.out.size; omega) ?_; intro a7 c7 w7 ho7 hg7; have HO7 := Lib.hid ho7; have HB7 := Lib.hid (HB3.out.trans ((Below.alloc (Below.refl w.heap.size w3) HB3.out.size (.cells #[.int .i64 (i : Int)] 3)).trans (grown_below (HO3.out.alloc _) hg7 (by simp; have := HB3.out.size; omega)))); clear ho7 hg7)
        go_roundw
        case rel => exact ⟨i + 1, a7, c7, by omega, by go_num, by rw [HSU.out]; simp, by rw [HSU.out]; exact HO7.out, HB7.out⟩
        case measure => simp [intOf]; omega
    · have hfl : decide (i ≤ n) = false := by simp; omega
      have HEI : Hid (i = n + 1) := Lib.hid (by omega)
      have hfl2 : decide ((i : Int) ≤ (n : Int)) = false := by simp; omega
      clear hlt hi
      go_wp2
      go_ret
      rw [← HEI.out]
      exact ⟨la, lc, rfl, HOL.out, HBW.out⟩

end Go.Proofs.Ytoakelgjofdmpaa
