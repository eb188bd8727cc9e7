/-
  Graph.Get, Ancestors and Line; the reference's Ancestors, Line and Bases.
-/
import Derived.Test.YtoakelgjofdmpaaHAlive
import Derived.Test.YtoakelgjofdmpaaHRelP
import Derived.Deep.RegionHeld3
namespace Go.Proofs.Ytoakelgjofdmpaa
open Go.RowKit
set_option linter.unusedVariables false
set_option linter.unusedSimpArgs false

/-- a commit that Get hands out: a copy of its own -/
def GetPost (L : List Cm) (i : Nat) (w : World) (e : Ending) (w' : World) : Prop :=
  ∃ a c x, L[i]? = some x ∧ e = .returned (.tuple #[.agg #[.slice a x.1.length c, .int .i64 x.2.1, .string x.2.2], .nilIface]) ∧ Own w' w.heap.size 3 .i64 (.slice a x.1.length c) x.1 ∧ Below w.heap.size w w'

set_option maxRecDepth 100000 in
set_option maxHeartbeats 2000000 in
theorem get_ok (T : Nat → Prop) (bg : Nat) (L : List Cm) (i : Nat) (w : World) (hg : RG w T bg L) (hL : GoodL L) (hi : i < L.length) :
    Calls Try.prog 14 #[.pointer (some ⟨bg, 0, none⟩), .int .i64 i] w (GetPost L i w) := by
  obtain ⟨ga, gc, hgc, hgl⟩ := hg.ex
  have hi1 : hasB L.length (i : Int) = true := by simp [hasB]; omega
  have HI1 := Lib.hid hi1
  have HGC := Lib.hid hgc
  obtain ⟨x, hx⟩ : ∃ x, L[i]? = some x := ⟨_, List.getElem?_eq_getElem hi⟩
  obtain ⟨b, off, v, rfl, _, h1, h2, h3, pa, pn, pc, rfl, hnc, hpf⟩ := hgl.cell i x hx
  have HX := Lib.hid hx
  have hps8 := (hL i x hx).1
  obtain ⟨ps, t, s⟩ := x
  simp only at h2 h3 hpf hps8
  have HPF := Lib.hid hpf
  have HL := Lib.hid hpf.rd.len
  have HNC := Lib.hid hnc
  have H8 := Lib.hid hps8
  have HW : Hid (∃ z, z = w.heap.size) := Lib.hid ⟨_, rfl⟩
  have hxb : (⟨b, off + i * 3, none⟩ : Addr).block < w.heap.size := World.block_lt_of_cell? w _ h1
  obtain ⟨N, hN⟩ : ∃ N, N = L.length := ⟨_, rfl⟩
  have hiN : (i : Int) < (N : Int) := by omega
  rw [← hN] at HGC HI1
  obtain ⟨w0, hw0⟩ : ∃ w0, w0 = w.alloc (.cells #[.slice none 0 0, .int .i64 0, .string ⟨#[]⟩] 27) := ⟨_, rfl⟩
  have HB0 := Lib.hid (show Below w.heap.size w w0 by rw [hw0]; exact below_alloc _ _)
  have k0 := below_cell HB0.out h1
  have k1 := below_cell HB0.out h2
  have k2 := below_cell HB0.out h3
  have y0 : w0.cell? ⟨w.heap.size, 0, none⟩ = some (.slice none 0 0) := by rw [hw0]; simp
  have y1 : w0.cell? ⟨w.heap.size, 1, none⟩ = some (.int .i64 0) := by rw [hw0]; simp
  have y2 : w0.cell? ⟨w.heap.size, 2, none⟩ = some (.string ⟨#[]⟩) := by rw [hw0]; simp
  have hyf : ∀ j, w0.frozen? ⟨w.heap.size, j, none⟩ = false := by intro j; rw [hw0]; simp
  have hg0 := below_cell HB0.out HGC.out
  have HW0 := Lib.hid hw0
  have HY := Lib.hid (And.intro y0 (And.intro y1 (And.intro y2 hyf)))
  clear hg hL hi hgc hgl hx hps8 hpf hnc hN h1 h2 h3 hw0 y0 y1 y2 hyf hxb hi1
  go_enter Try.func14, Try.ntmps14
  go_wp2_with fail
  rw [← HW0.out]
  refine (has_any bg _ N gc i w0 hg0).mono ?_
  rw [HI1.out]
  rintro e w2 ⟨rfl, rfl⟩
  go_wp2_with fail
  obtain ⟨w1, hw1⟩ : ∃ w1, w1 = w0.alloc (.cells #[.slice pa pn pc, .int .i64 t, .string s] 27) := ⟨_, rfl⟩
  rw [← hw1]
  have HB1 := Lib.hid (show Below w0.heap.size w0 w1 by rw [hw1]; exact below_alloc _ _)
  have z0 : w1.cell? ⟨w0.heap.size, 0, none⟩ = some (.slice pa pn pc) := by rw [hw1]; simp
  have z1 : w1.cell? ⟨w0.heap.size, 1, none⟩ = some (.int .i64 t) := by rw [hw1]; simp
  have z2 : w1.cell? ⟨w0.heap.size, 2, none⟩ = some (.string s) := by rw [hw1]; simp
  have zf : w1.frozen? ⟨w0.heap.size, 0, none⟩ = false := by rw [hw1]; simp
  have hs1 : w1.heap.size = w0.heap.size + 1 := by rw [hw1]; simp
  have hs0 : w.heap.size < w0.heap.size := World.block_lt_of_cell? w0 _ HY.out.1
  have HS := Lib.hid (And.intro hs1 hs0)
  have HZ := Lib.hid (And.intro z0 (And.intro z1 (And.intro z2 zf)))
  have HR1 := Lib.hid (HPF.out.rd.below (bthen HB0.out HB1.out))
  clear hw1 z0 z1 z2 zf k0 k1 k2 hg0 hs1 hs0
  refine (clone_any _ _ _ ps _ HR1.out (by have := H8.out; have := HL.out; omega) HNC.out.2).mono ?_
  rintro e w2 ⟨a2, c2, rfl, ho2, hb2⟩
  have HO2 := Lib.hid ho2
  have HB2 := Lib.hid hb2
  obtain ⟨z0, z1, z2, zf⟩ := HZ.out
  obtain ⟨y0, y1, y2, yf⟩ := HY.out
  obtain ⟨hs1, hs0⟩ := HS.out
  have u0 := below_cell hb2 z0
  have u1 := below_cell hb2 z1
  have u2 := below_cell hb2 z2
  have uf : w2.frozen? ⟨w0.heap.size, 0, none⟩ = false := (hb2.frozen (p := ⟨w0.heap.size, 0, none⟩) (by simp; omega)).trans zf
  have v0 := below_cell (bthen HB1.out hb2) y0
  have v1 := below_cell (bthen HB1.out hb2) y1
  have v2 := below_cell (bthen HB1.out hb2) y2
  have vf : ∀ j, w2.frozen? ⟨w.heap.size, j, none⟩ = false := fun j => ((bthen HB1.out hb2).frozen (p := ⟨w.heap.size, j, none⟩) hs0).trans (yf j)
  have hne : w.heap.size ≠ w0.heap.size := by omega
  have hne2 : w0.heap.size ≠ w.heap.size := by omega
  have vf0 := vf 0
  have vf1 := vf 1
  have vf2 := vf 2
  have HV := Lib.hid (And.intro v0 (And.intro v1 v2))
  clear z0 z1 z2 zf y0 y1 y2 yf ho2 hb2 hs1 hs0 vf
  go_wp2
  have hf : Fr (fun j => j = w0.heap.size ∨ j = w.heap.size) w2 ((((w2.setCell ⟨w0.heap.size, 0, none⟩ (.slice a2 ps.length c2)).setCell ⟨w.heap.size, 0, none⟩ (.slice a2 ps.length c2)).setCell ⟨w.heap.size, 1, none⟩ (.int .i64 t)).setCell ⟨w.heap.size, 2, none⟩ (.string s)) :=
    ((((Fr.refl _ w2).setCell (p := ⟨w0.heap.size, 0, none⟩) (.inl rfl) _).setCell (p := ⟨w.heap.size, 0, none⟩) (.inr rfl) _).setCell (p := ⟨w.heap.size, 1, none⟩) (.inr rfl) _).setCell (p := ⟨w.heap.size, 2, none⟩) (.inr rfl) _
  have HF := Lib.hid hf
  clear hf
  refine bodyPost_ret (v := .tuple #[.agg #[.slice a2 ps.length c2, .int .i64 t, .string s], .nilIface]) (by simp [results, Try.results14, go_sem, v0, v1, v2, u0, u1, u2, hne, hne2]) rfl ⟨a2, c2, (ps, t, s), HX.out, rfl, ?_, ?_⟩
  · exact (Row.fr HO2.out HF.out (fun k hk e => by
      have := (Row.block_lt HO2.out hk).2
      have := HS.out
      rcases e with e | e <;> omega) : Own _ _ _ _ _ _).mono (by have := HS.out; omega)
  · exact (bthen HB0.out (bthen HB1.out HB2.out)).trans (HF.out.below (fun i hi => by have := HS.out; rcases hi with e | e <;> omega) (by have := (bthen HB0.out (bthen HB1.out HB2.out)).size; omega))

set_option maxRecDepth 100000 in
set_option maxHeartbeats 2000000 in
theorem get_range (T : Nat → Prop) (bg : Nat) (L : List Cm) (i : Int) (w : World) (hg : RG w T bg L) (hi : hasB L.length i = false) :
    Calls Try.prog 14 #[.pointer (some ⟨bg, 0, none⟩), .int .i64 i] w fun e w' => e = .returned (.tuple #[.agg #[.slice none 0 0, .int .i64 0, .string ⟨#[]⟩], .iface 63 (.int .i64 1)]) ∧ Below w.heap.size w w' := by
  obtain ⟨ga, gc, hgc, hgl⟩ := hg.ex
  have HI1 := Lib.hid hi
  obtain ⟨w0, hw0⟩ : ∃ w0, w0 = w.alloc (.cells #[.slice none 0 0, .int .i64 0, .string ⟨#[]⟩] 27) := ⟨_, rfl⟩
  have HB0 := Lib.hid (show Below w.heap.size w w0 by rw [hw0]; exact below_alloc _ _)
  have hg0 := below_cell HB0.out hgc
  have HW0 := Lib.hid hw0
  have y0 : w0.cell? ⟨w.heap.size, 0, none⟩ = some (.slice none 0 0) := by rw [hw0]; simp
  have y1 : w0.cell? ⟨w.heap.size, 1, none⟩ = some (.int .i64 0) := by rw [hw0]; simp
  have y2 : w0.cell? ⟨w.heap.size, 2, none⟩ = some (.string ⟨#[]⟩) := by rw [hw0]; simp
  have yf0 : w0.frozen? ⟨w.heap.size, 0, none⟩ = false := by rw [hw0]; simp
  have yf1 : w0.frozen? ⟨w.heap.size, 1, none⟩ = false := by rw [hw0]; simp
  have yf2 : w0.frozen? ⟨w.heap.size, 2, none⟩ = false := by rw [hw0]; simp
  clear hg hi hgc hgl hw0
  go_enter Try.func14, Try.ntmps14
  go_wp2_with fail
  rw [← HW0.out]
  refine (has_any bg _ _ gc i w0 hg0).mono ?_
  rw [HI1.out]
  rintro e w2 ⟨rfl, rfl⟩
  go_wp2
  refine bodyPost_ret (v := .tuple #[.agg #[.slice none 0 0, .int .i64 0, .string ⟨#[]⟩], .iface 63 (.int .i64 1)]) (by simp [results, Try.results14, go_sem, y0, y1, y2]) rfl ⟨rfl, ?_⟩
  exact ((HB0.out.setCell (p := ⟨w.heap.size, 0, none⟩) (Nat.le_refl _) _).setCell (p := ⟨w.heap.size, 1, none⟩) (Nat.le_refl _) _).setCell (p := ⟨w.heap.size, 2, none⟩) (Nat.le_refl _) _

/-- a list of the call's own, with its value -/
def ListPost (l : List Int) (w : World) (e : Ending) (w' : World) : Prop :=
  ∃ a c, e = .returned (.tuple #[.slice a l.length c, .nilIface]) ∧ Own w' w.heap.size 3 .i64 (.slice a l.length c) l ∧ Below w.heap.size w w'
def ListPost1 (l : List Int) (w : World) (e : Ending) (w' : World) : Prop :=
  ∃ a c, e = .returned (.slice a l.length c) ∧ Own w' w.heap.size 3 .i64 (.slice a l.length c) l ∧ Below w.heap.size w w'

set_option maxRecDepth 100000 in
set_option maxHeartbeats 2000000 in
theorem anclist_ok (T : Nat → Prop) (bg : Nat) (L : List Cm) (n : Nat) (w : World) (hg : RG w T bg L) (hL : GoodL L) (hn : n < L.length) :
    Calls Try.prog 28 #[.pointer (some ⟨bg, 0, none⟩), .int .i64 n] w (ListPost (ancsTo L n (n + 1)) w) := by
  obtain ⟨ga, gc, hgc, hgl⟩ := hg.ex
  have HGC := Lib.hid hgc
  have HI1 : Hid (hasB L.length (n : Int) = true) := Lib.hid (by simp [hasB]; omega)
  have HANC := Lib.hid (ancestors_any T bg L n w hg hL hn)
  have HGL := Lib.hid hL
  have hn9 : (n : Int) + 1 ≤ 9223372036854775807 := by have := hg.n1; omega
  have HN9 : Hid (n + 1 ≤ 65536) := Lib.hid (by have := hg.n1; omega)
  clear hg hL hn hgc hgl
  go_enter Try.func28, Try.ntmps28
  go_wp2_with fail
  refine (has_any bg _ _ gc n w HGC.out).mono ?_
  rw [HI1.out]
  rintro e w2 ⟨rfl, rfl⟩
  go_wp2_with fail
  refine HANC.out.mono ?_
  rintro e w3 ⟨g, rfl, ho, hb3⟩
  have HO := Lib.hid ho
  have HB3 := Lib.hid hb3
  have hml := marks_len L (n + 1) n (n + 1)
  have HML := Lib.hid hml
  clear ho hb3 hml
  go_wp2
  go_loopw [6, 21] (fun lv iv wr => ∃ i la lc, i ≤ n + 1 ∧ iv = .int .i64 (i : Nat) ∧ lv = .slice la (ancsTo L n i).length lc ∧ Own wr w3.heap.size 3 .i64 (.slice la (ancsTo L n i).length lc) (ancsTo L n i) ∧ Below w3.heap.size w3 wr) (fun _ iv _ => n + 1 - (intOf iv).toNat)
  case atStart => exact ⟨0, none, 0, by omega, rfl, rfl, Own.nil _ _ _ _, Below.refl _ _⟩
  case round =>
    obtain ⟨i, la, lc, hi, rfl, rfl, hol, hbw⟩ := hrel
    have HOL := Lib.hid hol
    have HBW := Lib.hid hbw
    clear hol hbw
    by_cases hlt : i < n + 1
    · have hc := OwnB.cell (Row.below HO.out HBW.out) (j := i) (by rw [HML.out]; exact hlt)
      rw [marks_eq HGL.out (by omega) (Nat.le_refl _) (by omega) hlt] at hc
      have HSU := Lib.hid (ancsTo_succ L n i)
      have HLE := Lib.hid (ancsTo_len L n i)
      have hil : (i : Int) < (n : Int) + 1 := by omega
      have hil2 : (i : Int) < ((n + 1 : Nat) : Int) := by omega
      cases hz : ancB L i n with
      | false =>
        rw [hz] at hc HSU
        clear hz
        go_wp2
        go_roundw
        case rel => exact ⟨i + 1, la, lc, by omega, by go_num, by rw [HSU.out]; rfl, by rw [HSU.out]; exact HOL.out, HBW.out⟩
        case measure => simp [intOf]; omega
      | true =>
        rw [hz] at hc HSU
        clear hz
        have HK := Lib.hid (Rd.one wr .i64 3 (i : Int) (WalkArith.wf_i64 (by have := HN9.out; omega)))
        go_wp2_with (at_builtin; refine app_rd (.tmp 27) (.tmp 29) EI rfl rfl w3.heap.size _ _ rfl (HOL.out.alloc _) _ _ _ [(i : Int)] rfl HK.out (by have := HLE.out; have := HN9.out; simp; omega) (by omega) (by simp; have := HBW.out.size; omega) ?_; intro a7 c7 w7 ho7 hg7; have HO7 := Lib.hid ho7; have HB7 := Lib.hid (HBW.out.trans ((Below.alloc (Below.refl w3.heap.size wr) HBW.out.size (.cells #[.int .i64 (i : Int)] 3)).trans (grown_below (HOL.out.alloc _) hg7 (by simp; have := HBW.out.size; omega)))); clear ho7 hg7 hc)
        go_roundw
        case rel => exact ⟨i + 1, a7, c7, by omega, by go_num, by rw [HSU.out]; simp, by rw [HSU.out]; exact HO7.out, HB7.out⟩
        case measure => simp [intOf]; omega
    · obtain rfl : i = n + 1 := by omega
      go_wp2
      go_ret2
      exact ⟨la, lc, rfl, HOL.out.mono HB3.out.size, bthen HB3.out HBW.out⟩

theorem anclist_range (T : Nat → Prop) (bg : Nat) (L : List Cm) (n : Int) (w : World) (hg : RG w T bg L) (hn : hasB L.length n = false) :
    Calls Try.prog 28 #[.pointer (some ⟨bg, 0, none⟩), .int .i64 n] w fun e w' => e = .returned (.tuple #[.slice none 0 0, .iface 63 (.int .i64 1)]) ∧ w = w' := by
  obtain ⟨ga, gc, hgc, hgl⟩ := hg.ex
  have HGC := Lib.hid hgc
  have HI1 := Lib.hid hn
  clear hg hn hgc hgl
  go_enter Try.func28, Try.ntmps28
  go_wp2_with fail
  refine (has_any bg _ _ gc n w HGC.out).mono ?_
  rw [HI1.out]
  rintro e w2 ⟨rfl, rfl⟩
  go_wp2
  go_ret2
  exact ⟨rfl, rfl⟩

theorem line_range (T : Nat → Prop) (bg : Nat) (L : List Cm) (n : Int) (w : World) (hg : RG w T bg L) (hn : hasB L.length n = false) :
    Calls Try.prog 29 #[.pointer (some ⟨bg, 0, none⟩), .int .i64 n] w fun e w' => e = .returned (.tuple #[.slice none 0 0, .iface 63 (.int .i64 1)]) ∧ w = w' := by
  obtain ⟨ga, gc, hgc, hgl⟩ := hg.ex
  have HGC := Lib.hid hgc
  have HI1 := Lib.hid hn
  clear hg hn hgc hgl
  go_enter Try.func29, Try.ntmps29
  go_wp2_with fail
  refine (has_any bg _ _ gc n w HGC.out).mono ?_
  rw [HI1.out]
  rintro e w2 ⟨rfl, rfl⟩
  go_wp2
  go_ret2
  exact ⟨rfl, rfl⟩

set_option maxRecDepth 100000 in
theorem bases_range (T : Nat → Prop) (bg : Nat) (L : List Cm) (a b : Int) (w : World) (hg : RG w T bg L) (hab : hasB L.length a = false ∨ hasB L.length b = false) :
    Calls Try.prog 16 #[.pointer (some ⟨bg, 0, none⟩), .int .i64 a, .int .i64 b] w fun e w' => e = .returned (.tuple #[.slice none 0 0, .iface 63 (.int .i64 1)]) ∧ w = w' := by
  obtain ⟨ga, gc, hgc0, hgl0⟩ := hg.ex
  have HGC0 := Lib.hid hgc0
  cases ha : hasB L.length a with
  | false =>
    have HA1 := Lib.hid ha
    clear hg hab hgc0 hgl0 ha
    go_enter Try.func16, Try.ntmps16
    go_wp2_with fail
    refine (has_any bg ga L.length gc a w HGC0.out).mono ?_
    rw [HA1.out]
    rintro e w2 ⟨rfl, rfl⟩
    go_wp2
    go_ret2
    exact ⟨rfl, rfl⟩
  | true =>
    have HA1 := Lib.hid ha
    have HB1 : Hid (hasB L.length b = false) := Lib.hid (by
      rcases hab with h | h
      · rw [ha] at h; cases h
      · exact h)
    clear hg hab hgc0 hgl0 ha
    go_enter Try.func16, Try.ntmps16
    go_wp2_with fail
    refine (has_any bg ga L.length gc a w HGC0.out).mono ?_
    rw [HA1.out]
    rintro e w2 ⟨rfl, rfl⟩
    go_wp2_with fail
    refine (has_any bg ga L.length gc b w HGC0.out).mono ?_
    rw [HB1.out]
    rintro e w2 ⟨rfl, rfl⟩
    go_wp2
    go_ret2
    exact ⟨rfl, rfl⟩

end Go.Proofs.Ytoakelgjofdmpaa
