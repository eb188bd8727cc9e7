/-
  the walk of HistoryAdds.
-/
import Derived.Test.YtoakelgjofdmpaaHCopy
namespace Go.Proofs.Ytoakelgjofdmpaa
open Go.RowKit
set_option linter.unusedVariables false
set_option linter.unusedSimpArgs false

theorem headsTo_wf {L : List Cm} {k : Nat} (hk : k ≤ 65536) : ∀ x ∈ headsTo L k, (Lit.int .i64 x).wf = true := by
  intro x hx
  obtain ⟨i, hi, rfl⟩ := List.mem_map.1 hx
  have := List.mem_range.1 (List.mem_filter.1 hi).1
  exact WalkArith.wf_i64 (by omega)
/-- two lists of the call's own, with the same numbers -/
theorem ints_own (a1 a2 : Option Addr) (c1 c2 : Nat) (l : List Int) (w : World) (h1 : Rd w .i64 a1 l.length l) (h2 : Rd w .i64 a2 l.length l) :
    Calls Try.prog 17 #[.slice a1 l.length c1, .slice a2 l.length c2] w fun e w' => e = .returned (.bool true) ∧ Below w.heap.size w w' := by
  have h := ints_any a1 a2 l.length l.length c1 c2 l l w h1 h2
  rw [decide_eq_true rfl] at h
  exact h

set_option maxRecDepth 100000 in
set_option maxHeartbeats 4000000 in
theorem walk_HistoryAdds (a0 : Option Addr) (n cp : Nat) (list : List Cm) (v : Value) (ps : List Int) (t : Int) (s : ByteArray) (w : World) (hr : RdC w (fun i => i < w.heap.size) a0 n list) (h1 : Par w (fun i => i < w.heap.size) v ps) (h2 : (Lit.int .i64 t).wf = true) (h3 : s.size ≤ 9223372036854775807) :
    Calls Try.prog 6 #[.slice a0 n cp, .agg #[v, .int .i64 t, .string s]] w fun e w' => e = .returned (.bool true) ∧ Below w.heap.size w w' := by
  have HR := Lib.hid hr
  have HP := Lib.hid h1
  have HT := Lib.hid h2
  have HSZ := Lib.hid h3
  have hmx := hr.max
  have HGL := Lib.hid (buildL_good list)
  obtain ⟨w0, hw0⟩ : ∃ w0, w0 = w.alloc (.cells #[v, .int .i64 t, .string s] 27) := ⟨_, rfl⟩
  have HB0 := Lib.hid (show Below w.heap.size w w0 by rw [hw0]; exact below_alloc _ _)
  have HX0 : Hid (w0.cell? ⟨w.heap.size, 0, none⟩ = some v) := Lib.hid (by rw [hw0]; simp)
  have HX1 : Hid (w0.cell? ⟨w.heap.size, 1, none⟩ = some (.int .i64 t)) := Lib.hid (by rw [hw0]; simp)
  have HX2 : Hid (w0.cell? ⟨w.heap.size, 2, none⟩ = some (.string s)) := Lib.hid (by rw [hw0]; simp)
  have HW0 := Lib.hid hw0
  clear hr h1 h2 h3 hw0
  go_enter Try.func6, Try.ntmps6
  go_wp2_with fail
  rw [← HW0.out]
  refine (alive_any _).mono ?_
  rintro e w1 ⟨rfl, hb1⟩
  have HQ1 := Lib.hid hb1
  have HB1 := Lib.hid (bthen HB0.out hb1)
  clear hb1
  by_cases h60 : 60 < n
  · have h61 : (60 : Int) < (n : Int) := by omega
    go_wp2
    go_ret
    exact ⟨rfl, HB1.out⟩
  have h61 : (n : Int) ≤ 60 := by omega
  clear h60
  go_wp2_with fail
  refine (build_any (fun i => i < w.heap.size) a0 n cp list w1 (HR.out.below HB1.out) (fun i hi => Nat.lt_of_lt_of_le hi HB1.out.size)).mono ?_
  rintro e w2 ⟨bg, al, cl, S, T, rfl, htw⟩
  have HQ2 := Lib.hid (bthen HQ1.out htw.bel)
  have HB2 := Lib.hid (bthen HB1.out htw.bel)
  have HG := Lib.hid htw.g
  have HLL := Lib.hid htw.l
  clear htw
  generalize buildL list = L at *
  go_wp2_with fail
  refine (is_any S T bg al cl L w2 HG.out.rg HLL.out HGL.out).mono ?_
  rintro e w3 ⟨rfl, hb3⟩
  have HC3 := Lib.hid hb3
  have HB3 := Lib.hid (bthen HB2.out hb3)
  clear hb3
  go_wp2_with fail
  refine (copy_any S bg L w3 (HG.out.below HC3.out) HGL.out).mono ?_
  rintro e w4 ⟨bh, rfl, hgh, hb4⟩
  have HGH := Lib.hid hgh
  have HC4 := Lib.hid hb4
  clear hb4 hgh
  go_wp2_with fail
  refine (is_any _ T bh al cl L w4 HGH.out.rg (HLL.out.below (bthen HC3.out HC4.out)) HGL.out).mono ?_
  rintro e w5 ⟨rfl, hb5⟩
  have HC5 := Lib.hid hb5
  have HQ5 := Lib.hid (bthen (bthen (bthen HQ2.out HC3.out) HC4.out) hb5)
  have HB5 := Lib.hid (bthen (bthen HB3.out HC4.out) hb5)
  have x0 := below_cell HQ5.out HX0.out
  have x1 := below_cell HQ5.out HX1.out
  have x2 := below_cell HQ5.out HX2.out
  clear hb5
  go_wp2_with fail
  refine (add_any _ _ bh L v ps t s w5 (HGH.out.below HC5.out) (HP.out.below HB5.out) HT.out HSZ.out).mono ?_
  rintro e w6 ⟨he, S', hgh, hf, hs⟩
  obtain ⟨rv, rfl⟩ : ∃ rv, e = .returned rv := ⟨_, he⟩
  have HC6 : Hid (Below w3.heap.size w3 w6) := Lib.hid ((bthen HC4.out HC5.out).trans (hf.below (fun i hi => hi) (by have := HC4.out.size; have := HC5.out.size; omega)))
  have HGH6 := Lib.hid hgh
  have HQ6 := Lib.hid (bthen (bthen HQ2.out HC3.out) HC6.out)
  have HB6 := Lib.hid (bthen HB3.out HC6.out)
  clear he hgh hf hs x0 x1 x2 HC5 HC4 HGH
  have x0 := below_cell HQ6.out HX0.out
  have x1 := below_cell HQ6.out HX1.out
  have x2 := below_cell HQ6.out HX2.out
  go_wp2_with fail
  refine (radd_any (fun i => T i ∨ i < w.heap.size) al _ cl L v ps t s w6 ((HLL.out.below (bthen HC3.out HC6.out)).mono fun i h => .inl h) ((HP.out.below HB6.out).mono fun i h => .inr h) HT.out HSZ.out).mono ?_
  rintro e w7 ⟨af, cf, rfl, hlf, hb7⟩
  have HGL2 := Lib.hid (HGL.out.add (ps, t, s))
  have HLF := Lib.hid hlf
  have HC7 := Lib.hid (bthen HC6.out hb7)
  have HG7 := Lib.hid (HGH6.out.below hb7)
  have HB7 := Lib.hid (bthen HB6.out hb7)
  clear hb7 hlf x0 x1 x2 HGH6 HQ6 HQ5
  generalize addC L (ps, t, s) = L2 at *
  generalize addBad L (ps, t, s) = bad
  go_wp2_with fail
  refine (is_any S T bg al cl L w7 ((HG.out.below HC3.out).below HC7.out).rg ((HLL.out.below HC3.out).below HC7.out) HGL.out).mono ?_
  rintro e w8 ⟨rfl, hb8⟩
  have HC8 := Lib.hid (bthen HC7.out hb8)
  have HD8 := Lib.hid hb8
  have HB8 := Lib.hid (bthen HB7.out hb8)
  clear hb8
  go_wp2_with fail
  refine (is_any S' _ bh af cf L2 w8 (HG7.out.below HD8.out).rg (HLF.out.below HD8.out) HGL2.out).mono ?_
  rintro e w9 ⟨rfl, hb9⟩
  have HC9 := Lib.hid (bthen HC8.out hb9)
  have HD9 := Lib.hid (bthen HD8.out hb9)
  have HB9 := Lib.hid (bthen HB8.out hb9)
  clear hb9
  go_wp2_with fail
  refine (heads_any S bg L w9 ((HG.out.below HC3.out).below HC9.out).rg HGL.out).mono ?_
  rintro e x1 ⟨k1, c1, rfl, ho1, hb1⟩
  have HO1 := Lib.hid (ho1.rd (headsTo_wf HG.out.n1))
  have HE1 := Lib.hid hb1
  clear hb1 ho1
  go_wp2_with fail
  refine (refHeads_any T al cl L x1 (((HLL.out.below HC3.out).below HC9.out).below HE1.out) HG.out.n1).mono ?_
  rintro e x2 ⟨k2, c2, rfl, ho2, hb2⟩
  have HO2 := Lib.hid (ho2.rd (headsTo_wf HG.out.n1))
  have HE2 := Lib.hid hb2
  clear hb2 ho2
  go_wp2_with fail
  refine (ints_own k1 k2 c1 c2 _ x2 (HO1.out.below HE2.out) HO2.out).mono ?_
  rintro e x3 ⟨rfl, hb3⟩
  have HE3 := Lib.hid (bthen (bthen HE1.out HE2.out) hb3)
  clear hb3
  go_wp2_with fail
  refine (heads_any S' bh L2 x3 ((HG7.out.below HD9.out).below HE3.out).rg HGL2.out).mono ?_
  rintro e x4 ⟨k4, c4, rfl, ho4, hb4⟩
  have HO4 := Lib.hid (ho4.rd (headsTo_wf HG7.out.n1))
  have HE4 := Lib.hid hb4
  clear hb4 ho4
  go_wp2_with fail
  refine (refHeads_any _ af cf L2 x4 (((HLF.out.below HD9.out).below HE3.out).below HE4.out) HG7.out.n1).mono ?_
  rintro e x5 ⟨k5, c5, rfl, ho5, hb5⟩
  have HO5 := Lib.hid (ho5.rd (headsTo_wf HG7.out.n1))
  have HE5 := Lib.hid hb5
  clear hb5 ho5
  go_wp2_with fail
  refine (ints_own k4 k5 c4 c5 _ x5 (HO4.out.below HE5.out) HO5.out).mono ?_
  rintro e x6 ⟨rfl, hb6⟩
  have HE6 := Lib.hid (bthen (bthen (bthen (bthen HB9.out HE3.out) HE4.out) HE5.out) hb6)
  clear hb6
  go_wp2
  go_ret
  exact ⟨rfl, HE6.out⟩

end Go.Proofs.Ytoakelgjofdmpaa
