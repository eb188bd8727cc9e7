/-
  the reference's Bases.
-/
import Derived.Test.YtoakelgjofdmpaaHLine
namespace Go.Proofs.Ytoakelgjofdmpaa
open Go.RowKit
set_option linter.unusedVariables false
set_option linter.unusedSimpArgs false

def natI (l : List Nat) : List Int := l.map fun (n : Nat) => (n : Int)
theorem natI_len (l : List Nat) : (natI l).length = l.length := by simp [natI]
theorem natI_getD {l : List Nat} {i : Nat} (hi : i < l.length) : (natI l).getD i 0 = ((l.getD i 0 : Nat) : Int) := by simp [natI, List.getD, hi]

set_option maxRecDepth 100000 in
set_option maxHeartbeats 4000000 in
theorem rbases_any (T : Nat → Prop) (al : Option Addr) (N cl : Nat) (L : List Cm) (a b : Nat) (w : World) (hl : RdC w T al N L) (hL : GoodL L) (hN : N ≤ 65536) (ha : a < N) (hb : b < N) :
    Calls Try.prog 33 #[.slice al N cl, .int .i64 a, .int .i64 b] w (ListPost1 (bases L a b) w) := by
  have HBEF := Lib.hid (fun (i k : Nat) (w' : World) (hi : i < N) (hk : k < N) (hb : Below w.heap.size w w') => rbefore_any T al N cl L i k w' (hl.below hb) hL hN hi hk)
  have HLN := Lib.hid hl.len
  have HOUT := Lib.hid (outTo_bases hL (a := a) (by rw [hl.len]; exact ha) b)
  rw [HLN.out] at HOUT
  have Ha := Lib.hid ha
  have Hb := Lib.hid hb
  have HN9 := Lib.hid hN
  have hnn : (N : Int) ≤ 9223372036854775807 := by omega
  clear hl hL hN ha hb
  go_enter Try.func33, Try.ntmps33
  go_wp2
  go_loopw [7, 9] (fun lv iv wr => ∃ i la lc, i ≤ N ∧ iv = .int .i64 (i : Nat) ∧ lv = .slice la (comTo L a b i).length lc ∧ Own wr w.heap.size 3 .i64 (.slice la (comTo L a b i).length lc) (natI (comTo L a b i)) ∧ Below w.heap.size w wr) (fun _ iv _ => N - (intOf iv).toNat)
  case atStart => exact ⟨0, none, 0, by omega, rfl, rfl, Own.nil _ _ _ _, Below.refl _ _⟩
  case round =>
    obtain ⟨i, la, lc, hi, rfl, rfl, hol, hbw⟩ := hrel
    have HOL := Lib.hid hol
    have HBW := Lib.hid hbw
    clear hol hbw
    by_cases hlt : i < N
    · have HSU := Lib.hid (comTo_succ L a b i)
      have HLE := Lib.hid (comTo_len L a b i)
      have HCOM : Hid (com L a b i = (ancB L i a && ancB L i b)) := Lib.hid rfl
      have HC1 := Lib.hid (HBEF.out i a wr hlt Ha.out HBW.out)
      have HLT := Lib.hid hlt
      cases hza : ancB L i a with
      | false =>
        rw [hza] at HC1 HCOM
        rw [show com L a b i = false from HCOM.out] at HSU
        clear hza
        go_wp2_with fail
        refine HC1.out.mono ?_
        rintro e w3 ⟨rfl, hb3⟩
        have HB3 := Lib.hid (HBW.out.trans (hb3.mono HBW.out.size))
        have HO3 := Lib.hid (HOL.out.below hb3)
        clear hb3
        go_wp2
        go_roundw
        case rel => exact ⟨i + 1, la, lc, by omega, by go_num, by rw [HSU.out]; rfl, by rw [HSU.out]; exact HO3.out, HB3.out⟩
        case measure => simp [intOf]; omega
      | true =>
        rw [hza] at HC1 HCOM
        clear hza
        go_wp2_with fail
        refine HC1.out.mono ?_
        rintro e w3 ⟨rfl, hb3⟩
        have HB3 := Lib.hid (HBW.out.trans (hb3.mono HBW.out.size))
        have HO3 := Lib.hid (HOL.out.below hb3)
        have HC2 := Lib.hid (HBEF.out i b w3 HLT.out Hb.out HB3.out)
        clear hb3
        cases hzb : ancB L i b with
        | false =>
          rw [hzb] at HC2 HCOM
          rw [show com L a b i = false from HCOM.out] at HSU
          clear hzb
          go_wp2_with fail
          refine HC2.out.mono ?_
          rintro e w4 ⟨rfl, hb4⟩
          have HB4 := Lib.hid (HB3.out.trans (hb4.mono HB3.out.size))
          have HO4 := Lib.hid (HO3.out.below hb4)
          clear hb4
          go_wp2
          go_roundw
          case rel => exact ⟨i + 1, la, lc, by omega, by go_num, by rw [HSU.out]; rfl, by rw [HSU.out]; exact HO4.out, HB4.out⟩
          case measure => simp [intOf]; omega
        | true =>
          rw [hzb] at HC2 HCOM
          rw [show com L a b i = true from HCOM.out] at HSU
          clear hzb
          go_wp2_with fail
          refine HC2.out.mono ?_
          rintro e w4 ⟨rfl, hb4⟩
          have HB4 := Lib.hid (HB3.out.trans (hb4.mono HB3.out.size))
          have HO4 := Lib.hid (HO3.out.below hb4)
          have HK := Lib.hid (Rd.one w4 .i64 3 (i : Int) (WalkArith.wf_i64 (by have := HN9.out; omega)))
          clear hb4
          go_wp2_with (at_builtin; refine app_rd (.tmp 29) (.tmp 31) EI rfl rfl w.heap.size _ _ rfl (HO4.out.alloc _) _ _ _ [(i : Int)] rfl HK.out (by have := HLE.out; have := HN9.out; simp [natI_len]; omega) (by omega) (by simp; have := HB4.out.size; omega) ?_; intro a7 c7 w7 ho7 hg7; have HO7 := Lib.hid ho7; have HB7 := Lib.hid (HB4.out.trans ((Below.alloc (Below.refl w.heap.size w4) HB4.out.size (.cells #[.int .i64 (i : Int)] 3)).trans (grown_below (HO4.out.alloc _) hg7 (by simp; have := HB4.out.size; omega)))); clear ho7 hg7)
          go_roundw
          case rel => exact ⟨i + 1, a7, c7, by omega, by go_num, by rw [HSU.out]; simp [natI_len], by
            have h7 := HO7.out
            rw [show (natI (comTo L a b i) ++ [(i : Int)]).length = (comTo L a b i ++ [i]).length by simp [natI_len]] at h7
            rw [HSU.out]
            simpa [natI] using h7, HB7.out⟩
          case measure => simp [intOf]; omega
    · obtain rfl : i = N := by omega
      have HMEMB : Hid (∀ j, j < (comTo L a b i).length → (comTo L a b i).getD j 0 < i) := Lib.hid (by
        intro j hj
        have : (comTo L a b i).getD j 0 ∈ comTo L a b i := by simp [List.getD, hj]
        have := (List.mem_filter.1 this).1
        exact List.mem_range.1 this)
      have HCL9 : Hid ((comTo L a b i).length ≤ 65536) := Lib.hid (by have := comTo_len L a b i; have := HN9.out; omega)
      have hcl9 : (((comTo L a b i).length : Nat) : Int) ≤ 9223372036854775807 := by have := HCL9.out; omega
      generalize hCC : comTo L a b i = C at *
      clear hCC
      have HRC : Hid (∀ wr', Below w.heap.size wr wr' → False ∨ True) := Lib.hid fun _ _ => .inr trivial
      have HBASE := Lib.hid HBW.out.size
      go_wp2
      obtain ⟨wo, hwo⟩ : ∃ wo : World, wo = wr := ⟨_, rfl⟩
      subst hwo
      go_loopw [8, 10] (fun ov kv wr => ∃ k oa oc, k ≤ C.length ∧ kv = .int .i64 (k : Nat) ∧ ov = .slice oa (outTo L C k).length oc ∧ Own wr wo.heap.size 3 .i64 (.slice oa (outTo L C k).length oc) (outTo L C k) ∧ Below wo.heap.size wo wr) (fun _ kv _ => C.length - (intOf kv).toNat)
      case atStart => exact ⟨0, none, 0, by omega, rfl, rfl, Own.nil _ _ _ _, Below.refl _ _⟩
      case round =>
        obtain ⟨k, oa, oc, hk, rfl, rfl, hoo, hbk⟩ := hrel
        have HOO := Lib.hid hoo
        have HBK := Lib.hid hbk
        clear hoo hbk
        have hrdw : ∀ wr', Below wo.heap.size wo wr' → ∀ j, j < C.length → ∃ xb xo, la = some ⟨xb, xo, none⟩ ∧ wr'.cell? ⟨xb, xo + j, none⟩ = some (.int .i64 ((C.getD j 0 : Nat) : Int)) := by
          intro wr' hb j hj
          have hr := (HOL.out.below hb).rd (fun x hx => by
            obtain ⟨m, hm, rfl⟩ := List.mem_map.1 hx
            obtain ⟨q, hq, rfl⟩ := List.getElem_of_mem hm
            have := HMEMB.out q hq
            simp [List.getD, hq] at this
            exact WalkArith.wf_i64 (by have := HN9.out; omega))
          obtain ⟨xb, xo, h1, h2⟩ := hr.cell j hj
          exact ⟨xb, xo, h1, by rw [natI_getD hj] at h2; exact h2⟩
        have HRD := Lib.hid hrdw
        clear hrdw
        by_cases hkl : k < C.length
        · have HKL := Lib.hid hkl
          obtain ⟨xb, xo, rfl, _⟩ := HRD.out wo (Below.refl _ _) k hkl
          have HCK : Hid (C.getD k 0 < i) := Lib.hid (HMEMB.out k hkl)
          have hOS : Hid (outTo L C (k + 1) = if topB L C k C.length then outTo L C k ++ [((C.getD k 0 : Nat) : Int)] else outTo L C k) := Lib.hid (outTo_succ L C k)
          have HOL2 := Lib.hid (outTo_len L C k)
          have hkl2 : (k : Int) < ((C.length : Nat) : Int) := by omega
          go_wp2
          go_loopw [11, 12] (fun fv jv wr => ∃ j, j ≤ C.length ∧ jv = .int .i64 (j : Nat) ∧ fv = .bool (topB L C k j) ∧ Own wr wo.heap.size 3 .i64 (.slice oa (outTo L C k).length oc) (outTo L C k) ∧ Below wo.heap.size wo wr) (fun _ jv _ => C.length - (intOf jv).toNat)
          case atStart => exact ⟨0, by omega, rfl, rfl, HOO.out, HBK.out⟩
          case round =>
            obtain ⟨j, hj, rfl, rfl, hoj, hbj⟩ := hrel
            have HOJ := Lib.hid hoj
            have HBJ := Lib.hid hbj
            clear hoj hbj
            by_cases hjl : j < C.length
            · have hTS := Lib.hid (topB_succ L C k j)
              by_cases hjk : j = k
              · subst hjk
                rw [show topB L C j (j + 1) = topB L C j j from by rw [hTS.out]; simp] at hTS
                have hTS2 : Hid (topB L C j (j + 1) = topB L C j j) := Lib.hid (by rw [topB_succ]; simp)
                have hjj : ((j : Int) != (j : Int)) = false := by simp
                clear hTS
                go_wp2
                go_quiet (fail)
                go_wp2
                go_roundw
                case rel => exact ⟨j + 1, by omega, by go_num, by rw [hTS2.out], HOJ.out.below (bdrewN (Below.refl _ _) _), bdrewN HBJ.out _⟩
                case measure => simp [intOf]; omega
              · have hjj : ((j : Int) != (k : Int)) = true := by simp; omega
                obtain ⟨_, _, hx1, h1⟩ := HRD.out wr HBJ.out k HKL.out
                obtain ⟨_, _, hx2, h2⟩ := HRD.out wr HBJ.out j hjl
                cases hx1; cases hx2
                have hjl2 : (j : Int) < ((C.length : Nat) : Int) := by omega
                have HC1 := Lib.hid (fun w' (hb : Below w.heap.size w w') => HBEF.out (C.getD k 0) (C.getD j 0) w' HCK.out (HMEMB.out j hjl) hb)
                have hBWJ : Hid (Below w.heap.size w wr) := Lib.hid (HBW.out.trans (HBJ.out.mono HBASE.out))
                rw [show (j == k) = false by simp; omega, Bool.false_or] at hTS
                cases hz : ancB L (C.getD k 0) (C.getD j 0) with
                | false =>
                  rw [hz] at HC1 hTS
                  clear hz
                  generalize C.getD k 0 = ck at *
                  generalize C.getD j 0 = cj at *
                  go_wp2_with fail
                  go_region_held3 (fun w' => w'.cell? ⟨xb, xo + k, none⟩ = some (.int .i64 ck) ∧ w'.cell? ⟨xb, xo + j, none⟩ = some (.int .i64 cj)) (go_keep) (first
                    | (go_at_call 34; refine (HC1.out _ hBWJ.out.drew).mono ?_; rintro e w9 ⟨rfl, hb9⟩; have y1 := below_cell (W := wr.drew) hb9 h1; have y2 := below_cell (W := wr.drew) hb9 h2; have HB9 := Lib.hid hb9; clear hb9))
                  go_wp2
                  go_roundw
                  case rel => exact ⟨j + 1, by omega, by go_num, by rw [hTS.out]; simp, HOJ.out.below ((Below.refl _ _).drew.trans HB9.out), HBJ.out.drew.trans (HB9.out.mono (by have := HBJ.out.size; simpa using this))⟩
                  case measure => simp [intOf]; omega
                | true =>
                  rw [hz] at HC1 hTS
                  clear hz
                  generalize C.getD k 0 = ck at *
                  generalize C.getD j 0 = cj at *
                  go_wp2_with fail
                  go_region_held3 (fun w' => w'.cell? ⟨xb, xo + k, none⟩ = some (.int .i64 ck) ∧ w'.cell? ⟨xb, xo + j, none⟩ = some (.int .i64 cj)) (go_keep) (first
                    | (go_at_call 34; refine (HC1.out _ hBWJ.out.drew).mono ?_; rintro e w9 ⟨rfl, hb9⟩; have y1 := below_cell (W := wr.drew) hb9 h1; have y2 := below_cell (W := wr.drew) hb9 h2; have HB9 := Lib.hid hb9; clear hb9))
                  go_wp2
                  go_roundw
                  case rel => exact ⟨j + 1, by omega, by go_num, by rw [hTS.out]; simp, HOJ.out.below ((Below.refl _ _).drew.trans HB9.out), HBJ.out.drew.trans (HB9.out.mono (by have := HBJ.out.size; simpa using this))⟩
                  case measure => simp [intOf]; omega
            · obtain rfl : j = C.length := by omega
              obtain ⟨_, _, hx1, h1⟩ := HRD.out wr HBJ.out k HKL.out
              cases hx1
              cases hz : topB L C k C.length with
              | false =>
                rw [hz] at hOS
                clear hz h1
                go_wp2
                go_roundw
                case rel => exact ⟨k + 1, oa, oc, by omega, by go_num, by rw [hOS.out]; rfl, by rw [hOS.out]; exact HOJ.out, HBJ.out⟩
                case measure => simp [intOf]; omega
              | true =>
                rw [hz] at hOS
                clear hz
                have HK := Lib.hid (Rd.one wr .i64 3 ((C.getD k 0 : Nat) : Int) (WalkArith.wf_i64 (by have := HCK.out; have := HN9.out; omega)))
                generalize C.getD k 0 = ck at *
                go_wp2_with (at_builtin; refine app_rd (.tmp 61) (.tmp 66) EI rfl rfl wo.heap.size _ _ rfl (HOJ.out.alloc _) _ _ _ [(ck : Int)] rfl HK.out (by have := HOL2.out; have := HCL9.out; have := HKL.out; simp; omega) (by omega) (by simp; have := HBJ.out.size; omega) ?_; intro a7 c7 w7 ho7 hg7; have HO7 := Lib.hid ho7; have HB7 := Lib.hid (HBJ.out.trans ((Below.alloc (Below.refl wo.heap.size wr) HBJ.out.size (.cells #[.int .i64 (ck : Int)] 3)).trans (grown_below (HOJ.out.alloc _) hg7 (by simp; have := HBJ.out.size; omega)))); clear ho7 hg7 h1)
                go_roundw
                case rel => exact ⟨k + 1, a7, c7, by omega, by go_num, by rw [hOS.out]; simp, by rw [hOS.out]; exact HO7.out, HB7.out⟩
                case measure => simp [intOf]; omega
        · obtain rfl : k = C.length := by omega
          go_wp2
          go_ret
          exact ⟨oa, oc, ret_eq (by rw [← HOUT.out]; rfl), by rw [← HOUT.out]; exact HOO.out.mono HBASE.out, HBW.out.trans (HBK.out.mono HBASE.out)⟩

end Go.Proofs.Ytoakelgjofdmpaa
