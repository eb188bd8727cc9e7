/-
  evergreenref29.Check: the error code of a machine.
-/
import Derived.Test.YtajajkganamfiaaMBase
namespace Go.Proofs.Ytajajkganamfiaa
open Go.RowKit

/-- the machine's struct as a new block -/
abbrev mbox (s : Int) (ac : Option Addr) (nc cc : Nat) (an : Option Addr) (nn cn : Nat) (aa : Option Addr) (na ca : Nat) : Obj :=
  .cells #[.int .i64 s, .slice ac nc cc, .slice an nn cn, .slice aa na ca] 26
/-- the machine's struct by value -/
abbrev mval (s : Int) (ac : Option Addr) (nc cc : Nat) (an : Option Addr) (nn cn : Nat) (aa : Option Addr) (na ca : Nat) : Value :=
  .agg #[.int .i64 s, .slice ac nc cc, .slice an nn cn, .slice aa na ca]

set_option maxRecDepth 100000 in
set_option maxHeartbeats 4000000 in
theorem refCheck_any (s : Int) (ac : Option Addr) (nc cc : Nat) (an : Option Addr) (nn cn : Nat) (aa : Option Addr) (na ca : Nat) (cls : List Int) (next : List (List Int)) (acc : List Bool) (w : World)
    (hm : RdM w ac nc an nn aa na cls next acc) :
    Calls Try.prog 18 #[.agg #[.int .i64 s, .slice ac nc cc, .slice an nn cn, .slice aa na ca]] w fun e w' => e = .returned (.int .i64 (mcode s cls next acc)) ∧ Below w.heap.size w w' := by
  have HM := Lib.hid (hm.below (below_alloc w (.cells #[.int .i64 s, .slice ac nc cc, .slice an nn cn, .slice aa na ca] 26)))
  have HLc := Lib.hid hm.c.len
  have HLn := Lib.hid hm.n.len
  have HLa := Lib.hid hm.a.len
  have HB := Lib.hid (below_alloc w (.cells #[.int .i64 s, .slice ac nc cc, .slice an nn cn, .slice aa na ca] 26))
  have hmx := hm.n.max
  clear hm
  by_cases hbad : HeadBad s cls next acc
  · have HE : Hid (mcode s cls next acc = 4) := Lib.hid (by unfold mcode; rw [if_pos hbad])
    have hb : nc ≠ 256 ∨ nn = 0 ∨ na ≠ nn ∨ s < 0 ∨ (nn : Int) ≤ s := by
      unfold HeadBad at hbad; rw [HLc.out, HLn.out, HLa.out] at hbad; exact hbad
    clear hbad
    go_enter Try.func18, Try.ntmps18
    go_wp2
    all_goals go_ret
    all_goals exact ⟨ret_eq (by rw [HE.out]; rfl), HB.out⟩
  · have hb1 : 256 ≤ nc ∧ nc ≤ 256 ∧ 1 ≤ nn ∧ na ≤ nn ∧ nn ≤ na ∧ 0 ≤ s ∧ s < (nn : Int) := by
      unfold HeadBad at hbad; rw [HLc.out, HLn.out, HLa.out] at hbad; omega
    obtain ⟨e1, e2, e3, e4, e5, e6, e7⟩ := hb1
    obtain ⟨b0, off0, a0, n0, c0, rfl, hrow0, hr0, _⟩ := HM.out.n.cell 0 (by omega)
    rw [Nat.add_zero] at hrow0
    have HN0 : Hid (ncls next = n0) := Lib.hid hr0.len
    clear hr0
    have HC : Hid (mcode s cls next acc = if n0 = 0 ∨ 256 < n0 then 4 else if next.all (rowOk nn n0) = false then 4 else if clsOk n0 cls = false then 4 else if 256 < nn then 9 else 0) := Lib.hid (by
      unfold mcode; rw [if_neg hbad, HN0.out, HLn.out])
    clear hbad
    by_cases hc : n0 < 1 ∨ 256 < n0
    · have HE : Hid (mcode s cls next acc = 4) := Lib.hid (by rw [HC.out, if_pos (by omega)])
      go_enter Try.func18, Try.ntmps18
      go_wp2
      all_goals go_ret
      all_goals exact ⟨ret_eq (by rw [HE.out]; rfl), HB.out⟩
    · have hc1 : 1 ≤ n0 := by omega
      have hc2 : n0 ≤ 256 := by omega
      have HC2 : Hid (mcode s cls next acc = if next.all (rowOk nn n0) = false then 4 else if clsOk n0 cls = false then 4 else if 256 < nn then 9 else 0) := Lib.hid (by rw [HC.out, if_neg (by omega)])
      clear hc HC
      go_enter Try.func18, Try.ntmps18
      go_wp2
      go_loop [5] (fun iv => ∃ i : Nat, i ≤ nn ∧ iv = .int .i64 i ∧ rowsTo next i) (fun iv => nn - (intOf iv).toNat)
      case atStart => exact ⟨0, by omega, rfl, rowsTo_zero _⟩
      case round =>
        obtain ⟨i, hi, rfl, hrt⟩ := hrel
        have HRT := Lib.hid hrt
        clear hrt
        by_cases hlt : i < nn
        · obtain ⟨b1, off1, a1, n1, c1, hx, hrow, hr1, _⟩ := HM.out.n.cell i hlt
          cases hx
          have HR1 := Lib.hid hr1
          have HL1 := Lib.hid hr1.len
          clear hr1
          by_cases hne : n1 = n0
          · subst hne
            go_wp2
            go_loop [6] (fun kv => ∃ k : Nat, k ≤ n1 ∧ kv = .int .i64 k ∧ entTo nn (next.getD i []) k) (fun kv => n1 - (intOf kv).toNat)
            case atStart => exact ⟨0, by omega, rfl, entTo_zero _ _⟩
            case round =>
              obtain ⟨k, hk, rfl, hent⟩ := hrel
              have HEn := Lib.hid hent
              clear hent
              by_cases hkl : k < n1
              · obtain ⟨b2, off2, rfl, hcell⟩ := HR1.out.cell k hkl
                have hk2 : k < (next.getD i []).length := by rw [HL1.out]; exact hkl
                by_cases hq : (next.getD i []).getD k 0 < 0 ∨ (nn : Int) ≤ (next.getD i []).getD k 0
                · have HE : Hid (mcode s cls next acc = 4) := Lib.hid (by
                    rw [HC2.out, if_pos]
                    have := rows_bad (next := next) (i := i) (by rw [HLn.out]; exact hlt) (ent_bad hk2 (by rw [HLn.out]; exact hq))
                    rw [HN0.out, HLn.out] at this; exact this)
                  generalize (next.getD i []).getD k 0 = q at *
                  go_wp2
                  all_goals go_ret
                  all_goals exact ⟨ret_eq (by rw [HE.out]; rfl), HB.out⟩
                · have HE2 := Lib.hid (entTo_succ hk2 HEn.out (by omega) (by omega))
                  have hq1 : 0 ≤ (next.getD i []).getD k 0 := by omega
                  have hq2 : (next.getD i []).getD k 0 < (nn : Int) := by omega
                  generalize (next.getD i []).getD k 0 = q at *
                  go_wp2
                  go_round
                  case rel => exact ⟨k + 1, by omega, by go_num, HE2.out⟩
                  case measure => simp [intOf]; omega
              · have HR3 := Lib.hid (rowsTo_succ (next := next) (i := i) (by rw [HLn.out]; exact hlt) HRT.out (by
                  rw [HN0.out, HLn.out]
                  exact entTo_row HL1.out (by rw [HL1.out]; have h : k = n1 := (by omega); rw [← h]; exact HEn.out)))
                go_wp2
                go_round
                case rel => exact ⟨i + 1, by omega, by go_num, HR3.out⟩
                case measure => simp [intOf]; omega
          · have HE : Hid (mcode s cls next acc = 4) := Lib.hid (by
              rw [HC2.out, if_pos]
              have := rows_bad (next := next) (i := i) (by rw [HLn.out]; exact hlt) (len_bad (by rw [HL1.out, HN0.out]; exact hne))
              rw [HN0.out, HLn.out] at this; exact this)
            go_wp2
            go_ret
            exact ⟨ret_eq (by rw [HE.out]; rfl), HB.out⟩
        · have HC3 : Hid (mcode s cls next acc = if clsOk n0 cls = false then 4 else if 256 < nn then 9 else 0) := Lib.hid (by
            have h : i = nn := by omega
            have h2 := HRT.out
            rw [h, ← HLn.out] at h2
            have h3 := rowsTo_all h2
            rw [HLn.out, HN0.out] at h3
            rw [HC2.out, if_neg (by rw [h3]; simp)])
          clear HRT
          go_wp2
          go_loop [7] (fun kv => ∃ k : Nat, k ≤ 256 ∧ kv = .int .i64 k ∧ entTo n0 cls k) (fun kv => 256 - (intOf kv).toNat)
          case atStart => exact ⟨0, by omega, rfl, entTo_zero _ _⟩
          case round =>
            obtain ⟨k, hk, rfl, hent⟩ := hrel
            have HEn := Lib.hid hent
            clear hent
            by_cases hkl : k < 256
            · obtain ⟨b2, off2, rfl, hcell⟩ := HM.out.c.cell k (by omega)
              have hk2 : k < cls.length := by rw [HLc.out]; omega
              by_cases hq : cls.getD k 0 < 0 ∨ (n0 : Int) ≤ cls.getD k 0
              · have HE : Hid (mcode s cls next acc = 4) := Lib.hid (by rw [HC3.out, if_pos (cls_bad hk2 hq)])
                generalize cls.getD k 0 = q at *
                go_wp2
                all_goals go_ret
                all_goals exact ⟨ret_eq (by rw [HE.out]; rfl), HB.out⟩
              · have HE2 := Lib.hid (entTo_succ hk2 HEn.out (by omega) (by omega))
                have hq1 : 0 ≤ cls.getD k 0 := by omega
                have hq2 : cls.getD k 0 < (n0 : Int) := by omega
                generalize cls.getD k 0 = q at *
                go_wp2
                go_round
                case rel => exact ⟨k + 1, by omega, by go_num, HE2.out⟩
                case measure => simp [intOf]; omega
            · have HC4 : Hid (mcode s cls next acc = if 256 < nn then 9 else 0) := Lib.hid (by
                have h : k = 256 := by omega
                have h2 := HEn.out
                rw [h, show 256 = cls.length by rw [HLc.out]; omega] at h2
                rw [HC3.out, if_neg (by rw [cls_ok h2]; simp)])
              by_cases hbig : 256 < nn
              · have HE : Hid (mcode s cls next acc = 9) := Lib.hid (by rw [HC4.out, if_pos hbig])
                go_wp2
                go_ret
                exact ⟨ret_eq (by rw [HE.out]; rfl), HB.out⟩
              · have HE : Hid (mcode s cls next acc = 0) := Lib.hid (by rw [HC4.out, if_neg hbig])
                go_wp2
                go_ret
                exact ⟨ret_eq (by rw [HE.out]; rfl), HB.out⟩

end Go.Proofs.Ytajajkganamfiaa
