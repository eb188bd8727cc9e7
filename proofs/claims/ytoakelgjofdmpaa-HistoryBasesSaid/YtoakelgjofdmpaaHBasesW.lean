/-
  the walk of HistoryBases.
-/
import Derived.Test.YtoakelgjofdmpaaHAlive
import Derived.Test.YtoakelgjofdmpaaHBasL
import Derived.Deep.RegionHeld3
namespace Go.Proofs.Ytoakelgjofdmpaa
open Go.RowKit
set_option linter.unusedVariables false
set_option linter.unusedSimpArgs false

set_option maxRecDepth 100000 in
set_option maxHeartbeats 1000000 in
theorem clos_any (S : Nat → Prop) (bg bx : Nat) (L : List Cm) (m q : Nat) (w : World) (hg : RG w S bg L) (hL : GoodL L) (hm : m < L.length) (hq : q < L.length) (hc : w.cell? ⟨bx, 0, none⟩ = some (.pointer (some ⟨bg, 0, none⟩))) :
    Calls Try.prog 18 #[.int .i64 m, .int .i64 q, .pointer (some ⟨bx, 0, none⟩)] w fun e w' => e = .returned (.bool (ancB L m q)) ∧ Below w.heap.size w w' := by
  have HB := Lib.hid (before_ok S bg L m q w hg hL hm hq)
  have hne : ∀ w, (binOp .eql 33 .nilIface .nilIface).run Try.prog w = .ok (.bool true) w := fun w => by kernel_rfl
  clear hg hL hm hq
  go_enter Try.func18, Try.ntmps18
  go_wp2_with fail
  refine HB.out.mono ?_
  rintro e w2 ⟨rfl, hb⟩
  have HB2 := Lib.hid hb
  generalize hz : ancB L m q = z at *
  have HZ := Lib.hid hz
  clear hb hc hz
  go_wp2
  go_ret
  exact ⟨ret_eq (by rw [HZ.out]; rfl), HB2.out⟩

set_option maxRecDepth 100000 in
set_option maxHeartbeats 8000000 in
theorem walk_HistoryBases (a0 : Option Addr) (n cp : Nat) (list : List Cm) (a b : Int) (w : World) (hr : RdC w (fun i => i < w.heap.size) a0 n list) (_h1 : (Lit.int .i64 a).wf = true) (_h2 : (Lit.int .i64 b).wf = true) :
    Calls Try.prog 4 #[.slice a0 n cp, .int .i64 a, .int .i64 b] w fun e w' => e = .returned (.bool true) ∧ Below w.heap.size w w' := by
  have HR := Lib.hid hr
  have HL := Lib.hid hr.len
  have hmx := hr.max
  have hne : ∀ w, (binOp .neq 33 .nilIface .nilIface).run Try.prog w = .ok (.bool false) w := fun w => by kernel_rfl
  have hmf : ∀ (fn : Fn) (first cap : Array Value) (w : World), (Instr.makeFunc fn first cap).run Try.prog w = .ok (.func fn first cap) w := fun _ _ _ _ => rfl
  have HGL := Lib.hid (buildL_good list)
  have HN1 := Lib.hid (buildL_len list)
  clear hr
  go_enter Try.func4, Try.ntmps4
  go_wp2_with fail
  refine (alive_any _).mono ?_
  rintro e w1 ⟨rfl, hb1⟩
  have HB1 := Lib.hid hb1
  clear hb1
  by_cases h40 : 40 < n
  · have h41 : (40 : Int) < (n : Int) := by omega
    go_wp2
    go_ret
    exact ⟨rfl, HB1.out⟩
  have h41 : (n : Int) ≤ 40 := by omega
  clear h40
  go_wp2_with fail
  refine (build_any (fun i => i < w.heap.size) a0 n cp list w1 (HR.out.below HB1.out) (fun i hi => Nat.lt_of_lt_of_le hi HB1.out.size)).mono ?_
  rintro e w2 ⟨bg, al, cl, S, T, rfl, htw⟩
  have HTW := Lib.hid htw
  have HB2 := Lib.hid (bthen HB1.out htw.bel)
  have HG := Lib.hid htw.g.rg
  have hn1 := htw.g.n1
  clear htw
  generalize buildL list = L at *
  have hM : L.length ≤ 9223372036854775807 := by omega
  clear hn1
  by_cases hin : (0 ≤ a ∧ a < (L.length : Int)) ∧ (0 ≤ b ∧ b < (L.length : Int))
  case neg =>
    go_wp2
    all_goals go_ret
    all_goals exact ⟨rfl, bthen HB2.out (below_alloc _ _)⟩
  obtain ⟨⟨ha0, ha1⟩, ⟨hb0, hb1⟩⟩ := hin
  obtain ⟨a, rfl⟩ := Int.eq_ofNat_of_zero_le ha0
  obtain ⟨b, rfl⟩ := Int.eq_ofNat_of_zero_le hb0
  have Ha : Hid (a < L.length) := Lib.hid (by omega)
  have Hb : Hid (b < L.length) := Lib.hid (by omega)
  obtain ⟨w3, hw3⟩ : ∃ w3, w3 = w2.alloc (.cells #[.pointer (some ⟨bg, 0, none⟩)] 28) := ⟨_, rfl⟩
  obtain ⟨bx, hbx⟩ : ∃ bx, bx = w2.heap.size := ⟨_, rfl⟩
  have hcx : w3.cell? ⟨bx, 0, none⟩ = some (.pointer (some ⟨bg, 0, none⟩)) := by rw [hw3]; exact acell hbx.symm rfl
  have HB23 : Hid (Below w2.heap.size w2 w3) := Lib.hid (by rw [hw3]; exact below_alloc _ _)
  have HB3 := Lib.hid (bthen HB2.out HB23.out)
  have HG3 := Lib.hid (HG.out.below HB23.out)
  have HW3 := Lib.hid hw3
  have HBX := Lib.hid hbx
  have HBS := Lib.hid (bases_symm L b a)
  clear hw3 hbx
  go_wp2_with fail
  rw [← HW3.out, ← HBX.out]
  refine (bases_ok S bg L a b w3 HG3.out HGL.out Ha.out Hb.out).mono ?_
  rintro e w4 ⟨la, lc, rfl, ho4, hb4⟩
  have HO4 := Lib.hid ho4
  have HB34 := Lib.hid hb4
  have hcx4 := below_cell hb4 hcx
  clear ho4 hb4 hcx
  go_wp2_with fail
  refine (bases_ok S bg L b a w4 (HG3.out.below HB34.out) HGL.out Hb.out Ha.out).mono ?_
  rintro e w5 ⟨lb, ld, rfl, ho5, hb5⟩
  rw [HBS.out] at ho5 ⊢
  have HO5 := Lib.hid ho5
  have HB35 : Hid (Below w3.heap.size w3 w5) := Lib.hid (bthen HB34.out hb5)
  have hcx5 := below_cell hb5 hcx4
  have HRX5 : Hid (Rd w5 .i64 la (bases L a b).length (bases L a b)) := Lib.hid ((HO4.out.rd (fun x hx => by
    rw [bases_map] at hx
    obtain ⟨m, hm, rfl⟩ := List.mem_map.1 hx
    have := (basesN_mem.1 hm).1
    exact WalkArith.wf_i64 (by omega))).below hb5)
  have HRY5 : Hid (Rd w5 .i64 lb (bases L a b).length (bases L a b)) := Lib.hid (HO5.out.rd (fun x hx => by
    rw [bases_map] at hx
    obtain ⟨m, hm, rfl⟩ := List.mem_map.1 hx
    have := (basesN_mem.1 hm).1
    exact WalkArith.wf_i64 (by omega)))
  clear ho5 hb5 hcx4
  have HAT := Lib.hid (fun i (hi : i < (bases L a b).length) => bases_at hi)
  have HAP := Lib.hid (fun i k m q h1 h2 hne => bases_apart HGL.out (a := a) (b := b) (i := i) (k := k) (m := m) (q := q) h1 h2 hne)
  have HAB := Lib.hid (fun n (hn : com L a b n = true) => bases_above HGL.out Ha.out (a - n) n (Nat.le_refl _) hn)
  have HON := Lib.hid (fun (h : ancB L a b = true) => bases_one HGL.out Ha.out h)
  have HMEM : Hid (∀ m, m ∈ basesN L a b → ∃ i, i < (bases L a b).length ∧ (basesN L a b)[i]? = some m) := Lib.hid (fun m hm => by
    obtain ⟨i, hi⟩ := List.getElem?_of_mem hm
    exact ⟨i, by rw [bases_map, List.length_map]; exact (List.getElem?_eq_some_iff.1 hi).1, hi⟩)
  have hxm : (bases L a b).length ≤ 9223372036854775807 := HRX5.out.max
  generalize bases L a b = X at *
  generalize basesN L a b = XN at *
  go_wp2_with fail
  refine (ints_any la lb X.length X.length lc ld X X w5 HRX5.out HRY5.out).mono ?_
  rw [decide_eq_true (rfl : X = X)]
  rintro e w6 ⟨rfl, hb6⟩
  have HB36 : Hid (Below w3.heap.size w3 w6) := Lib.hid (bthen HB35.out hb6)
  have HRX := Lib.hid (HRX5.out.below hb6)
  have HCX := Lib.hid (below_cell hb6 hcx5)
  have HB06 : Hid (Below w.heap.size w w6) := Lib.hid (bthen HB3.out HB36.out)
  have HCL : Hid (∀ (m q : Nat) (w' : World), m < L.length → q < L.length → Below w6.heap.size w6 w' → Calls Try.prog 18 #[.int .i64 m, .int .i64 q, .pointer (some ⟨bx, 0, none⟩)] w' fun e w'' => e = .returned (.bool (ancB L m q)) ∧ Below w'.heap.size w' w'') :=
    Lib.hid fun m q w' hm hq hb => clos_any S bg bx L m q w' (HG3.out.below (bthen HB36.out hb)) HGL.out hm hq (below_cell hb HCX.out)
  clear hb6 hcx5 HRY5 HRX5 HO4 HO5
  go_wp2
  go_loopw [15] (fun iv wr => ∃ i : Nat, i ≤ X.length ∧ iv = .int .i64 i ∧ Below w6.heap.size w6 wr) (fun iv _ => X.length - (intOf iv).toNat)
  case atStart => exact ⟨0, by omega, rfl, Below.refl _ _⟩
  case round =>
    obtain ⟨i, hi, rfl, hbi⟩ := hrel
    have HBI := Lib.hid hbi
    clear hbi
    by_cases hlt : i < X.length
    · obtain ⟨m, hxm2, hnm, hmL, hbm⟩ := HAT.out i hlt
      obtain ⟨xb, xo, rfl, h1⟩ := (HRX.out.below HBI.out).cell i hlt
      rw [hxm2] at h1
      have HNM := Lib.hid hnm
      have HML := Lib.hid hmL
      have ham := (com_anc (base_com hbm).1).1
      have hbmm := (com_anc (base_com hbm).1).2
      have HC1 := Lib.hid (HCL.out m a wr hmL Ha.out HBI.out)
      rw [ham] at HC1
      clear hxm2 hnm hbm ham
      go_wp2_with fail
      refine HC1.out.mono ?_
      rintro e w7 ⟨rfl, hb7⟩
      have h2 := below_cell hb7 h1
      have HBI7 := Lib.hid (HBI.out.trans (hb7.mono HBI.out.size))
      have HC2 := Lib.hid (HCL.out m b w7 HML.out Hb.out HBI7.out)
      rw [hbmm] at HC2
      clear hb7 h1 hbmm hmL HC1
      go_wp2_with fail
      refine HC2.out.mono ?_
      rintro e w8 ⟨rfl, hb8⟩
      have HBI8 := Lib.hid (HBI7.out.trans (hb8.mono HBI7.out.size))
      clear hb8 h2 HC2
      go_wp2
      go_loopw [16] (fun kv wr => ∃ k : Nat, k ≤ X.length ∧ kv = .int .i64 k ∧ Below w6.heap.size w6 wr) (fun kv _ => X.length - (intOf kv).toNat)
      case atStart => exact ⟨0, by omega, rfl, HBI8.out⟩
      case round =>
        obtain ⟨k, hk, rfl, hbk⟩ := hrel
        have HBK := Lib.hid hbk
        clear hbk
        by_cases hkl : k < X.length
        · by_cases hki : k = i
          · subst hki
            have hkk : ((k : Int) != (k : Int)) = false := by simp
            go_wp2
            go_quiet (fail)
            go_wp2
            go_roundw
            case rel => exact ⟨k + 1, by omega, by go_num, bdrewN HBK.out _⟩
            case measure => simp [intOf]; omega
          · obtain ⟨q, hxq, hnq, hqL, _⟩ := HAT.out k hkl
            obtain ⟨m', hxm', hnm', _, _⟩ := HAT.out i hlt
            obtain rfl : m' = m := by rw [HNM.out] at hnm'; exact (Option.some.inj hnm').symm
            have HQL := Lib.hid hqL
            have hap := HAP.out i k m' q HNM.out hnq hki
            obtain ⟨_, _, hx1, h1⟩ := (HRX.out.below HBK.out).cell i hlt
            obtain ⟨_, _, hx2, h2⟩ := (HRX.out.below HBK.out).cell k hkl
            cases hx1; cases hx2
            rw [hxm'] at h1
            rw [hxq] at h2
            have HC3 := Lib.hid (fun w' hb => HCL.out m' q w' HML.out HQL.out hb)
            rw [hap] at HC3
            have hkk : ((k : Int) != (i : Int)) = true := by simp; omega
            have hk1 : (k : Int) < (X.length : Int) := by omega
            have hi1 : (i : Int) < (X.length : Int) := by omega
            clear hnq hap hxm' hnm' hxq hqL
            go_wp2_with fail
            go_region_held3 (fun w' => w'.cell? ⟨xb, xo + i, none⟩ = some (.int .i64 m') ∧ w'.cell? ⟨xb, xo + k, none⟩ = some (.int .i64 q)) (go_keep) (first
              | (go_at_call 18; refine (HC3.out _ HBK.out.drew).mono ?_; rintro e w9 ⟨rfl, hb9⟩; have y1 := below_cell (W := wr.drew) hb9 h1; have y2 := below_cell (W := wr.drew) hb9 h2; have HB9 := Lib.hid hb9; clear hb9))
            go_wp2
            go_roundw
            case rel => exact ⟨k + 1, by omega, by go_num, HBK.out.drew.trans (HB9.out.mono (by have := HBK.out.size; simpa using this))⟩
            case measure => simp [intOf]; omega
        · go_wp2
          go_roundw
          case rel => exact ⟨i + 1, by omega, by go_num, HBK.out⟩
          case measure => simp [intOf]; omega
    · go_wp2
      go_loopw [17] (fun iv wr => ∃ i : Nat, i ≤ L.length ∧ iv = .int .i64 i ∧ Below w6.heap.size w6 wr) (fun iv _ => L.length - (intOf iv).toNat)
      case atStart => exact ⟨0, by omega, rfl, HBI.out⟩
      case round =>
        obtain ⟨t, ht, rfl, hbt⟩ := hrel
        have HBT := Lib.hid hbt
        clear hbt
        by_cases htl : t < L.length
        · have HTL := Lib.hid htl
          have HC1 := Lib.hid (HCL.out t a wr htl Ha.out HBT.out)
          cases hta : ancB L t a with
          | false =>
            rw [hta] at HC1
            clear hta
            go_wp2_with fail
            refine HC1.out.mono ?_
            rintro e w7 ⟨rfl, hb7⟩
            have HB7 := Lib.hid (HBT.out.trans (hb7.mono HBT.out.size))
            clear hb7
            go_wp2
            go_roundw
            case rel => exact ⟨t + 1, by omega, by go_num, HB7.out⟩
            case measure => simp [intOf]; omega
          | true =>
            rw [hta] at HC1
            have HTA := Lib.hid hta
            clear hta
            go_wp2_with fail
            refine HC1.out.mono ?_
            rintro e w7 ⟨rfl, hb7⟩
            have HB7 := Lib.hid (HBT.out.trans (hb7.mono HBT.out.size))
            have HC2 := Lib.hid (HCL.out t b w7 HTL.out Hb.out HB7.out)
            clear hb7
            cases htb : ancB L t b with
            | false =>
              rw [htb] at HC2
              clear htb
              go_wp2_with fail
              refine HC2.out.mono ?_
              rintro e w8 ⟨rfl, hb8⟩
              have HB8 := Lib.hid (HB7.out.trans (hb8.mono HB7.out.size))
              clear hb8
              go_wp2
              go_roundw
              case rel => exact ⟨t + 1, by omega, by go_num, HB8.out⟩
              case measure => simp [intOf]; omega
            | true =>
              rw [htb] at HC2
              have HABV := Lib.hid (HAB.out t (by unfold com; rw [HTA.out, htb]; rfl))
              clear htb
              go_wp2_with fail
              refine HC2.out.mono ?_
              rintro e w8 ⟨rfl, hb8⟩
              have HB8 := Lib.hid (HB7.out.trans (hb8.mono HB7.out.size))
              clear hb8
              go_wp2
              go_loopw [18, 19] (fun fv iv wr => ∃ (i : Nat) (f : Bool), i ≤ X.length ∧ iv = .int .i64 i ∧ fv = .bool f ∧ (f = true ↔ ∃ j m, j < i ∧ XN[j]? = some m ∧ ancB L t m = true) ∧ Below w6.heap.size w6 wr) (fun _ iv _ => X.length - (intOf iv).toNat)
              case atStart => exact ⟨0, false, by omega, rfl, rfl, ⟨fun h => (by cases h), fun ⟨j, m, h, _⟩ => (by omega)⟩, HB8.out⟩
              case round =>
                obtain ⟨k, f, hk, rfl, rfl, hf, hbk⟩ := hrel
                have HF := Lib.hid hf
                have HBK := Lib.hid hbk
                clear hf hbk
                by_cases hkl : k < X.length
                · obtain ⟨q, hxq, hnq, hqL, _⟩ := HAT.out k hkl
                  obtain ⟨xb, xo, rfl, h2⟩ := (HRX.out.below HBK.out).cell k hkl
                  rw [hxq] at h2
                  have HNQ := Lib.hid hnq
                  have HC3 := Lib.hid (HCL.out t q wr HTL.out hqL HBK.out)
                  clear hxq hnq hqL
                  cases f with
                  | true =>
                    go_wp2
                    go_roundw
                    case rel => exact ⟨k + 1, true, by omega, by go_num, rfl, ⟨fun _ => by
                      obtain ⟨j, m, hj, h1, h2⟩ := HF.out.1 rfl
                      exact ⟨j, m, by omega, h1, h2⟩, fun _ => rfl⟩, HBK.out⟩
                    case measure => simp [intOf]; omega
                  | false =>
                    have HSTEP : Hid (ancB L t q = true ↔ ∃ j m, j < k + 1 ∧ XN[j]? = some m ∧ ancB L t m = true) := Lib.hid (by
                      constructor
                      · intro h; exact ⟨k, q, by omega, HNQ.out, h⟩
                      · rintro ⟨j, m, hj, h1, h2⟩
                        by_cases hjk : j < k
                        · have := HF.out.2 ⟨j, m, hjk, h1, h2⟩; cases this
                        · have : j = k := by omega
                          subst this
                          rw [HNQ.out] at h1; cases h1; exact h2)
                    generalize ancB L t q = z at *
                    go_wp2_with fail
                    refine HC3.out.mono ?_
                    rintro e w9 ⟨rfl, hb9⟩
                    have HB9 := Lib.hid (HBK.out.trans (hb9.mono HBK.out.size))
                    clear hb9 h2
                    go_wp2
                    go_roundw
                    case rel => exact ⟨k + 1, z, by omega, by go_num, rfl, HSTEP.out, HB9.out⟩
                    case measure => simp [intOf]; omega
                · obtain rfl : f = true := by
                    obtain ⟨m, hm, ham⟩ := HABV.out
                    obtain ⟨j, hj, hjm⟩ := HMEM.out m hm
                    exact HF.out.2 ⟨j, m, by omega, hjm, ham⟩
                  go_wp2
                  go_roundw
                  case rel => exact ⟨t + 1, by omega, by go_num, HBK.out⟩
                  case measure => simp [intOf]; omega
        · have HC1 := Lib.hid (HCL.out a b wr Ha.out Hb.out HBT.out)
          cases hab : ancB L a b with
          | false =>
            rw [hab] at HC1
            clear hab
            go_wp2_with fail
            refine HC1.out.mono ?_
            rintro e w7 ⟨rfl, hb7⟩
            have HB7 := Lib.hid (HBT.out.trans (hb7.mono HBT.out.size))
            clear hb7
            go_wp2
            go_ret
            exact ⟨ret_eq (by simp), bthen HB06.out HB7.out⟩
          | true =>
            rw [hab] at HC1
            obtain rfl := HON.out hab
            clear hab
            go_wp2_with fail
            refine HC1.out.mono ?_
            rintro e w7 ⟨rfl, hb7⟩
            have HB7 := Lib.hid (HBT.out.trans (hb7.mono HBT.out.size))
            obtain ⟨xb, xo, rfl, h2⟩ := (HRX.out.below HB7.out).cell 0 (by simp)
            rw [Nat.add_zero] at h2
            have h3 : ([(a : Int)] : List Int).getD 0 0 = (a : Int) := rfl
            rw [h3] at h2
            clear hb7 h3
            go_wp2
            go_ret
            exact ⟨ret_eq (by simp), bthen HB06.out HB7.out⟩

end Go.Proofs.Ytoakelgjofdmpaa
