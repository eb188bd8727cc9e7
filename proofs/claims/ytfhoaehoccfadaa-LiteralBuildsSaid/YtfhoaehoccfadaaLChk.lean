/-
  machine.Check, Run and Accepts; the literal machine is valid.
-/
import Derived.Test.YtfhoaehoccfadaaLEndsS
import Derived.Test.YtfhoaehoccfadaaMBfs
import Derived.Deep.RegionHeld3
namespace Go.Proofs.Ytfhoaehoccfadaa
open Go.RowKit
set_option linter.unusedVariables false
set_option linter.unusedSimpArgs false

set_option maxRecDepth 100000 in
set_option maxHeartbeats 4000000 in
theorem check_any (s : Int) (ac : Option Addr) (nc cc : Nat) (an : Option Addr) (nn cn : Nat) (aa : Option Addr) (na ca : Nat) (cls : List Int) (next : List (List Int)) (acc : List Bool) (w : World)
    (hm : RdM w ac nc an nn aa na cls next acc) :
    Calls Try.prog 22 #[.agg #[.int .i64 s, .slice ac nc cc, .slice an nn cn, .slice aa na ca]] w fun e w' => e = .returned (errV (mcode s cls next acc)) ∧ Below w.heap.size w w' := by
  have HM := Lib.hid (hm.below (below_alloc w (.cells #[.int .i64 s, .slice ac nc cc, .slice an nn cn, .slice aa na ca] 28)))
  have HLc := Lib.hid hm.c.len
  have HLn := Lib.hid hm.n.len
  have HLa := Lib.hid hm.a.len
  have HB := Lib.hid (below_alloc w (.cells #[.int .i64 s, .slice ac nc cc, .slice an nn cn, .slice aa na ca] 28))
  have hmx := hm.n.max
  clear hm
  by_cases hbad : HeadBad s cls next acc
  · have HE : Hid (mcode s cls next acc = 4) := Lib.hid (by unfold mcode; rw [if_pos hbad])
    have hb : nc ≠ 256 ∨ nn = 0 ∨ na ≠ nn ∨ s < 0 ∨ (nn : Int) ≤ s := by
      unfold HeadBad at hbad; rw [HLc.out, HLn.out, HLa.out] at hbad; exact hbad
    clear hbad
    go_enter Try.func22, Try.ntmps22
    go_wp2
    all_goals go_ret
    all_goals exact ⟨ret_eq (by rw [HE.out]; rfl), below_alloc _ _⟩
  · have hb1 : 256 ≤ nc ∧ nc ≤ 256 ∧ 1 ≤ nn ∧ na ≤ nn ∧ nn ≤ na ∧ 0 ≤ s ∧ s < (nn : Int) := by
      unfold HeadBad at hbad; rw [HLc.out, HLn.out, HLa.out] at hbad; omega
    obtain ⟨e1, e2, e3, e4, e5, e6, e7⟩ := hb1
    have ez : ((nn : Int) == 0) = false := by simp; omega
    obtain ⟨b0, off0, a0, n0, c0, rfl, hrow0, hr0, _⟩ := HM.out.n.cell 0 (by omega)
    rw [Nat.add_zero] at hrow0
    have HN0 : Hid (ncls next = n0) := Lib.hid hr0.len
    clear hr0
    have HC : Hid (mcode s cls next acc = if n0 = 0 ∨ 256 < n0 then 4 else if next.all (rowOk nn n0) = false then 4 else if clsOk n0 cls = false then 4 else if 256 < nn then 9 else 0) := Lib.hid (by
      unfold mcode; rw [if_neg hbad, HN0.out, HLn.out])
    clear hbad
    by_cases hc : n0 < 1 ∨ 256 < n0
    · have HE : Hid (mcode s cls next acc = 4) := Lib.hid (by rw [HC.out, if_pos (by omega)])
      go_enter Try.func22, Try.ntmps22
      go_wp2
      all_goals go_ret
      all_goals exact ⟨ret_eq (by rw [HE.out]; rfl), below_alloc _ _⟩
    · have hc1 : 1 ≤ n0 := by omega
      have hc2 : n0 ≤ 256 := by omega
      have HC2 : Hid (mcode s cls next acc = if next.all (rowOk nn n0) = false then 4 else if clsOk n0 cls = false then 4 else if 256 < nn then 9 else 0) := Lib.hid (by rw [HC.out, if_neg (by omega)])
      clear hc HC
      go_enter Try.func22, Try.ntmps22
      go_wp2
      go_loop [56] (fun iv => ∃ i : Nat, i ≤ nn ∧ iv = .int .i64 i ∧ rowsTo next i) (fun iv => nn - (intOf iv).toNat)
      case atStart => exact ⟨0, by omega, rfl, rowsTo_zero _⟩
      case round =>
        obtain ⟨i, hi, rfl, hrt⟩ := hrel
        have HRT := Lib.hid hrt
        clear hrt
        by_cases hlt : i < nn
        · obtain ⟨b1, off1, a1, n1, c1, hx, hrow, hr1, _⟩ := HM.out.n.cell i hlt
          cases hx
          have HR1 := Lib.hid hr1
          have HL1 := Lib.hid hr1.len
          clear hr1
          by_cases hne : n1 = n0
          · subst hne
            go_wp2
            go_loop [67] (fun kv => ∃ k : Nat, k ≤ n1 ∧ kv = .int .i64 k ∧ entTo nn (next.getD i []) k) (fun kv => n1 - (intOf kv).toNat)
            case atStart => exact ⟨0, by omega, rfl, entTo_zero _ _⟩
            case round =>
              obtain ⟨k, hk, rfl, hent⟩ := hrel
              have HEn := Lib.hid hent
              clear hent
              by_cases hkl : k < n1
              · obtain ⟨b2, off2, rfl, hcell⟩ := HR1.out.cell k hkl
                have hk2 : k < (next.getD i []).length := by rw [HL1.out]; exact hkl
                by_cases hq : (next.getD i []).getD k 0 < 0 ∨ (nn : Int) ≤ (next.getD i []).getD k 0
                · have HE : Hid (mcode s cls next acc = 4) := Lib.hid (by
                    rw [HC2.out, if_pos]
                    have := rows_bad (next := next) (i := i) (by rw [HLn.out]; exact hlt) (ent_bad hk2 (by rw [HLn.out]; exact hq))
                    rw [HN0.out, HLn.out] at this; exact this)
                  generalize (next.getD i []).getD k 0 = q at *
                  go_wp2
                  all_goals go_ret
                  all_goals exact ⟨ret_eq (by rw [HE.out]; rfl), below_alloc _ _⟩
                · have HE2 := Lib.hid (entTo_succ hk2 HEn.out (by omega) (by omega))
                  have hq1 : 0 ≤ (next.getD i []).getD k 0 := by omega
                  have hq2 : (next.getD i []).getD k 0 < (nn : Int) := by omega
                  generalize (next.getD i []).getD k 0 = q at *
                  go_wp2
                  go_round
                  case rel => exact ⟨k + 1, by omega, by go_num, HE2.out⟩
                  case measure => simp [intOf]; omega
              · have HR3 := Lib.hid (rowsTo_succ (next := next) (i := i) (by rw [HLn.out]; exact hlt) HRT.out (by
                  rw [HN0.out, HLn.out]
                  exact entTo_row HL1.out (by rw [HL1.out]; have h : k = n1 := (by omega); rw [← h]; exact HEn.out)))
                go_wp2
                go_round
                case rel => exact ⟨i + 1, by omega, by go_num, HR3.out⟩
                case measure => simp [intOf]; omega
          · have HE : Hid (mcode s cls next acc = 4) := Lib.hid (by
              rw [HC2.out, if_pos]
              have := rows_bad (next := next) (i := i) (by rw [HLn.out]; exact hlt) (len_bad (by rw [HL1.out, HN0.out]; exact hne))
              rw [HN0.out, HLn.out] at this; exact this)
            go_wp2
            go_ret
            exact ⟨ret_eq (by rw [HE.out]; rfl), below_alloc _ _⟩
        · have HC3 : Hid (mcode s cls next acc = if clsOk n0 cls = false then 4 else if 256 < nn then 9 else 0) := Lib.hid (by
            have h : i = nn := by omega
            have h2 := HRT.out
            rw [h, ← HLn.out] at h2
            have h3 := rowsTo_all h2
            rw [HLn.out, HN0.out] at h3
            rw [HC2.out, if_neg (by rw [h3]; simp)])
          clear HRT
          go_wp2
          go_loop [84] (fun kv => ∃ k : Nat, k ≤ 256 ∧ kv = .int .i64 k ∧ entTo n0 cls k) (fun kv => 256 - (intOf kv).toNat)
          case atStart => exact ⟨0, by omega, rfl, entTo_zero _ _⟩
          case round =>
            obtain ⟨k, hk, rfl, hent⟩ := hrel
            have HEn := Lib.hid hent
            clear hent
            by_cases hkl : k < 256
            · obtain ⟨b2, off2, rfl, hcell⟩ := HM.out.c.cell k (by omega)
              have hk2 : k < cls.length := by rw [HLc.out]; omega
              by_cases hq : cls.getD k 0 < 0 ∨ (n0 : Int) ≤ cls.getD k 0
              · have HE : Hid (mcode s cls next acc = 4) := Lib.hid (by rw [HC3.out, if_pos (cls_bad hk2 hq)])
                generalize cls.getD k 0 = q at *
                go_wp2
                all_goals go_ret
                all_goals exact ⟨ret_eq (by rw [HE.out]; rfl), below_alloc _ _⟩
              · have HE2 := Lib.hid (entTo_succ hk2 HEn.out (by omega) (by omega))
                have hq1 : 0 ≤ cls.getD k 0 := by omega
                have hq2 : cls.getD k 0 < (n0 : Int) := by omega
                generalize cls.getD k 0 = q at *
                go_wp2
                go_round
                case rel => exact ⟨k + 1, by omega, by go_num, HE2.out⟩
                case measure => simp [intOf]; omega
            · have HC4 : Hid (mcode s cls next acc = if 256 < nn then 9 else 0) := Lib.hid (by
                have h : k = 256 := by omega
                have h2 := HEn.out
                rw [h, show 256 = cls.length by rw [HLc.out]; omega] at h2
                rw [HC3.out, if_neg (by rw [cls_ok h2]; simp)])
              by_cases hbig : 256 < nn
              · have HE : Hid (mcode s cls next acc = 9) := Lib.hid (by rw [HC4.out, if_pos hbig])
                go_wp2
                go_ret
                exact ⟨ret_eq (by rw [HE.out]; rfl), below_alloc _ _⟩
              · have HE : Hid (mcode s cls next acc = 0) := Lib.hid (by rw [HC4.out, if_neg hbig])
                go_wp2
                go_ret
                exact ⟨ret_eq (by rw [HE.out]; rfl), below_alloc _ _⟩

/-- the state after a text -/
def mrun (cls : List Int) (next : List (List Int)) : Int → List Int → Int
  | q, [] => q
  | q, b :: r => mrun cls next (mgo cls next q b.toNat) r

theorem mrun_snoc (cls next) : ∀ (l : List Int) (q b : Int), mrun cls next q (l ++ [b]) = mgo cls next (mrun cls next q l) b.toNat
  | [], _, _ => rfl
  | _ :: r, _, b => mrun_snoc cls next r _ b

theorem mrun_bd {s cls next acc} (h : Valid s cls next acc) : ∀ (l : List Int) (q : Int), (∀ x ∈ l, 0 ≤ x ∧ x ≤ 255) → 0 ≤ q → q < next.length → 0 ≤ mrun cls next q l ∧ mrun cls next q l < next.length
  | [], _, _, h0, h1 => ⟨h0, h1⟩
  | b :: r, q, hb, h0, h1 => by
    have hb0 := hb b (by simp)
    have := mgo_bd h h0 h1 (b := b.toNat) (by omega)
    exact mrun_bd h r _ (fun x hx => hb x (by simp [hx])) this.2.2.1 this.2.2.2

theorem check_ok (s : Int) (ac : Option Addr) (nc cc : Nat) (an : Option Addr) (nn cn : Nat) (aa : Option Addr) (na ca : Nat) (cls : List Int) (next : List (List Int)) (acc : List Bool) (w : World)
    (hm : RdM w ac nc an nn aa na cls next acc) (hv : Valid s cls next acc) :
    Calls Try.prog 22 #[.agg #[.int .i64 s, .slice ac nc cc, .slice an nn cn, .slice aa na ca]] w fun e w' => e = .returned .nilIface ∧ Below w.heap.size w w' := by
  have h := check_any s ac nc cc an nn cn aa na ca cls next acc w hm
  rw [code_of_valid hv] at h
  exact h

set_option maxRecDepth 100000 in
set_option maxHeartbeats 2000000 in
theorem run_ok (s : Int) (ac : Option Addr) (nc cc : Nat) (an : Option Addr) (nn cn : Nat) (aa : Option Addr) (na ca : Nat) (cls : List Int) (next : List (List Int)) (acc : List Bool) (q : Int) (at_ : Option Addr) (nt ct : Nat) (l : List Int) (w : World)
    (hm : RdM w ac nc an nn aa na cls next acc) (hv : Valid s cls next acc) (h0 : 0 ≤ q) (h1 : q < next.length) (hr : Rd w .u8 at_ nt l) :
    Calls Try.prog 23 #[.agg #[.int .i64 s, .slice ac nc cc, .slice an nn cn, .slice aa na ca], .int .i64 q, .slice at_ nt ct] w fun e w' => e = .returned (.tuple #[.int .i64 (mrun cls next q l), .nilIface]) ∧ Below w.heap.size w w' := by
  obtain ⟨w1, hw1⟩ : ∃ w1, w1 = w.alloc (.cells #[.int .i64 s, .slice ac nc cc, .slice an nn cn, .slice aa na ca] 28) := ⟨_, rfl⟩
  have HB := Lib.hid (show Below w.heap.size w w1 by rw [hw1]; exact below_alloc _ _)
  have HM := Lib.hid (hm.below HB.out)
  have HR := Lib.hid (hr.below HB.out)
  have HV := Lib.hid hv
  have HL := Lib.hid hr.len
  have HLn := Lib.hid hm.n.len
  have HLc := Lib.hid hm.c.len
  have hmax := hr.max
  have HBB := Lib.hid (fun x hx => bd_u8 (hr.wf x hx))
  have HX0 : Hid (w1.cell? ⟨w.heap.size, 0, none⟩ = some (.int .i64 s)) := Lib.hid (by rw [hw1]; simp)
  have HX1 : Hid (w1.cell? ⟨w.heap.size, 1, none⟩ = some (.slice ac nc cc)) := Lib.hid (by rw [hw1]; simp)
  have HX2 : Hid (w1.cell? ⟨w.heap.size, 2, none⟩ = some (.slice an nn cn)) := Lib.hid (by rw [hw1]; simp)
  have HX3 : Hid (w1.cell? ⟨w.heap.size, 3, none⟩ = some (.slice aa na ca)) := Lib.hid (by rw [hw1]; simp)
  have HW1 := Lib.hid hw1
  have HQ := Lib.hid (And.intro h0 h1)
  have hqn : q < (nn : Int) := by rw [← HLn.out]; exact h1
  have hne : ∀ w, (binOp .neq 30 .nilIface .nilIface).run Try.prog w = .ok (.bool false) w := fun w => by kernel_rfl
  clear hm hr hv hw1 h1
  go_enter Try.func23, Try.ntmps23
  go_wp2_with fail
  rw [← HW1.out]
  refine (check_ok _ _ _ _ _ _ _ _ _ _ _ _ _ _ HM.out HV.out).mono ?_
  rintro e w2 ⟨rfl, hb2⟩
  have HB2 := Lib.hid hb2
  have HY1 := Lib.hid (below_cell hb2 HX1.out)
  have HY2 := Lib.hid (below_cell hb2 HX2.out)
  have hx2 := HY2.out
  have hsz := hb2.size
  clear hb2
  go_wp2
  clear hx2
  go_loopw [1, 28] (fun qv iv wr => ∃ k : Nat, k ≤ nt ∧ iv = .int .i64 k ∧ qv = .int .i64 (mrun cls next q (l.take k)) ∧ Below w2.heap.size w2 wr) (fun _ iv _ => nt - (intOf iv).toNat)
  case atStart => exact ⟨0, by omega, rfl, rfl, Below.refl _ _⟩
  case round =>
    obtain ⟨k, hk, rfl, rfl, hbl⟩ := hrel
    by_cases hlt : k < nt
    · have hbl1 := bthen HB2.out hbl
      obtain ⟨b1, o1, rfl, h1⟩ := (HR.out.below hbl1).cell k hlt
      have hx1 := below_cell hbl HY1.out
      have hx2 := below_cell hbl HY2.out
      have HBL := Lib.hid hbl
      have hkl : k < l.length := by rw [HL.out]; exact hlt
      have hb := HBB.out (l.getD k 0) (getD_mem hkl)
      have HS : Hid (mrun cls next q (l.take (k + 1)) = mgo cls next (mrun cls next q (l.take k)) (l.getD k 0).toNat) := Lib.hid (by rw [getD_take_snoc (d := 0) hkl, mrun_snoc])
      have hbd := mrun_bd HV.out (l.take k) q (fun x hx => HBB.out x (List.mem_of_mem_take hx)) HQ.out.1 HQ.out.2
      obtain ⟨b, hbe⟩ := Int.eq_ofNat_of_zero_le hb.1
      rw [hbe] at h1 hb
      rw [hbe, Int.toNat_natCast] at HS
      obtain ⟨hc0, hc1, hg0, hg1⟩ := mgo_bd HV.out hbd.1 hbd.2 (b := b) (by omega)
      obtain ⟨p, hp⟩ := Int.eq_ofNat_of_zero_le hbd.1
      rw [hp] at HS hbd ⊢
      have hm1 := HM.out.below hbl1
      have hpn : (p : Int) < nn := by rw [← HLn.out]; exact hbd.2
      obtain ⟨b2, o2, a2, n2, c2, hx, hrow, hr2, _⟩ := hm1.n.cell p (by omega)
      cases hx
      have hnc : nc = 256 := by rw [← HLc.out]; exact HV.out.clsL
      obtain ⟨b3, o3, hx, hcl⟩ := hm1.c.cell b (by omega)
      cases hx
      have hrr := HV.out.row (next.getD p []) (getD_mem (by rw [HLn.out]; omega))
      have hr2l := hr2.len
      obtain ⟨C, hC⟩ : ∃ C : Nat, cls.getD b 0 = C := ⟨(cls.getD b 0).toNat, by omega⟩
      rw [hC] at hcl hc0 hc1
      have hcn : (C : Int) < (n2 : Int) := by omega
      have hbn : (b : Int) < nc := by omega
      obtain ⟨b4, o4, hx, hent⟩ := hr2.cell C (by omega)
      subst hx
      have HG : Hid (mgo cls next (p : Int) b = (next.getD p []).getD C 0) := Lib.hid (by unfold mgo; rw [hC]; simp)
      generalize (next.getD p []).getD C 0 = r at *
      clear hm1 hr2 hrr hnc hr2l hg0 hg1 hC hp hc1 hbd hbe hbl1 hbl hkl
      go_wp2
      go_quiet (fail)
      go_wp2
      go_roundw
      case rel => exact ⟨k + 1, by omega, by go_num, by rw [HS.out, HG.out], bdrewN HBL.out _⟩
      case measure => simp [intOf]; omega
    · have HE : Hid (l.take k = l) := Lib.hid (List.take_of_length_le (by rw [HL.out]; omega))
      have HBL := Lib.hid hbl
      clear hbl
      go_wp2
      go_ret2
      exact ⟨ret_eq (by rw [HE.out]; rfl), bthen HB.out (bthen HB2.out HBL.out)⟩

set_option maxRecDepth 100000 in
set_option maxHeartbeats 2000000 in
theorem accepts_ok (s : Int) (ac : Option Addr) (nc cc : Nat) (an : Option Addr) (nn cn : Nat) (aa : Option Addr) (na ca : Nat) (cls : List Int) (next : List (List Int)) (acc : List Bool) (at_ : Option Addr) (nt ct : Nat) (l : List Int) (w : World)
    (hm : RdM w ac nc an nn aa na cls next acc) (hv : Valid s cls next acc) (hr : Rd w .u8 at_ nt l) :
    Calls Try.prog 24 #[.agg #[.int .i64 s, .slice ac nc cc, .slice an nn cn, .slice aa na ca], .slice at_ nt ct] w fun e w' => e = .returned (.tuple #[.bool (acc.getD (mrun cls next s l).toNat false), .nilIface]) ∧ Below w.heap.size w w' := by
  obtain ⟨w1, hw1⟩ : ∃ w1, w1 = w.alloc (.cells #[.int .i64 s, .slice ac nc cc, .slice an nn cn, .slice aa na ca] 28) := ⟨_, rfl⟩
  have HB := Lib.hid (show Below w.heap.size w w1 by rw [hw1]; exact below_alloc _ _)
  have HM := Lib.hid (hm.below HB.out)
  have HR := Lib.hid (hr.below HB.out)
  have HV := Lib.hid hv
  have HX0 : Hid (w1.cell? ⟨w.heap.size, 0, none⟩ = some (.int .i64 s)) := Lib.hid (by rw [hw1]; simp)
  have HX3 : Hid (w1.cell? ⟨w.heap.size, 3, none⟩ = some (.slice aa na ca)) := Lib.hid (by rw [hw1]; simp)
  have HW1 := Lib.hid hw1
  have hbd := mrun_bd hv l s (fun x hx => bd_u8 (hr.wf x hx)) hv.s0 hv.s1
  have hla := hm.a.len
  have hlv := hv.accL
  have hne : ∀ w, (binOp .neq 30 .nilIface .nilIface).run Try.prog w = .ok (.bool false) w := fun w => by kernel_rfl
  obtain ⟨Q, hQ⟩ := Int.eq_ofNat_of_zero_le hbd.1
  rw [hQ] at hbd ⊢
  rw [Int.toNat_natCast]
  have hQn : Q < na := by omega
  have HQ := Lib.hid hQ
  clear hm hv hw1 hr hbd hla hlv hQ
  go_enter Try.func24, Try.ntmps24
  go_wp2_with fail
  rw [← HW1.out]
  have hx0 := HX0.out
  have hx3 := HX3.out
  go_wp2_with fail
  refine (run_ok _ _ _ _ _ _ _ _ _ _ _ _ _ _ _ _ _ l _ HM.out HV.out HV.out.s0 HV.out.s1 HR.out).mono ?_
  rintro e w2 ⟨rfl, hb2⟩
  clear hx0 hx3
  have hx3 := below_cell hb2 HX3.out
  obtain ⟨b, o, rfl, hcell⟩ := (HM.out.a.below hb2).cell Q hQn
  have HB2 := Lib.hid hb2
  rw [HQ.out]
  clear hb2
  generalize hz : acc.getD Q false = z at *
  have HZ := Lib.hid hz
  clear hz
  go_wp2
  go_ret2
  exact ⟨ret_eq (by rw [HZ.out]; rfl), bthen HB.out HB2.out⟩

theorem ncls_lit (ps : List (List Int)) : ncls (litN ps) = (litL ps).length + 1 := by
  unfold ncls
  exact (litN_row (ps := ps) _ (getD_mem' (by rw [litN_len]; exact prefs_len_pos ps))).1
/-- no letter 0 .. 255 is missing only if all 256 occur: then there would be 257 classes -/
theorem lit_valid {ps : List (List Int)} (hl : (prefs ps).length ≤ 256) (hc : (litL ps).length ≤ 255) : Valid 0 (litC ps) (litN ps) (litA ps) := by
  have hn := litN_len ps
  have hp := prefs_len_pos ps
  refine ⟨litC_len ps, by rw [litA_len, hn], by omega, by rw [hn]; omega, by rw [ncls_lit]; omega, by rw [ncls_lit]; omega, by rw [hn]; exact hl, fun row hr => ?_, fun q hq => ?_⟩
  · rw [ncls_lit, hn]; exact litN_row row hr
  · have := cls_bd (usedB ps) 256 q hq
    rw [ncls_lit]; unfold litL; exact ⟨this.1, by exact_mod_cast this.2⟩

end Go.Proofs.Ytfhoaehoccfadaa
