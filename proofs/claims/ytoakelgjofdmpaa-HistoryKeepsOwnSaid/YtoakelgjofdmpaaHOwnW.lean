/-
  the walk of HistoryKeepsOwn.
-/
import Derived.Test.YtoakelgjofdmpaaHOwnP
import Derived.Deep.RegionHeld3
namespace Go.Proofs.Ytoakelgjofdmpaa
open Go.RowKit
set_option linter.unusedVariables false
set_option linter.unusedSimpArgs false

set_option maxRecDepth 100000 in
set_option maxHeartbeats 4000000 in
theorem walk_HistoryKeepsOwn (a0 : Option Addr) (n cp : Nat) (list : List Cm) (w : World) (hr : RdC w (fun i => i < w.heap.size) a0 n list) (hz : ∀ x ∈ list, x.1.length * 8 ≤ 140737488351232) :
    Calls Try.prog 3 #[.slice a0 n cp] w fun e w' => e = .returned (.bool true) ∧ Below w.heap.size w w' := by
  have HR := Lib.hid hr
  have hmx := hr.max
  have HGL := Lib.hid (buildL_good list)
  have hnn : ∀ w, (binOp .neq 33 .nilIface .nilIface).run Try.prog w = .ok (.bool false) w := fun w => by kernel_rfl
  clear hr
  go_enter Try.func3, Try.ntmps3
  go_wp2_with fail
  refine (alive_any _).mono ?_
  rintro e w1 ⟨rfl, hb1⟩
  have HB1 := Lib.hid hb1
  clear hb1
  by_cases h60 : 60 < n
  · have h61 : (60 : Int) < (n : Int) := by omega
    go_wp2
    go_ret
    exact ⟨rfl, HB1.out⟩
  have h61 : (n : Int) ≤ 60 := by omega
  clear h60
  have HPL : Hid (∀ x ∈ list, x.1.length * 8 ≤ 140737488355328) := Lib.hid (fun x hx => Nat.le_trans (hz x hx) (by decide))
  clear hz
  go_wp2
  go_loopg [3, 4] n (fun gg mv iv wr => ∃ (i : Nat) (am : Option Addr) (cm : Nat) (vs : List (Value × Cm)), i ≤ n ∧ gg = n - i ∧ iv = .int .i64 i ∧ mv = .slice am i cm ∧ vs.map (·.2) = (list).take i ∧ CpI w1.heap.size wr am i cm vs ∧ Below w1.heap.size w1 wr)
  case atStart => exact ⟨0, none, 0, [], by omega, rfl, rfl, rfl, rfl, CpI.nil _ _, Below.refl _ _⟩
  case round =>
    obtain ⟨i, am, cm, vs, hi, rfl, rfl, rfl, hvs, hcp, hbw⟩ := hrel
    have HVS := Lib.hid hvs
    have HCP := Lib.hid hcp
    have HBW := Lib.hid hbw
    clear hvs hcp hbw
    by_cases hlt : i < n
    · have hiz : (i : Int) < (n : Int) := by omega
      have hil : i < (list).length := by rw [HR.out.len]; exact hlt
      obtain ⟨x, hx⟩ : ∃ x, (list)[i]? = some x := ⟨_, List.getElem?_eq_getElem hil⟩
      obtain ⟨b, off, v, rfl, _, h01, h02, h03, pa, pn, pc, rfl, hnc, hpf⟩ := (HR.out.below HB1.out).cell i x hx
      have HTK := Lib.hid (take_snoc_at hx)
      have HLE := Lib.hid (HPL.out x (List.mem_of_getElem? hx))
      obtain ⟨ps, t, s⟩ := x
      simp only at h01 h02 h03 hpf
      have hblt : b < w1.heap.size := World.block_lt_of_cell? w1 _ h01
      have h1 := below_cell HBW.out h01
      have h2 := below_cell HBW.out h02
      have h3 := below_cell HBW.out h03
      clear h01 h02 h03
      obtain rfl := hpf.rd.len
      have hpb : ps.length * 8 ≤ 140737488355328 := HLE.out
      have HRG := Lib.hid (((hpf.rd.below HBW.out).rdG.below (below_alloc wr (.cells #[] 3))).drew)
      have HONE : Hid (∀ u ∈ ps.map (Value.int .i64), u.oneCell' = true) := Lib.hid (fun u hu => by obtain ⟨y, _, rfl⟩ := List.mem_map.1 hu; rfl)
      have q1 : ∀ o, (wr.alloc o).drew.cell? _ = some _ := fun o => below_cell (below_alloc wr o).drew h1
      have q2 : ∀ o, (wr.alloc o).drew.cell? _ = some _ := fun o => below_cell (below_alloc wr o).drew h2
      have q3 : ∀ o, (wr.alloc o).drew.cell? _ = some _ := fun o => below_cell (below_alloc wr o).drew h3
      have HBS : Hid (w1.heap.size ≤ wr.heap.size) := Lib.hid (Nat.le_trans (Nat.le_refl _) HBW.out.size)
      clear hx hil hpf hnc
      go_wp2
      go_region_held3 (fun w' => w'.cell? ⟨b, off + i * 3, none⟩ = some (.slice pa ps.length pc) ∧ w'.cell? ⟨b, off + i * 3 + 1, none⟩ = some (.int .i64 t) ∧ w'.cell? ⟨b, off + i * 3 + 2, none⟩ = some (.string s)) (first
        | exact ⟨h1, h2, h3⟩
        | exact ⟨q1 _, q2 _, q3 _⟩
        | exact ⟨y1, y2, y3⟩
        | exact ⟨below_cell (below_alloc _ _) y1, below_cell (below_alloc _ _) y2, below_cell (below_alloc _ _) y3⟩
        | exact ⟨z1, z2, z3⟩) (first
        | (refine step_app_row_at (.tmp 28) (.tmp 33) EIG rfl rfl wr.heap.size (.slice (some ⟨wr.heap.size, 0, none⟩) 0 0) 0 [] rfl (Row.drew (World.ownsRow_lit wr #[] 0 (Nat.le_refl _) (by decide) rfl)) pa ps.length pc (ps.map (Value.int .i64)) rfl HRG.out HONE.out (by omega) (by decide) (by simp) ?_; intro a5 c5 w5 hr5 hg5 hat5; simp only [Nat.zero_add, List.nil_append] at hr5; have hb5 : Below wr.heap.size wr w5 := ((below_alloc wr (.cells #[] 3)).drew).grown hg5 (by simp) (fun x hx => by cases hx; exact Nat.le_refl _); have y1 := below_cell hb5 h1; have y2 := below_cell hb5 h2; have y3 := below_cell hb5 h3; have HR5 := Lib.hid hr5; have HB5 := Lib.hid hb5; clear hr5 hg5 hat5 hb5)
        | (refine step_app_row_at (.tmp 27) (.tmp 46) EC rfl rfl w1.heap.size (.slice am i cm) i (cellsC vs) rfl (Row.below (Row.below HCP.out.row HB5.out) (below_alloc w5 (.cells #[.slice a5 ps.length c5, .int .i64 t, .string s] 27))) _ 1 _ [.slice a5 ps.length c5, .int .i64 t, .string s] rfl (RdG.lits w5 3 27 1 [.slice a5 ps.length c5, .int .i64 t, .string s] rfl) (by simp [Value.oneCell']) (by omega) (by decide) (by have := HBS.out; have := HB5.out.size; simp; omega) ?_; intro a6 c6 w6 hr6 hg6 hat6; have HFIN := Lib.hid (cp_fin HCP.out HBS.out HB5.out HR5.out (below_alloc w5 (.cells #[.slice a5 ps.length c5, .int .i64 t, .string s] 27)) hr6 hg6 hat6); have z1 := (HFIN.out.2.cell (p := ⟨b, off + i * 3, none⟩) hblt).trans h1; have z2 := (HFIN.out.2.cell (p := ⟨b, off + i * 3 + 1, none⟩) hblt).trans h2; have z3 := (HFIN.out.2.cell (p := ⟨b, off + i * 3 + 2, none⟩) hblt).trans h3; clear hr6 hg6 hat6))
      all_goals
        (try clear h1 h2 h3)
        (try clear q1 q2 q3)
        (try clear y1 y2 y3)
        (try clear z1 z2 z3)
        go_wp2
        go_roundg (n - (i + 1))
        case measure => omega
        case rel => exact ⟨i + 1, a6, c6, vs ++ [(.slice a5 ps.length c5, (ps, t, s))], by omega, rfl, by go_num, rfl, by rw [List.map_append, HVS.out, HTK.out]; rfl, HFIN.out.1, HBW.out.trans HFIN.out.2⟩
    · have hin : i = n := by omega
      have hin2 := hin.symm
      subst hin2
      clear hlt hi
      obtain ⟨wm, hwm⟩ : ∃ wm : World, wm = wr := ⟨_, rfl⟩
      subst hwm
      obtain ⟨mm, hmm⟩ : ∃ mm, mm = am := ⟨_, rfl⟩
      obtain ⟨mc, hmc⟩ : ∃ mc, mc = cm := ⟨_, rfl⟩
      obtain ⟨ms, hms⟩ : ∃ ms, ms = vs := ⟨_, rfl⟩
      rw [← hmm, ← hmc, ← hms] at HCP
      rw [← hms] at HVS
      rw [← hmm, ← hmc]
      have hvl : ms.map (·.2) = list := by rw [HVS.out, List.take_of_length_le (by rw [HR.out.len]; exact Nat.le_refl _)]
      have HRM : Hid (RdC wm (fun b => b < wm.heap.size) mm n list) := Lib.hid (by
        have h := HCP.out.rd (by rw [hvl]; exact HR.out.wf) (by omega)
        rw [hvl] at h
        exact h.mono fun i h => h.2)
      have HMI := Lib.hid HCP.out
      have HMB : Hid (∀ v ∈ ms.map (·.1), ∀ g, v.ownBlock = some g → w1.heap.size ≤ g ∧ g < wm.heap.size) := Lib.hid (fun v hv g hg => by
        obtain ⟨x, hx, rfl⟩ := List.mem_map.1 hv
        exact ⟨(Row.block_lt (HMI.out.own x hx) hg).2, (Row.block_lt (HMI.out.own x hx) hg).1⟩)
      have HBM := Lib.hid HBW.out
      clear hmm hmc hms hvl HCP HVS HBW
      go_wp2_with fail
      refine (build_any (fun b => b < wm.heap.size) mm n mc list wm HRM.out (fun _ h => h)).mono ?_
      rintro e w2 ⟨bg, al, cl, S, T, rfl, htw⟩
      have HB2 := Lib.hid htw.bel
      have HBA := Lib.hid (bthen HB1.out (HBM.out.trans (htw.bel.mono HBM.out.size)))
      have HG := Lib.hid htw.g
      have HLL := Lib.hid htw.l
      have HS0 : Hid (∀ b, S b → wm.heap.size ≤ b) := Lib.hid htw.s0
      have hLn := htw.g.n1
      clear htw
      generalize buildL list = L at *
      have HPL2 : Hid (∀ x ∈ L, x.1.length * 8 ≤ 140737488355328) := Lib.hid (fun x hx => by
        obtain ⟨k, hk⟩ := List.getElem?_of_mem hx
        have := (HGL.out k x hk).1
        omega)
      go_wp2
      go_loopg [8, 9] L.length (fun gg mv iv wr => ∃ (i : Nat) (am : Option Addr) (cm : Nat) (vs : List (Value × Cm)), i ≤ L.length ∧ gg = L.length - i ∧ iv = .int .i64 i ∧ mv = .slice am i cm ∧ vs.map (·.2) = (L).take i ∧ CpI w2.heap.size wr am i cm vs ∧ Below w2.heap.size w2 wr)
      case atStart => exact ⟨0, none, 0, [], by omega, rfl, rfl, rfl, rfl, CpI.nil _ _, Below.refl _ _⟩
      case round =>
        obtain ⟨i, am, cm, vs, hi, rfl, rfl, rfl, hvs, hcp, hbw⟩ := hrel
        have HVS := Lib.hid hvs
        have HCP := Lib.hid hcp
        have HBW := Lib.hid hbw
        clear hvs hcp hbw
        by_cases hlt : i < L.length
        · have hiz : (i : Int) < (L.length : Int) := by omega
          have hil : i < (L).length := by rw [HLL.out.len]; exact hlt
          obtain ⟨x, hx⟩ : ∃ x, (L)[i]? = some x := ⟨_, List.getElem?_eq_getElem hil⟩
          obtain ⟨b, off, v, rfl, _, h01, h02, h03, pa, pn, pc, rfl, hnc, hpf⟩ := HLL.out.cell i x hx
          have HTK := Lib.hid (take_snoc_at hx)
          have HLE := Lib.hid (HPL2.out x (List.mem_of_getElem? hx))
          obtain ⟨ps, t, s⟩ := x
          simp only at h01 h02 h03 hpf
          have hblt : b < w2.heap.size := World.block_lt_of_cell? w2 _ h01
          have h1 := below_cell HBW.out h01
          have h2 := below_cell HBW.out h02
          have h3 := below_cell HBW.out h03
          clear h01 h02 h03
          obtain rfl := hpf.rd.len
          have hpb : ps.length * 8 ≤ 140737488355328 := HLE.out
          have HRG := Lib.hid (((hpf.rd.below HBW.out).rdG.below (below_alloc wr (.cells #[] 3))).drew)
          have HONE : Hid (∀ u ∈ ps.map (Value.int .i64), u.oneCell' = true) := Lib.hid (fun u hu => by obtain ⟨y, _, rfl⟩ := List.mem_map.1 hu; rfl)
          have q1 : ∀ o, (wr.alloc o).drew.cell? _ = some _ := fun o => below_cell (below_alloc wr o).drew h1
          have q2 : ∀ o, (wr.alloc o).drew.cell? _ = some _ := fun o => below_cell (below_alloc wr o).drew h2
          have q3 : ∀ o, (wr.alloc o).drew.cell? _ = some _ := fun o => below_cell (below_alloc wr o).drew h3
          have HBS : Hid (w2.heap.size ≤ wr.heap.size) := Lib.hid (Nat.le_trans (Nat.le_refl _) HBW.out.size)
          clear hx hil hpf hnc
          go_wp2
          go_region_held3 (fun w' => w'.cell? ⟨b, off + i * 3, none⟩ = some (.slice pa ps.length pc) ∧ w'.cell? ⟨b, off + i * 3 + 1, none⟩ = some (.int .i64 t) ∧ w'.cell? ⟨b, off + i * 3 + 2, none⟩ = some (.string s)) (first
            | exact ⟨h1, h2, h3⟩
            | exact ⟨q1 _, q2 _, q3 _⟩
            | exact ⟨y1, y2, y3⟩
            | exact ⟨below_cell (below_alloc _ _) y1, below_cell (below_alloc _ _) y2, below_cell (below_alloc _ _) y3⟩
            | exact ⟨z1, z2, z3⟩) (first
            | (refine step_app_row_at (.tmp 63) (.tmp 68) EIG rfl rfl wr.heap.size (.slice (some ⟨wr.heap.size, 0, none⟩) 0 0) 0 [] rfl (Row.drew (World.ownsRow_lit wr #[] 0 (Nat.le_refl _) (by decide) rfl)) pa ps.length pc (ps.map (Value.int .i64)) rfl HRG.out HONE.out (by omega) (by decide) (by simp) ?_; intro a5 c5 w5 hr5 hg5 hat5; simp only [Nat.zero_add, List.nil_append] at hr5; have hb5 : Below wr.heap.size wr w5 := ((below_alloc wr (.cells #[] 3)).drew).grown hg5 (by simp) (fun x hx => by cases hx; exact Nat.le_refl _); have y1 := below_cell hb5 h1; have y2 := below_cell hb5 h2; have y3 := below_cell hb5 h3; have HR5 := Lib.hid hr5; have HB5 := Lib.hid hb5; clear hr5 hg5 hat5 hb5)
            | (refine step_app_row_at (.tmp 62) (.tmp 81) EC rfl rfl w2.heap.size (.slice am i cm) i (cellsC vs) rfl (Row.below (Row.below HCP.out.row HB5.out) (below_alloc w5 (.cells #[.slice a5 ps.length c5, .int .i64 t, .string s] 27))) _ 1 _ [.slice a5 ps.length c5, .int .i64 t, .string s] rfl (RdG.lits w5 3 27 1 [.slice a5 ps.length c5, .int .i64 t, .string s] rfl) (by simp [Value.oneCell']) (by omega) (by decide) (by have := HBS.out; have := HB5.out.size; simp; omega) ?_; intro a6 c6 w6 hr6 hg6 hat6; have HFIN := Lib.hid (cp_fin HCP.out HBS.out HB5.out HR5.out (below_alloc w5 (.cells #[.slice a5 ps.length c5, .int .i64 t, .string s] 27)) hr6 hg6 hat6); have z1 := (HFIN.out.2.cell (p := ⟨b, off + i * 3, none⟩) hblt).trans h1; have z2 := (HFIN.out.2.cell (p := ⟨b, off + i * 3 + 1, none⟩) hblt).trans h2; have z3 := (HFIN.out.2.cell (p := ⟨b, off + i * 3 + 2, none⟩) hblt).trans h3; clear hr6 hg6 hat6))
          all_goals
            (try clear h1 h2 h3)
            (try clear q1 q2 q3)
            (try clear y1 y2 y3)
            (try clear z1 z2 z3)
            go_wp2
            go_roundg (L.length - (i + 1))
            case measure => omega
            case rel => exact ⟨i + 1, a6, c6, vs ++ [(.slice a5 ps.length c5, (ps, t, s))], by omega, rfl, by go_num, rfl, by rw [List.map_append, HVS.out, HTK.out]; rfl, HFIN.out.1, HBW.out.trans HFIN.out.2⟩
        · have hin : i = L.length := by omega
          subst hin
          clear hlt hi
          obtain ⟨w5, hw5⟩ : ∃ w5 : World, w5 = wr := ⟨_, rfl⟩
          subst hw5
          have HWN : Hid (CpI w2.heap.size w5 am L.length cm vs) := Lib.hid HCP.out
          have HWL : Hid (vs.map (·.2) = L) := Lib.hid (by rw [HVS.out, List.take_length])
          obtain ⟨aw, haw⟩ : ∃ aw, aw = am := ⟨_, rfl⟩
          obtain ⟨cw, hcw⟩ : ∃ cw, cw = cm := ⟨_, rfl⟩
          obtain ⟨ws, hws⟩ : ∃ ws, ws = vs := ⟨_, rfl⟩
          have HM5 := Lib.hid (HMI.out.below (bthen HB2.out HBW.out))
          have HG5 := Lib.hid (HG.out.below HBW.out)
          have HB5 := Lib.hid (HBA.out.trans (HBW.out.mono HBA.out.size))
          rw [← haw, ← hcw, ← hws] at HWN
          rw [← hws] at HWL
          rw [← haw, ← hcw]
          clear haw hcw hws HCP HVS HBW
          go_wp2
          go_loopg [10] n (fun gg iv wr => ∃ (i : Nat) (us : List (Value × Cm)), i ≤ n ∧ gg = n - i ∧ iv = .int .i64 i ∧ CpI w1.heap.size wr mm n mc us ∧ us.map (·.1) = ms.map (·.1) ∧ Fr (fun b => w1.heap.size ≤ b ∧ b < wm.heap.size) w5 wr)
          case atStart => exact ⟨0, ms, by omega, rfl, rfl, HM5.out, rfl, Fr.refl _ _⟩
          case round =>
            obtain ⟨i, us, hi, rfl, rfl, hcp, hms, hfr⟩ := hrel
            have HCP := Lib.hid hcp
            have HMS := Lib.hid hms
            have HFR := Lib.hid hfr
            clear hms hfr
            by_cases hlt : i < n
            · have hiz : (i : Int) < (n : Int) := by omega
              obtain ⟨y, hy⟩ : ∃ y, us[i]? = some y := ⟨_, List.getElem?_eq_getElem (by rw [hcp.len]; exact hlt)⟩
              obtain ⟨gm, hgm⟩ : ∃ gm, mm = some ⟨gm, 0, none⟩ := by
                rcases hcp.row.2 with ⟨hv, _⟩ | ⟨g, cap, cur, hv, _⟩
                · simp only [Value.slice.injEq] at hv; omega
                · simp only [Value.slice.injEq] at hv; exact ⟨g, hv.1⟩
              subst hgm
              obtain ⟨pa, pc, he⟩ := Own.form (hcp.own y (List.mem_of_getElem? hy))
              obtain ⟨v, q⟩ := y
              simp only at he
              subst he
              obtain ⟨pn, hpn⟩ : ∃ pn, pn = q.1.length := ⟨_, rfl⟩
              rw [← hpn] at hy
              have hrc : wr.cell? ⟨gm, i * 3, none⟩ = some (.slice pa pn pc) := by
                have hl := hcp.row.1
                rw [World.ownsRow.cellAt hcp.row (i * 3) (by omega)]
                exact (cellsC_get us i _ hy).1
              have HPN := Lib.hid hpn
              have HY := Lib.hid hy
              have hpx : pn ≤ 9223372036854775807 := by
                have h : Row wr w1.heap.size 3 1 (.slice pa pn pc) q.1.length (q.1.map (Value.int .i64)) := hcp.own _ (List.mem_of_getElem? hy)
                rcases h.2 with ⟨_, h0⟩ | ⟨g, cap, cur, hv, _, _, hnc, hcm, _⟩
                · omega
                · unfold maxLen at hcm; omega
              clear hcp hy hpn
              obtain ⟨wo, hwo⟩ : ∃ wo : World, wo = wr := ⟨_, rfl⟩
              subst hwo
              go_wp2
              clear hrc
              go_loopg [11] pn (fun gg jv wr => ∃ (j : Nat) (us : List (Value × Cm)) (q : Cm), j ≤ pn ∧ gg = pn - j ∧ jv = .int .i64 j ∧ CpI w1.heap.size wr (some ⟨gm, 0, none⟩) n mc us ∧ us.map (·.1) = ms.map (·.1) ∧ us[i]? = some (.slice pa pn pc, q) ∧ q.1.length = pn ∧ Fr (fun b => w1.heap.size ≤ b ∧ b < wm.heap.size) w5 wr)
              case atStart => exact ⟨0, us, q, by omega, rfl, rfl, HCP.out, HMS.out, HY.out, HPN.out.symm, HFR.out⟩
              case round =>
                clear HCP HMS HFR HY HPN
                clear us q
                obtain ⟨j, us, q, hj, rfl, rfl, hcp, hms, hy, hql, hfr⟩ := hrel
                have HCP := Lib.hid hcp
                have HMS := Lib.hid hms
                have HFR := Lib.hid hfr
                have HY := Lib.hid hy
                have HQL := Lib.hid hql
                have hrc : wr.cell? ⟨gm, i * 3, none⟩ = some (.slice pa pn pc) := by
                  have hl := hcp.row.1
                  have := hcp.len
                  have := (List.getElem?_eq_some_iff.1 hy).1
                  rw [World.ownsRow.cellAt hcp.row (i * 3) (by omega)]
                  exact (cellsC_get us i _ hy).1
                by_cases hjl : j < pn
                · have hjz : (j : Int) < (pn : Int) := by omega
                  have ho := hcp.own _ (List.mem_of_getElem? hy)
                  obtain ⟨gp, hgp⟩ : ∃ gp, pa = some ⟨gp, 0, none⟩ := by
                    rcases ho.2 with ⟨hv, _⟩ | ⟨g, cap, cur, hv, _⟩
                    · simp only [Value.slice.injEq] at hv; omega
                    · simp only [Value.slice.injEq] at hv; exact ⟨g, hv.1⟩
                  subst hgp
                  have hgb : w1.heap.size ≤ gp ∧ gp < wm.heap.size := by
                    have hmem : (Value.slice (some ⟨gp, 0, none⟩) pn pc) ∈ us.map (·.1) := List.mem_map.2 ⟨_, List.mem_of_getElem? hy, rfl⟩
                    rw [hms] at hmem
                    exact HMB.out _ hmem gp rfl
                  have hic : wr.cell? ⟨gp, j, none⟩ = some (.int .i64 (q.1.getD j 0)) := by
                    have hl : j < (q.1.map (Value.int .i64)).length := by rw [List.length_map]; omega
                    have h0 : Row wr w1.heap.size 3 1 (.slice (some ⟨gp, 0, none⟩) pn pc) q.1.length (q.1.map (Value.int .i64)) := ho
                    rw [hql] at h0
                    rw [World.ownsRow.cellAt h0 j (by omega)]
                    simp [List.getD, show j < q.1.length by omega]
                  have hif : wr.frozen? ⟨gp, j, none⟩ = false := by
                    have h0 : Row wr w1.heap.size 3 1 (.slice (some ⟨gp, 0, none⟩) pn pc) q.1.length (q.1.map (Value.int .i64)) := ho
                    rw [hql] at h0
                    exact World.ownsRow.frozenAt h0 j
                  have HST := Lib.hid (hcp.store (j := j) (z := 77) hy hql)
                  have HGB := Lib.hid hgb
                  clear hcp hms hy hql hfr ho hgb
                  go_wp2
                  go_roundg (pn - (j + 1))
                  case measure => omega
                  case rel =>
                    refine ⟨j + 1, _, (q.1.set j 77, q.2), by omega, rfl, by go_num, HST.out, ?_, ?_, by rw [List.length_set]; exact HQL.out, HFR.out.setCell (p := ⟨gp, j, none⟩) HGB.out _⟩
                    · rw [← HMS.out, List.map_set]
                      refine List.ext_getElem? fun k => ?_
                      rw [List.getElem?_set]
                      by_cases e : i = k
                      · subst e
                        have hil : i < us.length := (List.getElem?_eq_some_iff.1 HY.out).1
                        rw [if_pos rfl, if_pos (by rw [List.length_map]; exact hil), List.getElem?_map, HY.out]; rfl
                      · rw [if_neg e]
                    · have hil : i < us.length := (List.getElem?_eq_some_iff.1 HY.out).1
                      rw [List.getElem?_set, if_pos rfl, if_pos hil]
                · have hjn : ¬ ((j : Int) < (pn : Int)) := by omega
                  clear hcp hms hy hql hfr
                  go_wp2
                  go_roundg (n - (i + 1))
                  case measure => omega
                  case rel => exact ⟨i + 1, us, by omega, rfl, by go_num, HCP.out, HMS.out, HFR.out⟩
            · have hin : i = n := by omega
              clear hcp
              obtain ⟨w6, hw6⟩ : ∃ w6 : World, w6 = wr := ⟨_, rfl⟩
              subst hw6
              have HGI : Hid (GI w6 S bg L) := Lib.hid (HG5.out.fr HFR.out fun b hb hh => by have := HS0.out b hb; omega)
              have HW6 : Hid (CpI w2.heap.size w6 aw L.length cw ws) := Lib.hid (HWN.out.fr HFR.out fun b h1 _ hh => by have := HB2.out.size; omega)
              have HB6 := Lib.hid (HB5.out.trans (HFR.out.below (fun b hb => Nat.le_trans HB1.out.size hb.1) HB5.out.size))
              obtain ⟨P0, ga, gc, hgc, _⟩ := HGI.out.ex
              have HGC := Lib.hid hgc
              have HN1 := Lib.hid HGI.out.n1
              have hn1 := HGI.out.n1
              obtain ⟨N, hN⟩ : ∃ N, N = L.length := ⟨_, rfl⟩
              have HN := Lib.hid hN
              rw [← hN] at HGC hn1
              clear hgc hN HFR HCP HMS HG5 HWN HM5
              go_wp2_with fail
              go_loopg [12] N (fun gg iv wr => ∃ i : Nat, i ≤ N ∧ gg = N - i ∧ iv = .int .i64 i ∧ Below w6.heap.size w6 wr)
              case atStart => exact ⟨0, by omega, rfl, rfl, Below.refl _ _⟩
              case round =>
                obtain ⟨i, hi, rfl, rfl, hb⟩ := hrel
                have HB := Lib.hid hb
                have hgc := below_cell hb HGC.out
                clear hb
                go_wp2_with fail
                refine (len_any bg ga N gc wr hgc).mono ?_
                rintro e w7 ⟨rfl, rfl⟩
                clear hgc
                by_cases hlt : i < N
                · have hiz : (i : Int) < (N : Int) := by omega
                  have HGE := Lib.hid (get_ok S bg L i wr (HGI.out.rg.below HB.out) HGL.out (by rw [← HN.out]; exact hlt))
                  go_wp2_with fail
                  refine HGE.out.mono ?_
                  rintro e w8 ⟨ca, cc, x, hx, rfl, ho, hb8⟩
                  obtain ⟨ps, t, s⟩ := x
                  simp only at ho ⊢
                  obtain ⟨w9, hw9⟩ : ∃ w9, w9 = w8.alloc (.cells #[.slice ca ps.length cc, .int .i64 t, .string s] 27) := ⟨_, rfl⟩
                  have hb9 : Below w8.heap.size w8 w9 := by rw [hw9]; exact below_alloc _ _
                  have z0 : w9.cell? ⟨w8.heap.size, 0, none⟩ = some (.slice ca ps.length cc) := by rw [hw9]; simp
                  have HBS : Hid (∀ g, (Value.slice ca ps.length cc).ownBlock = some g → wr.heap.size ≤ g ∧ g < w8.heap.size) := Lib.hid (fun g hg => ⟨(Row.block_lt ho hg).2, (Row.block_lt ho hg).1⟩)
                  have HO9 := Lib.hid (Own.below ho hb9)
                  have HB9 := Lib.hid (bthen HB.out (bthen hb8 hb9))
                  have HS9 : Hid (w6.heap.size ≤ wr.heap.size) := Lib.hid HB.out.size
                  have HZ0 := Lib.hid z0
                  have HW9 := Lib.hid hw9
                  have hpx : ps.length ≤ 9223372036854775807 := by
                    have := (HGL.out i _ hx).1
                    simp only at this; omega
                  clear hx ho hb8 hb9 hw9
                  go_wp2
                  rw [← HW9.out]
                  clear z0
                  obtain ⟨wo, hwo⟩ : ∃ wo : World, wo = wr := ⟨_, rfl⟩
                  subst hwo
                  go_loopg [15] ps.length (fun gg jv wr => ∃ (j : Nat) (q : List Int), j ≤ ps.length ∧ gg = ps.length - j ∧ jv = .int .i64 j ∧ q.length = ps.length ∧ Own wr wo.heap.size 3 .i64 (.slice ca ps.length cc) q ∧ wr.cell? ⟨w8.heap.size, 0, none⟩ = some (.slice ca ps.length cc) ∧ Below w6.heap.size w6 wr)
                  case atStart => exact ⟨0, ps, by omega, rfl, rfl, rfl, HO9.out, HZ0.out, HB9.out⟩
                  case round =>
                    obtain ⟨j, q, hj, rfl, rfl, hql, ho, hz0, hb⟩ := hrel
                    have HO := Lib.hid ho
                    have HZ := Lib.hid hz0
                    have HBJ := Lib.hid hb
                    have HQL := Lib.hid hql
                    by_cases hjl : j < ps.length
                    · have hjz : (j : Int) < (ps.length : Int) := by omega
                      obtain ⟨gp, hgp⟩ : ∃ gp, ca = some ⟨gp, 0, none⟩ := by
                        rcases ho.2 with ⟨hv, _⟩ | ⟨g, cap, cur, hv, _⟩
                        · simp only [Value.slice.injEq] at hv; omega
                        · simp only [Value.slice.injEq] at hv; exact ⟨g, hv.1⟩
                      subst hgp
                      have h0 : Row wr wo.heap.size 3 1 (.slice (some ⟨gp, 0, none⟩) ps.length cc) q.length (q.map (Value.int .i64)) := ho
                      rw [hql] at h0
                      have hic : wr.cell? ⟨gp, j, none⟩ = some (.int .i64 (q.getD j 0)) := by
                        have hl : j < (q.map (Value.int .i64)).length := by rw [List.length_map]; omega
                        rw [World.ownsRow.cellAt h0 j (by omega)]
                        simp [List.getD, show j < q.length by omega]
                      have hif : wr.frozen? ⟨gp, j, none⟩ = false := World.ownsRow.frozenAt h0 j
                      have HST := Lib.hid (World.ownsRow.stored h0 j (.int .i64 78)).1
                      clear ho hql hb h0
                      go_wp2
                      go_roundg (ps.length - (j + 1))
                      case measure => omega
                      case rel =>
                        have hgb := HBS.out gp rfl
                        have hf : Fr (fun b => b = gp) wr (wr.setCell ⟨gp, j, none⟩ (.int .i64 78)) := (Fr.refl (fun b => b = gp) wr).setCell (p := ⟨gp, j, none⟩) rfl _
                        refine ⟨j + 1, q.set j 78, by omega, rfl, by go_num, by rw [List.length_set]; exact HQL.out, ?_, hf.cell HZ.out (fun e => by have e : w8.heap.size = gp := e; omega), HBJ.out.trans (hf.below (fun b hb => by have := HS9.out; omega) HBJ.out.size)⟩
                        show Row _ _ _ 1 _ (q.set j 78).length ((q.set j 78).map (Value.int .i64))
                        rw [List.length_set, HQL.out, List.map_set]
                        exact HST.out
                    · have hjn : ¬ ((j : Int) < (ps.length : Int)) := by omega
                      clear ho hql hb
                      go_wp2
                      go_roundg (N - (i + 1))
                      case measure => omega
                      case rel => exact ⟨i + 1, by omega, rfl, by go_num, HBJ.out⟩
                · have hiN : ¬ ((i : Int) < (N : Int)) := by omega
                  have hwl : WfL (ws.map (·.2)) := by rw [HWL.out]; exact HLL.out.wf
                  have HRDW : Hid (RdC w6 (fun i => w2.heap.size ≤ i ∧ i < w6.heap.size) aw L.length L) := Lib.hid (by
                    have h := HW6.out.rd hwl (by have := HN1.out; omega)
                    rw [HWL.out] at h
                    exact h)
                  clear hwl
                  go_wp2_with fail
                  refine (is_any S _ bg aw cw L wr (HGI.out.rg.below HB.out) (HRDW.out.below HB.out) HGL.out).mono ?_
                  rintro e w8 ⟨rfl, hb8⟩
                  have HB8 := Lib.hid (bthen (bthen HB6.out HB.out) hb8)
                  clear hb8
                  go_wp2
                  go_ret
                  exact ⟨rfl, HB8.out⟩

end Go.Proofs.Ytoakelgjofdmpaa
