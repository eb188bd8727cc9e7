/-
  the reference's Add: a new list, as the plain law of Add says.
-/
import Derived.Test.YtoakelgjofdmpaaHAdd
namespace Go.Proofs.Ytoakelgjofdmpaa
open Go.RowKit
set_option linter.unusedVariables false
set_option linter.unusedSimpArgs false

def RAddPost (T : Nat → Prop) (L : List Cm) (c : Cm) (w : World) (e : Ending) (w' : World) : Prop :=
  ∃ a' c', e = .returned (.tuple #[.slice a' (addC L c).length c', .int .i64 (addBad L c)]) ∧ RdC w' (fun i => T i ∨ w.heap.size ≤ i) a' (addC L c).length (addC L c) ∧ Below w.heap.size w w'

theorem RAddPost.bad {T L c w w'} {k : Int} (hk : addBad L c = k) (h0 : k ≠ 0) {al n cl} (hl : RdC w T al n L) (hb : Below w.heap.size w w') {e : Ending} (he : e = .returned (.tuple #[.slice al n cl, .int .i64 k])) : RAddPost T L c w e w' := by
  have hA : addC L c = L := by unfold addC; rw [hk, if_neg h0]
  refine ⟨al, cl, ?_, ?_, hb⟩
  · rw [hA, hk, hl.len]; exact he
  · rw [hA, hl.len]; exact (hl.below hb).mono fun i hi => .inl hi

theorem arm5 {B : Nat} {w wo W w5 : World} {row : Option Nat} (h : Below B w wo) (hB : B ≤ w.heap.size) (hW : Below wo.heap.size wo W) (hg : W.grownBy w5 row) (hX : ∀ k, row = some k → B ≤ k) : Below B w w5 :=
  (h.trans (hW.mono (Nat.le_trans hB h.size))).grown hg (Nat.le_trans hB (Nat.le_trans h.size hW.size)) hX
theorem own5 {B : Nat} {W : World} {v : Value} {row : Option Nat} (hat : v.ownBlock = row ∨ v.ownBlock = some W.heap.size) (hX : ∀ k, row = some k → B ≤ k) (hB : B ≤ W.heap.size) : ∀ k, v.ownBlock = some k → B ≤ k := by
  intro k hk
  rcases hat with h | h
  · exact hX k (h ▸ hk)
  · rw [h] at hk; cases hk; exact hB

theorem radd_fin {T : Nat → Prop} {L : List Cm} {ps : List Int} {t : Int} {s : ByteArray} {w wo w6 : World} {a6 a : Option Addr} {c6 nl n c : Nat} {vs : List (Value × Cm)}
    (hrow : Row w6 0 27 3 (.slice a6 (nl + 1) c6) (nl + 1) (cellsC vs ++ [.slice a n c, .int .i64 t, .string s])) (hb : Below w.heap.size w w6) (hown : ∀ k, (Value.slice a6 (nl + 1) c6).ownBlock = some k → w.heap.size ≤ k)
    (hvs : L = vs.map (·.2)) (hpar : ∀ x ∈ vs, Par w T x.1 x.2.1) (hp : Par w T (.slice a n c) ps) (hl : L.length = nl) (hmx : nl < 65536) (hwf : WfL L) (ht : (Lit.int .i64 t).wf = true) (hs : s.size ≤ 9223372036854775807) (hadd : addBad L (ps, t, s) = 0)
    {e : Ending} (he : e = .returned (.tuple #[.slice a6 (nl + 1) c6, .int .i64 0])) : RAddPost T L (ps, t, s) w e w6 := by
  have hL : addC L (ps, t, s) = L ++ [(ps, t, s)] := by unfold addC; rw [if_pos hadd]
  have hlen : (addC L (ps, t, s)).length = nl + 1 := by rw [hL, List.length_append, hl]; rfl
  have hpw : ∀ p ∈ ps, (Lit.int .i64 p).wf = true := by
    obtain ⟨_, _, _, _, _, h⟩ := hp
    exact h.rd.wf
  refine ⟨a6, c6, by rw [hlen, hadd]; exact he, ?_, hb⟩
  have ho : OwnC w6 (fun i => T i ∨ w.heap.size ≤ i) (fun i => T i ∧ i < w.heap.size) (.slice a6 (nl + 1) c6) (nl + 1) (L ++ [(ps, t, s)]) := by
    refine ⟨⟨vs ++ [(.slice a n c, (ps, t, s))], by rw [List.map_append, ← hvs]; rfl, by rw [cellsC_append]; exact hrow, ?_⟩, fun g hg => ⟨.inr (hown g hg), fun h => by have := hown g hg; omega⟩, fun i hi => .inl hi.1, ?_⟩
    · intro x hx
      rcases List.mem_append.1 hx with hx | hx
      · exact (hpar x hx).lt.below hb
      · rw [List.mem_singleton] at hx; subst hx; exact hp.lt.below hb
    · intro x hx
      rcases List.mem_append.1 hx with hx | hx
      · exact hwf x hx
      · rw [List.mem_singleton] at hx; subst hx; exact ⟨ht, hs, hpw⟩
  rw [hlen, hL]
  exact ho.rd (by omega)

set_option maxRecDepth 100000 in
set_option maxHeartbeats 4000000 in
theorem radd_any (T : Nat → Prop) (al : Option Addr) (nl cl : Nat) (L : List Cm) (v : Value) (ps : List Int) (t : Int) (s : ByteArray) (w : World) (hl : RdC w T al nl L) (hp : Par w T v ps) (ht : (Lit.int .i64 t).wf = true) (hs : s.size ≤ 9223372036854775807) :
    Calls Try.prog 22 #[.slice al nl cl, .agg #[v, .int .i64 t, .string s]] w (RAddPost T L (ps, t, s) w) := by
  obtain ⟨a, n, c, rfl, hnc, hpf⟩ := hp
  obtain ⟨w1, hw1⟩ : ∃ w1, w1 = w.alloc (.cells #[.slice a n c, .int .i64 t, .string s] 27) := ⟨_, rfl⟩
  have HB1 := Lib.hid (show Below w.heap.size w w1 by rw [hw1]; exact below_alloc _ _)
  have HG := Lib.hid hl
  have HPF := Lib.hid hpf
  have HR := Lib.hid (hpf.rd.below HB1.out)
  have HL := Lib.hid hpf.rd.len
  have HLL := Lib.hid hl.len
  have hmx := hpf.rd.max
  have hmxl := hl.max
  have HX0 : Hid (w1.cell? ⟨w.heap.size, 0, none⟩ = some (.slice a n c)) := Lib.hid (by rw [hw1]; simp)
  have HX1 : Hid (w1.cell? ⟨w.heap.size, 1, none⟩ = some (.int .i64 t)) := Lib.hid (by rw [hw1]; simp)
  have HX2 : Hid (w1.cell? ⟨w.heap.size, 2, none⟩ = some (.string s)) := Lib.hid (by rw [hw1]; simp)
  have HSZ : Hid (w1.heap.size = w.heap.size + 1) := Lib.hid (by rw [hw1]; simp)
  have HW1 := Lib.hid hw1
  have HNC := Lib.hid hnc
  have HT := Lib.hid ht
  clear hw1 hl hpf hnc ht
  by_cases h1 : 8 < n ∨ 200 < s.size ∨ t < 0
  · have HE : Hid (addBad L (ps, t, s) = 4) := Lib.hid (by unfold addBad; rw [if_pos]; simpa [HL.out] using h1)
    go_enter Try.func22, Try.ntmps22
    go_wp2
    all_goals go_ret2
    all_goals exact RAddPost.bad HE.out (by decide) HG.out (below_alloc _ _) rfl
  have h1a : n ≤ 8 := by omega
  have h1b : s.size ≤ 200 := by omega
  have h1c : 0 ≤ t := by omega
  have HE1 : Hid (addBad L (ps, t, s) = if ∃ p ∈ ps, p < 0 ∨ (nl : Int) ≤ p then 1 else if ¬ ps.Nodup then 4 else if 65536 ≤ nl then 3 else 0) := Lib.hid (by unfold addBad; rw [if_neg (by simpa [HL.out] using h1), HLL.out])
  clear h1
  go_enter Try.func22, Try.ntmps22
  go_wp2
  rw [← HW1.out]
  have x0 := HX0.out
  have x1 := HX1.out
  have x2 := HX2.out
  go_loop [6] (fun iv => ∃ i : Nat, i ≤ n ∧ iv = .int .i64 i ∧ (∀ p ∈ ps.take i, 0 ≤ p ∧ p < (nl : Int))) (fun iv => n - (intOf iv).toNat)
  case atStart => exact ⟨0, by omega, rfl, by simp⟩
  case round =>
    obtain ⟨i, hi, rfl, hall⟩ := hrel
    have HALL := Lib.hid hall
    clear hall
    by_cases hlt : i < n
    · obtain ⟨b1, o1, rfl, h1⟩ := HR.out.cell i hlt
      have hil : i < ps.length := by rw [HL.out]; exact hlt
      by_cases hb : 0 ≤ ps.getD i 0 ∧ ps.getD i 0 < (nl : Int)
      · have HS : Hid (∀ p ∈ ps.take (i + 1), 0 ≤ p ∧ p < (nl : Int)) := Lib.hid (by
          intro p hp
          rw [getD_take_snoc (d := 0) hil] at hp
          rcases List.mem_append.1 hp with hp | hp
          · exact HALL.out p hp
          · rw [List.mem_singleton] at hp; subst hp; exact hb)
        obtain ⟨hb1, hb2⟩ := hb
        generalize ps.getD i 0 = p at *
        go_wp2
        go_round
        case rel => exact ⟨i + 1, by omega, by go_num, HS.out⟩
        case measure => simp [intOf]; omega
      · have HE : Hid (addBad L (ps, t, s) = 1) := Lib.hid (by
          rw [HE1.out, if_pos]
          exact ⟨ps.getD i 0, getD_mem hil, by omega⟩)
        rcases (show ps.getD i 0 < 0 ∨ (0 ≤ ps.getD i 0 ∧ (nl : Int) ≤ ps.getD i 0) by omega) with hb1 | ⟨hb1, hb2⟩
        · clear hb
          generalize ps.getD i 0 = p at *
          go_wp2
          go_ret2
          exact RAddPost.bad HE.out (by decide) HG.out HB1.out rfl
        · have hb3 : decide (ps.getD i 0 < 0) = false := by simpa using hb1
          clear hb
          generalize ps.getD i 0 = p at *
          go_wp2
          go_ret2
          exact RAddPost.bad HE.out (by decide) HG.out HB1.out rfl
    · have HE2 : Hid (addBad L (ps, t, s) = if ¬ ps.Nodup then 4 else if 65536 ≤ nl then 3 else 0) := Lib.hid (by
        rw [HE1.out, if_neg]
        rintro ⟨p, hp, hh⟩
        have := HALL.out p (by rw [List.take_of_length_le (by rw [HL.out]; omega)]; exact hp)
        omega)
      clear HALL HE1
      go_wp2
      go_loopw [7] (fun iv wr => ∃ i : Nat, i ≤ n ∧ iv = .int .i64 i ∧ (ps.take i).Nodup ∧ Below w1.heap.size w1 wr) (fun iv _ => n - (intOf iv).toNat)
      case atStart => exact ⟨0, by omega, rfl, by simp, Below.refl _ _⟩
      case round =>
        obtain ⟨i, hi, rfl, hall, hbw⟩ := hrel
        have HALL := Lib.hid hall
        have HBW := Lib.hid hbw
        have y0 := below_cell hbw x0
        have y1 := below_cell hbw x1
        have y2 := below_cell hbw x2
        clear hall hbw
        obtain ⟨wo, hwo⟩ : ∃ wo : World, wo = wr := ⟨_, rfl⟩
        subst hwo
        by_cases hlt : i < n
        · have hil : i < ps.length := by rw [HL.out]; exact hlt
          obtain ⟨b1, o1, rfl, h1⟩ := (HR.out.below HBW.out).cell i hlt
          have H1 := Lib.hid h1
          clear h1
          go_wp2
          go_loopw [8] (fun kv wr => ∃ k : Nat, k ≤ i ∧ kv = .int .i64 k ∧ (∀ j, j < k → ps.getD j 0 ≠ ps.getD i 0) ∧ Below wo.heap.size wo wr) (fun kv _ => i - (intOf kv).toNat)
          case atStart => exact ⟨0, by omega, rfl, fun j hj => by omega, Below.refl _ _⟩
          case round =>
            obtain ⟨k, hk, rfl, heq, hbk⟩ := hrel
            have HEQ := Lib.hid heq
            have HBK := Lib.hid hbk
            have z0 := below_cell hbk y0
            have z1 := below_cell hbk y1
            have z2 := below_cell hbk y2
            have g1 := below_cell hbk H1.out
            clear heq hbk
            by_cases hki : k < i
            · obtain ⟨b2, o2, hx, h2⟩ := (HR.out.below (HBW.out.trans (HBK.out.mono HBW.out.size))).cell k (by omega)
              cases hx
              have hki2 : (k : Int) < (i : Int) := by omega
              have hkn : (k : Int) < (n : Int) := by omega
              have hin : (i : Int) < (n : Int) := by omega
              by_cases he : ps.getD k 0 = ps.getD i 0
              · have HE : Hid (addBad L (ps, t, s) = 4) := Lib.hid (by
                  rw [HE2.out, if_pos]
                  intro hnd
                  have hkl : k < ps.length := by omega
                  refine List.pairwise_iff_getElem.1 hnd k i hkl hil hki ?_
                  simpa [List.getD, hil, hkl] using he)
                rw [he] at h2
                clear he
                generalize ps.getD i 0 = p at *
                go_wp2
                go_quiet (fail)
                go_wp2
                go_ret2
                exact RAddPost.bad HE.out (by decide) HG.out (bdrewN (HB1.out.trans ((HBW.out.trans (HBK.out.mono HBW.out.size)).mono HB1.out.size)) _) rfl
              · have HN := Lib.hid he
                generalize hpe : ps.getD i 0 = p at *
                generalize hqe : ps.getD k 0 = q at *
                have HPE := Lib.hid hpe
                have HQE := Lib.hid hqe
                have hqp : (q == p) = false := by simpa using he
                clear he hpe hqe
                go_wp2
                go_quiet (fail)
                go_wp2
                go_roundw
                case rel => exact ⟨k + 1, by omega, by go_num, fun j hj => (by
                  by_cases hjk : j < k
                  · exact HEQ.out j hjk
                  · have : j = k := by omega
                    subst this; rw [HQE.out]; exact HN.out), bdrewN HBK.out _⟩
                case measure => simp [intOf]; omega
            · have HS : Hid ((ps.take (i + 1)).Nodup) := Lib.hid (by
                rw [getD_take_snoc (d := 0) hil, List.nodup_append]
                refine ⟨HALL.out, by simp, fun x hx y hy => ?_⟩
                rw [List.mem_singleton] at hy
                subst hy
                obtain ⟨j, hj, rfl⟩ := List.getElem_of_mem hx
                have hj2 : j < i := by simp at hj; omega
                have := HEQ.out j (by omega)
                simpa [List.getD, show j < ps.length by omega] using this)
              clear HEQ
              go_wp2
              go_roundw
              case rel => exact ⟨i + 1, by omega, by go_num, HS.out, HBW.out.trans (HBK.out.mono HBW.out.size)⟩
              case measure => simp [intOf]; omega
        · have HE3 : Hid (addBad L (ps, t, s) = if 65536 ≤ nl then 3 else 0) := Lib.hid (by
            rw [HE2.out, if_neg]
            have := HALL.out
            rw [List.take_of_length_le (by rw [HL.out]; omega)] at this
            simpa using this)
          clear HALL HE2
          by_cases hfull : 65536 ≤ nl
          · have HE : Hid (addBad L (ps, t, s) = 3) := Lib.hid (by rw [HE3.out, if_pos hfull])
            have hfi : decide ((65536 : Int) ≤ (nl : Int)) = true := by simp; omega
            clear hfull
            go_wp2
            go_ret2
            exact RAddPost.bad HE.out (by decide) HG.out (HB1.out.trans (HBW.out.mono HB1.out.size)) rfl
          · have HE : Hid (addBad L (ps, t, s) = 0) := Lib.hid (by rw [HE3.out, if_neg hfull])
            have hfi : decide ((65536 : Int) ≤ (nl : Int)) = false := by simp; omega
            have HFULL := Lib.hid hfull
            clear hfull x0 x1 x2
            go_wp2
            obtain ⟨vs, hvs, hrg, hpar⟩ := HG.out.cells
            have HVS := Lib.hid hvs
            have HB1o : Hid (Below w.heap.size w wo) := Lib.hid (HB1.out.trans (HBW.out.mono HB1.out.size))
            have HRG := Lib.hid (hrg.below HB1o.out)
            have HPAR := Lib.hid hpar
            have HONE := Lib.hid (cellsC_one vs fun x hx => by
              obtain ⟨a, n, c, h, _⟩ := hpar x hx
              exact ⟨a, n, c, h⟩)
            have HLW := Lib.hid HG.out.wf
            have hnl : nl < 65536 := by have := HFULL.out; omega
            have HNL := Lib.hid hnl
            clear hvs hrg hpar hnl
            have hwl : w.heap.size < wo.heap.size := World.block_lt_of_cell? wo ⟨w.heap.size, 0, none⟩ y0
            go_region_law (first
              | (refine step_app_row_at (.tmp 77) (.tmp 78) EC rfl rfl 0 _ 0 [] rfl (row_block (by first | exact heap_new_at (by simp) | exact heap_new_at2 (by simp))) al nl cl (cellsC vs) rfl (RdG.below HRG.out (by repeat (first | exact Below.refl _ _ | refine Below.drew ?_ | refine Below.alloc ?_ (by simp) _))) HONE.out (by have := HNL.out; omega) (by decide) (Nat.zero_le _) ?_; intro a5 c5 w5 hr5 hg5 hat5; simp only [Nat.zero_add, List.nil_append] at hr5 hat5; have e0 := hg5.cell (a := ⟨w.heap.size, 0, none⟩) (below_cell (W := wo) (by repeat (first | exact Below.refl _ _ | refine Below.drew ?_ | refine Below.alloc ?_ (by simp) _)) y0) (fun e => absurd (Option.some.inj e) (Nat.ne_of_lt (by first | exact hwl | (simp; omega)))); have e1 := hg5.cell (a := ⟨w.heap.size, 1, none⟩) (below_cell (W := wo) (by repeat (first | exact Below.refl _ _ | refine Below.drew ?_ | refine Below.alloc ?_ (by simp) _)) y1) (fun e => absurd (Option.some.inj e) (Nat.ne_of_lt (by first | exact hwl | (simp; omega)))); have e2 := hg5.cell (a := ⟨w.heap.size, 2, none⟩) (below_cell (W := wo) (by repeat (first | exact Below.refl _ _ | refine Below.drew ?_ | refine Below.alloc ?_ (by simp) _)) y2) (fun e => absurd (Option.some.inj e) (Nat.ne_of_lt (by first | exact hwl | (simp; omega)))); have HB5 := Lib.hid (arm5 HB1o.out (Nat.le_refl _) (by repeat (first | exact Below.refl _ _ | refine Below.drew ?_ | refine Below.alloc ?_ (by simp) _)) hg5 (fun k hk => Option.some.inj hk ▸ (by simp; omega))); have HA5 := Lib.hid (own5 (B := w.heap.size) hat5 (fun k hk => Option.some.inj hk ▸ (by simp; omega)) (by simp; omega)))
              | (refine step_app_row_at (.tmp 79) (.tmp 81) EC rfl rfl 0 (.slice a5 nl c5) nl _ rfl (by first | exact hr5 | exact Row.alloc hr5 _) _ 1 _ [.slice a n c, .int .i64 t, .string s] rfl (by first | exact RdG.lits w5 3 _ 1 [.slice a n c, .int .i64 t, .string s] rfl | exact rdG_block (cs := #[.slice a n c, .int .i64 t, .string s]) ((hg5.block _ (by first | (simp; done) | (simp; omega)) (fun e => absurd (Option.some.inj e) (by simp))).trans (by first | exact heap_new_at (by simp) | exact heap_new_at2 (by simp))) rfl) (by simp [Value.oneCell']) (by have := HNL.out; omega) (by decide) (Nat.zero_le _) ?_; intro a6 c6 w6 hr6 hg6 hat6; have HB6 := Lib.hid (arm5 HB5.out (Nat.le_refl _) (by repeat (first | exact Below.refl _ _ | refine Below.drew ?_ | refine Below.alloc ?_ (by simp) _)) hg6 HA5.out); have HA6 := Lib.hid (own5 (B := w.heap.size) hat6 HA5.out (by have := HB5.out.size; simp; omega))))
            all_goals
              have HFIN := Lib.hid (@radd_fin T L ps t s w wo w6 a6 a c6 nl n c vs hr6 HB6.out HA6.out HVS.out HPAR.out ⟨a, n, c, rfl, HNC.out, HPF.out⟩ HLL.out HNL.out HLW.out HT.out hs HE.out _ rfl)
              clear hr6 hg6 hat6 hr5 hg5 hat5
              go_wp2
              go_ret2
              exact HFIN.out

end Go.Proofs.Ytoakelgjofdmpaa
