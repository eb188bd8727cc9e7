/-
  machine.product of two cycles: the walk.
-/
import Derived.Test.YtajajkganamfiaaMProS
import Derived.Deep.RegionHeld3
namespace Go.Proofs.Ytajajkganamfiaa
open Go.RowKit Go.Maps
set_option linter.unusedVariables false
set_option linter.unusedSimpArgs false

/-- a place in a list, as a place in its array -/
theorem at_list {α : Type} {l : List α} {i : Nat} {o : α} (h : l[i]? = some o) : l.toArray[i]? = some o := by rw [List.getElem?_toArray]; exact h
set_option maxRecDepth 100000 in
/-- the function literal in Both -/
theorem both1_any (p q : Bool) (w : World) : Calls Try.prog 39 #[.bool p, .bool q] w fun e w' => e = .returned (.bool (p && q)) ∧ w' = w := by
  cases p
  · go_enter Try.func39, Try.ntmps39
    go_wp2
    go_ret
    exact ⟨rfl, rfl⟩
  · go_enter Try.func39, Try.ntmps39
    go_wp2
    go_ret
    exact ⟨rfl, rfl⟩
theorem cf_both1 (args : Array Value) (w : World) : (callFunc 39 args).run Try.prog w = .ok (.enter 39 args) w := by
  obtain ⟨c, hc⟩ : ∃ c, Try.f39.body = some c := ⟨_, rfl⟩
  exact cf_enter Try.func39 (by kernel_rfl) hc args w

/-- what product and Both return -/
def ProPost (L : Nat) (w : World) (e : Ending) (w' : World) : Prop :=
  Below w.heap.size w w' ∧ ((L ≤ 256 ∧ ∃ ac cc an cn aa ca, e = .returned (.tuple #[.agg #[.int .i64 0, .slice ac 256 cc, .slice an L cn, .slice aa L ca], .nilIface]) ∧ ∀ wg, Fr (fun x => x < w.heap.size) w' wg → RdM wg ac 256 an L aa L cycC (cycN L) (cycA L)) ∨
    (256 < L ∧ e = .returned (.tuple #[.agg #[.int .i64 0, .slice none 0 0, .slice none 0 0, .slice none 0 0], .iface 43 (.int .i64 9)])))

/-- the columns, after i letters -/
def colsL (i : Nat) : List (Nat × Nat) := if i = 0 then [] else [(0, 0)]

theorem colsL_succ (i : Nat) : colsL (i + 1) = [(0, 0)] := by simp [colsL]
theorem zset (n i : Nat) : (iv (List.replicate n 0)).set i (.int .i64 0) = iv (List.replicate n 0) := by
  apply List.ext_getElem (by simp)
  intro j h1 h2
  rw [List.getElem_set]
  split
  · simp [iv]
  · rfl

theorem cycA_succ (i : Nat) : cycA (i + 1) = cycA i ++ [decide (i = 0)] := by simp [cycA, List.range_succ]
theorem set3 {x0 x1 x2 a b : Option Rw} {rs : List (Option Rw)} {k : Nat} (hk : rs.length = k) : (x0 :: x1 :: x2 :: (rs ++ [a])).set (k + 3) b = x0 :: x1 :: x2 :: (rs ++ [b]) := by
  subst hk
  show x0 :: x1 :: x2 :: (rs ++ [a]).set rs.length b = _
  simp

set_option maxRecDepth 100000 in
set_option maxHeartbeats 4000000 in
theorem product_cyc (ni nk : Nat) (hi0 : 0 < ni) (hi9 : ni ≤ 256) (hk0 : 0 < nk) (hk9 : nk ≤ 256) (ac ac2 : Option Addr) (cc cc2 : Nat) (an an2 : Option Addr) (cn cn2 : Nat) (aa aa2 : Option Addr) (ca ca2 : Nat) (w : World)
    (hm : RdM w ac 256 an ni aa ni cycC (cycN ni) (cycA ni)) (hm2 : RdM w ac2 256 an2 nk aa2 nk cycC (cycN nk) (cycA nk)) :
    Calls Try.prog 38 #[.agg #[.int .i64 0, .slice ac 256 cc, .slice an ni cn, .slice aa ni ca], .agg #[.int .i64 0, .slice ac2 256 cc2, .slice an2 nk cn2, .slice aa2 nk ca2], .func (.func 39) #[] #[]] w (ProPost (Nat.lcm ni nk) w) := by
  obtain ⟨w1, hw1⟩ : ∃ w1, w1 = ((w.alloc (.cells #[.int .i64 0, .slice ac 256 cc, .slice an ni cn, .slice aa ni ca] 26)).alloc (.cells #[.int .i64 0, .slice ac2 256 cc2, .slice an2 nk cn2, .slice aa2 nk ca2] 26)).alloc (.cells #[.int .i64 0, .slice none 0 0, .slice none 0 0, .slice none 0 0] 26) := ⟨_, rfl⟩
  have HB := Lib.hid (show Below w.heap.size w w1 by rw [hw1]; exact ((below_alloc _ _).alloc (by simp) _).alloc (by simp; try omega) _)
  have HM := Lib.hid (hm.below HB.out)
  have HM2 := Lib.hid (hm2.below HB.out)
  have hxc : CT w1 w.heap.size 0 (.slice ac 256 cc) (.slice an ni cn) (.slice aa ni ca) := by rw [hw1]; exact ((alloc_ct _ _ _ _ _ _).below (below_alloc _ _)).below (below_alloc _ _)
  have hyc : CT w1 (w.heap.size + 1) 0 (.slice ac2 256 cc2) (.slice an2 nk cn2) (.slice aa2 nk ca2) := by
    rw [hw1]
    have h := alloc_ct (w.alloc (.cells #[.int .i64 0, .slice ac 256 cc, .slice an ni cn, .slice aa ni ca] 26)) 0 (.slice ac2 256 cc2) (.slice an2 nk cn2) (.slice aa2 nk ca2) 26
    rw [show (w.alloc (.cells #[.int .i64 0, .slice ac 256 cc, .slice an ni cn, .slice aa ni ca] 26)).heap.size = w.heap.size + 1 by simp] at h
    exact h.below (below_alloc _ _)
  have hrc : CT w1 (w.heap.size + 1 + 1) 0 (.slice none 0 0) (.slice none 0 0) (.slice none 0 0) := by
    rw [hw1]
    have h := alloc_ct ((w.alloc (.cells #[.int .i64 0, .slice ac 256 cc, .slice an ni cn, .slice aa ni ca] 26)).alloc (.cells #[.int .i64 0, .slice ac2 256 cc2, .slice an2 nk cn2, .slice aa2 nk ca2] 26)) 0 (.slice none 0 0) (.slice none 0 0) (.slice none 0 0) 26
    rw [show ((w.alloc (.cells #[.int .i64 0, .slice ac 256 cc, .slice an ni cn, .slice aa ni ca] 26)).alloc (.cells #[.int .i64 0, .slice ac2 256 cc2, .slice an2 nk cn2, .slice aa2 nk ca2] 26)).heap.size = w.heap.size + 1 + 1 by simp] at h
    exact h
  have HX := Lib.hid hxc
  have HY := Lib.hid hyc
  have HR := Lib.hid hrc
  have HS1 : Hid (w1.heap.size = w.heap.size + 1 + 1 + 1) := Lib.hid (by rw [hw1]; simp)
  have HW1 := Lib.hid hw1
  have HI := Lib.hid (And.intro hi0 (And.intro hi9 (And.intro hk0 hk9)))
  have hc1 : mcode ((0 : Nat) : Int) cycC (cycN ni) (cycA ni) = 0 := code_of_valid (cyc_valid hi0 hi9)
  have hc2 : mcode ((0 : Nat) : Int) cycC (cycN nk) (cycA nk) = 0 := code_of_valid (cyc_valid hk0 hk9)
  have HCK1 : Hid (∀ wx, RdM wx ac 256 an ni aa ni cycC (cycN ni) (cycA ni) → Calls Try.prog 22 #[.agg #[.int .i64 0, .slice ac 256 cc, .slice an ni cn, .slice aa ni ca]] wx fun e w' => e = .returned .nilIface ∧ Below wx.heap.size wx w') := Lib.hid (fun wx h => (check_any 0 ac 256 cc an ni cn aa ni ca cycC (cycN ni) (cycA ni) wx h).mono (by rintro e w' ⟨rfl, hb⟩; exact ⟨by rw [show (0 : Int) = ((0 : Nat) : Int) from rfl, hc1]; rfl, hb⟩))
  have HCK2 : Hid (∀ wx, RdM wx ac2 256 an2 nk aa2 nk cycC (cycN nk) (cycA nk) → Calls Try.prog 22 #[.agg #[.int .i64 0, .slice ac2 256 cc2, .slice an2 nk cn2, .slice aa2 nk ca2]] wx fun e w' => e = .returned .nilIface ∧ Below wx.heap.size wx w') := Lib.hid (fun wx h => (check_any 0 ac2 256 cc2 an2 nk cn2 aa2 nk ca2 cycC (cycN nk) (cycA nk) wx h).mono (by rintro e w' ⟨rfl, hb⟩; exact ⟨by rw [show (0 : Int) = ((0 : Nat) : Int) from rfl, hc2]; rfl, hb⟩))
  have hnn : ∀ w, (binOp .neq 30 .nilIface .nilIface).run Try.prog w = .ok (.bool false) w := fun w => by kernel_rfl
  have hcf := cf_both1
  obtain ⟨x0, x1, x2, x3, -⟩ := hxc
  clear hm hm2 hw1 hi0 hi9 hk0 hk9 hrc hyc hc1 hc2
  go_enter Try.func38, Try.ntmps38
  go_upto_region 1 with fail
  rw [← HW1.out]
  go_wp2_with fail
  refine (HCK1.out w1 HM.out).mono ?_
  rintro e wa ⟨rfl, hba⟩
  have HBA := Lib.hid hba
  clear x0 x1 x2 x3 hba
  obtain ⟨y0, y1, y2, y3, -⟩ := HY.out.below HBA.out
  go_wp2_with fail
  refine (HCK2.out wa (HM2.out.below HBA.out)).mono ?_
  rintro e w2 ⟨rfl, hb2⟩
  have HB2 := Lib.hid (bthen HBA.out hb2)
  clear y0 y1 y2 y3 hb2 HBA HCK1 HCK2
  obtain ⟨B, hB⟩ : ∃ B, B = w2.heap.size := ⟨_, rfl⟩
  have HBB := Lib.hid hB
  have hmm := @run_makeMap Try.prog
  have HRF0 : Hid (RF B (fun _ => False) w2 []) := Lib.hid (RF.nil (fun b h => h.elim) (by rw [hB]; exact Nat.le_refl _))
  clear hB
  go_upto_region 10 with (at_make; refine RF.make HRF0.out EIG rfl rfl _ _ rfl _ _ _ _ 256 rfl rfl rfl rfl (by decide) (by decide) ?_; intro w3 hrf3 hb3 hsz3; have HRF3 := Lib.hid hrf3; have HB3 := Lib.hid hb3; have HSZ3 := Lib.hid hsz3; clear hrf3 hb3 hsz3)
  obtain ⟨w4, hw4⟩ : ∃ w4, w4 = (w3.alloc (.cells #[.int .i64 0, .slice (some ⟨w2.heap.size, 0, none⟩) 256 256, .slice none 0 0, .slice none 0 0] 26)).alloc (.map #[] 0) := ⟨_, rfl⟩
  rw [← hw4]
  have hs4 : (w3.alloc (.cells #[.int .i64 0, .slice (some ⟨w2.heap.size, 0, none⟩) 256 256, .slice none 0 0, .slice none 0 0] 26)).heap.size = w3.heap.size + 1 := by simp
  have HPS : Hid (PS B w3.heap.size (w3.heap.size + 1) none w2 [some (3, .slice (some ⟨B, 0, none⟩) 256 256, iv (List.replicate 256 0))] (.slice (some ⟨B, 0, none⟩) 256 256) (.slice none 0 0) (.slice none 0 0) (.slice none 0 0) [] [] w4) := Lib.hid (by
    have h1 := ((HRF3.out.addN (.cells #[.int .i64 0, .slice (some ⟨w2.heap.size, 0, none⟩) 256 256, .slice none 0 0, .slice none 0 0] 26)).addN (.map #[] 0)).lessN (N' := SN w3.heap.size (w3.heap.size + 1) none (.slice none 0 0)) (fun b hb => by
      rcases hb with hb | hb | hb | hb
      · exact .inl (.inr hb)
      · exact .inr (by rw [hs4]; exact hb)
      · cases hb
      · cases hb)
    rw [← hw4] at h1
    rw [← HBB.out] at h1
    have hB3 : B ≤ w3.heap.size := by have := HB3.out.size; have := HBB.out; omega
    refine ⟨by rw [show iv (List.replicate 256 0) = List.replicate 256 (.int .i64 0) by simp [iv]]; exact h1, ?_, ?_, World.ownsRow_nil _ _ _ _, ⟨by omega, by simp [Value.ownBlock], by simp [Value.ownBlock], hB3, by omega⟩, (fun b hb => by cases hb), ?_⟩
    · rw [hw4, HBB.out]; exact (alloc_ct _ _ _ _ _ _).below (below_alloc _ _)
    · rw [hw4, ← hs4]
      exact ⟨_, World.ownsMap_made _ _ _ _, pmapIs_start⟩
    · rw [hw4, HBB.out]; exact (HB3.out.alloc (by have := HB3.out.size; omega) _).alloc (by have := HB3.out.size; simp; omega) _)
  rw [show w2.heap.size = B from HBB.out.symm]
  have HBQ : Hid (B ≤ w3.heap.size) := Lib.hid (by have := HB3.out.size; have := HBB.out; omega)
  clear hw4 hs4
  generalize w3.heap.size = bq at *
  generalize bq + 1 = bm at *
  have HBOX : Hid (∀ wx, Below B w2 wx → CT wx w.heap.size 0 (.slice ac 256 cc) (.slice an ni cn) (.slice aa ni ca) ∧ CT wx (w.heap.size + 1) 0 (.slice ac2 256 cc2) (.slice an2 nk cn2) (.slice aa2 nk ca2) ∧ CT wx (w.heap.size + 1 + 1) 0 (.slice none 0 0) (.slice none 0 0) (.slice none 0 0)) := Lib.hid (fun wx hb => by
    have h : Below w1.heap.size w1 wx := bthen HB2.out (by rw [← HBB.out]; exact hb)
    exact ⟨HX.out.below h, HY.out.below h, HR.out.below h⟩)
  have HMW : Hid (∀ wx, Below B w2 wx → RdM wx ac 256 an ni aa ni cycC (cycN ni) (cycA ni) ∧ RdM wx ac2 256 an2 nk aa2 nk cycC (cycN nk) (cycA nk)) := Lib.hid (fun wx hb => by
    have h : Below w1.heap.size w1 wx := bthen HB2.out (by rw [← HBB.out]; exact hb)
    exact ⟨HM.out.below h, HM2.out.below h⟩)
  go_wp2
  go_loopg [12, 41] 256 (fun gg cv iv0 wr => ∃ (i : Nat), i ≤ 256 ∧ gg = 256 - i ∧ iv0 = .int .i64 i ∧ PS B bq bm none w2 [some (3, .slice (some ⟨B, 0, none⟩) 256 256, iv (List.replicate 256 0))] (.slice (some ⟨B, 0, none⟩) 256 256) (.slice none 0 0) (.slice none 0 0) cv (colsL i) (colsL i) wr)
  case atStart => exact ⟨0, by omega, rfl, rfl, HPS.out⟩
  case round =>
    obtain ⟨i, hi, rfl, rfl, hps⟩ := hrel
    have HP := Lib.hid hps
    clear hps
    by_cases hlt : i < 256
    · have hii : (i : Int) < 256 := by omega
      obtain ⟨x0, x1, x2, x3, -⟩ := (HBOX.out wr HP.out.be).1
      obtain ⟨y0, y1, y2, y3, -⟩ := (HBOX.out wr HP.out.be).2.1
      obtain ⟨c1b, c1o, rfl, hc1⟩ := (HMW.out wr HP.out.be).1.c.cell i hlt
      obtain ⟨c2b, c2o, rfl, hc2⟩ := (HMW.out wr HP.out.be).2.c.cell i hlt
      rw [show cycC.getD i 0 = 0 from (by unfold cycC; rw [List.getD_eq_getElem?_getD, List.getElem?_replicate, if_pos hlt]; rfl)] at hc1 hc2
      obtain ⟨q1, q2, q3, q4, -⟩ := HP.out.ct
      have x1a : ∀ o, (wr.alloc o).drew.cell? ⟨w.heap.size, 1, none⟩ = some (.slice (some ⟨c1b, c1o, none⟩) 256 cc) := fun o => below_cell ((below_alloc _ _).drew) x1
      have y1a : ∀ o, (wr.alloc o).drew.cell? ⟨w.heap.size + 1, 1, none⟩ = some (.slice (some ⟨c2b, c2o, none⟩) 256 cc2) := fun o => below_cell ((below_alloc _ _).drew) y1
      have hc1a : ∀ o, (wr.alloc o).drew.cell? ⟨c1b, c1o + i, none⟩ = some (.int .i64 0) := fun o => below_cell ((below_alloc _ _).drew) hc1
      have hc2a : ∀ o, (wr.alloc o).drew.cell? ⟨c2b, c2o + i, none⟩ = some (.int .i64 0) := fun o => below_cell ((below_alloc _ _).drew) hc2
      go_wp2
      go_region
      clear x0 x1 x2 x3 y0 y1 y2 y3 x1a y1a hc1a hc2a hc1 hc2 q1 q2 q3 q4
      obtain ⟨wa, hwa⟩ : ∃ wa, wa = (wr.alloc (.cells #[.int .i64 0, .int .i64 0] 97)).drew := ⟨_, rfl⟩
      rw [← hwa]
      have HPA := Lib.hid (HP.out.below (show Below wr.heap.size wr wa by rw [hwa]; exact (below_alloc _ _).drew))
      have z0 : wa.cell? ⟨wr.heap.size, 0, none⟩ = some (.int .i64 0) := by rw [hwa]; show (wr.alloc _).cell? _ = _; simp
      have z1 : wa.cell? ⟨wr.heap.size, 1, none⟩ = some (.int .i64 0) := by rw [hwa]; show (wr.alloc _).cell? _ = _; simp
      have HPB : Hid (bm ≠ wr.heap.size ∧ ∀ g, Value.ownBlock u12 = some g → g ≠ wr.heap.size) := Lib.hid ⟨by have := HP.out.pp.lt; omega, fun g hg => by have := (Row.block_lt HP.out.ro hg).1; omega⟩
      clear hwa
      generalize wr.heap.size = pb at *
      have HPK : Hid (PK (0, 0)) := Lib.hid ⟨by decide, by decide⟩
      by_cases h0 : i = 0
      · subst h0
        obtain ⟨cva, cvc, hcv⟩ := Row.form HPA.out.ro
        rw [show (colsL 0).length = 0 from rfl] at hcv
        subst hcv
        rw [show colsL 0 = [] from rfl] at HPA
        have HNM : Hid ((0, 0) ∉ ([] : List (Nat × Nat))) := Lib.hid (by simp)
        go_upto_region 20 with (first
          | (at_lookup; refine plook_miss rfl _ _ rfl HPA.out.pp rfl (0, 0) HPK.out rfl HNM.out ?_)
          | (at_mapUpdate; refine pupd_key rfl _ _ _ rfl HPA.out.pp rfl (0, 0) HPK.out rfl rfl (by decide) HNM.out ?_; intro w5 hp5 hg5; have HP5 := Lib.hid (HPA.out.map hp5 hg5); have z0' := hg5.cell z0 (fun e => HPB.out.1 (Option.some.inj e).symm); have z1' := hg5.cell z1 (fun e => HPB.out.1 (Option.some.inj e).symm); clear z0 z1 hp5 hg5)
          | (at_builtin; refine app_row_at (.tmp 68) (.tmp 70) E2I rfl rfl B (.slice cva 0 cvc) 0 [] rfl (Row.below HP5.out.ro (below_alloc _ _)) (some ⟨_, 0, none⟩) 1 1 [.int .i64 0, .int .i64 0] rfl (RdG.lits _ 2 _ 1 [.int .i64 0, .int .i64 0] rfl) (by simp [Value.oneCell']) (by decide) (by decide) (by have := HP5.out.low; simp; omega) ?_; intro a6 c6 w6 hr6 hg6 hat6; have HP6 := Lib.hid ((HP5.out.below (below_alloc _ _)).list (V' := [(0, 0)]) hr6 hg6 hat6); have q1 := HP6.out.ct.c1; clear hr6 hg6 hat6 z0' z1')
          | (refine guard_op (.store 3 (.tmp 76) (.tmp 75)) rfl ?_; refine RF.store HP6.out.rf (i := 0) rfl rfl 3 (.tmp 76) (.tmp 75) rfl 0 rfl (.int .i64 0) rfl rfl rfl (by kernel_rfl) (by simp [iv]) ?_; intro w7 hrf7 hg7 hbl7 hfr7; have HP7 := Lib.hid (HP6.out.rows hrf7 hfr7 hbl7); clear hrf7 hg7 hbl7 hfr7 q1))
        go_wp2
        go_roundg (256 - 1)
        case measure => omega
        case rel =>
          refine ⟨0 + 1, by omega, rfl, by go_num, ?_⟩
          have h := HP7.out
          simp only [List.set_cons_zero, zset] at h
          rw [colsL_succ]
          exact h
      · have hcl : colsL i = [(0, 0)] := by unfold colsL; rw [if_neg h0]
        rw [hcl] at HPA
        have HMB : Hid ((0, 0) ∈ [((0 : Nat), (0 : Nat))]) := Lib.hid (by simp)
        have q1 := HPA.out.ct.c1
        have HJ : Hid (i < 256) := Lib.hid hlt
        clear h0 hlt hi hcl
        go_upto_region 20 with (first
          | (at_lookup; refine plook_hit rfl _ _ rfl HPA.out.pp rfl (0, 0) HPK.out rfl HMB.out ?_; rw [show ((ix [((0 : Nat), (0 : Nat))] (0, 0) : Nat) : Int) = 0 by rfl])
          | (refine guard_op (.store 3 (.tmp 76) (.tmp 75)) rfl ?_; refine RF.store HPA.out.rf (i := 0) rfl rfl 3 (.tmp 76) (.tmp 75) rfl i rfl (.int .i64 0) rfl rfl rfl (by kernel_rfl) (by simp [iv]; exact HJ.out) ?_; intro w7 hrf7 hg7 hbl7 hfr7; have HP7 := Lib.hid (HPA.out.rows hrf7 hfr7 hbl7); clear hrf7 hg7 hbl7 hfr7 q1))
        go_wp2
        go_roundg (256 - (i + 1))
        case measure => have := HJ.out; omega
        case rel =>
          refine ⟨i + 1, by have := HJ.out; omega, rfl, by go_num, ?_⟩
          have h := HP7.out
          simp only [List.set_cons_zero, zset] at h
          rw [colsL_succ]
          exact h
    · obtain rfl : i = 256 := by omega
      obtain ⟨x0, x1, x2, x3, -⟩ := (HBOX.out wr HP.out.be).1
      obtain ⟨y0, y1, y2, y3, -⟩ := (HBOX.out wr HP.out.be).2.1
      obtain ⟨gc, cgc, hcv, hc0, hc1⟩ := HP.out.elt (i := 0) (k := (0, 0)) rfl
      rw [show (colsL 256).length = 1 from rfl] at hcv
      subst hcv
      obtain ⟨wl, hwl⟩ : ∃ wl, wl = (wr.alloc (.cells #[.int .i64 0, .int .i64 0] 97)).alloc (.map #[] 0) := ⟨_, rfl⟩
      have hsl : (wr.alloc (.cells #[.int .i64 0, .int .i64 0] 97)).heap.size = wr.heap.size + 1 := by simp
      have HBR : Hid (B ≤ wr.heap.size) := Lib.hid HP.out.low
      have HPN : Hid (PP wl (wr.heap.size + 1) []) := Lib.hid (by rw [hwl, ← hsl]; exact ⟨_, World.ownsMap_made _ _ _ _, pmapIs_start⟩)
      have HPK : Hid (PK (0, 0)) := Lib.hid ⟨by decide, by decide⟩
      have HNM : Hid ((0, 0) ∉ ([] : List (Nat × Nat))) := Lib.hid (by simp)
      have HWL := Lib.hid hwl
      have hz0 : ∀ o, ((wr.alloc (.cells #[.int .i64 0, .int .i64 0] 97)).alloc o).cell? ⟨wr.heap.size, 0, none⟩ = some (.int .i64 0) := fun o => below_cell (below_alloc _ _) (by simp)
      have hz1 : ∀ o, ((wr.alloc (.cells #[.int .i64 0, .int .i64 0] 97)).alloc o).cell? ⟨wr.heap.size, 1, none⟩ = some (.int .i64 0) := fun o => below_cell (below_alloc _ _) (by simp)
      clear hwl hsl
      go_upto_region 23 with (refine guard_op (.insert 95 (.tmp 84) (.tmp 87) (.const (.int .i64 0))) rfl ?_; rw [← HWL.out]; refine pins_key rfl _ _ _ rfl HPN.out rfl (0, 0) HPK.out rfl rfl (by decide) HNM.out ?_; intro w9 hp9 hg9; have HP9 := Lib.hid hp9; have HG9 := Lib.hid hg9; clear hp9 hg9 hz0 hz1)
      have HPS2 : Hid (PS B bq (wr.heap.size + 1) (some gc) w2 [some (3, .slice (some ⟨B, 0, none⟩) 256 256, iv (List.replicate 256 0)), some (22, .slice none 0 0, []), some (4, .slice none 0 0, [])] (.slice (some ⟨B, 0, none⟩) 256 256) (.slice none 0 0) (.slice none 0 0) (.slice (some ⟨wr.heap.size, 0, none⟩) 1 1) (prs ni nk 1) (prs ni nk 1) w9) := Lib.hid (by rw [prs_zero]; exact PS.start2 HP.out HWL.out HP9.out HG9.out)
      clear x0 x1 x2 x3 y0 y1 y2 y3 hc0 hc1 HWL HPN HNM HBR
      clear HP HP9 HG9 HPS HBQ
      obtain ⟨gl, hgl⟩ : ∃ gl, gl = wr.heap.size := ⟨_, rfl⟩
      obtain ⟨b2, hb2⟩ : ∃ b2, b2 = wr.heap.size + 1 := ⟨_, rfl⟩
      rw [← hb2, ← hgl] at HPS2
      rw [← hb2, ← hgl]
      clear hb2 hgl
      obtain ⟨L, hL⟩ : ∃ L, L = Nat.lcm ni nk := ⟨_, rfl⟩
      have HL := Lib.hid hL
      have HL0 : Hid (0 < L) := Lib.hid (by rw [hL]; exact Nat.lcm_pos HI.out.1 HI.out.2.2.1)
      rw [← hL]
      clear hL hmm
      go_wp2
      go_loopg [17, 19] L (fun gg lv iv0 wr => ∃ (i n : Nat) (aN : Option Addr) (cN : Nat) (aA : Option Addr) (cA : Nat) (xs : List Value) (rs : List (Option Rw)), gg = L - i ∧ iv0 = .int .i64 i ∧ n = min (i + 1) L ∧ i ≤ L ∧ n ≤ 256 ∧
        PS B bq b2 (some gc) w2 (some (3, .slice (some ⟨B, 0, none⟩) 256 256, iv (List.replicate 256 0)) :: some (22, .slice aN i cN, xs) :: some (4, .slice aA i cA, (cycA i).map Value.bool) :: rs) (.slice (some ⟨B, 0, none⟩) 256 256) (.slice aN i cN) (.slice aA i cA) lv (prs ni nk n) (prs ni nk n) wr ∧ RowsAt xs rs (cycR i L) 1)
      case atStart => exact ⟨0, 1, none, 0, none, 0, [], [], rfl, rfl, by have := HL0.out; omega, by omega, by omega, HPS2.out, ⟨rfl, rfl, fun j r h => by simp [cycR] at h⟩⟩
      case round =>
        clear HPS2
        obtain ⟨i, n, aN, cN, aA, cA, xs, rs, rfl, rfl, hn, hi, hn9, hps, hro⟩ := hrel
        obtain ⟨la, lc, hlv⟩ := Row.form hps.ro
        rw [prs_len] at hlv
        subst hlv
        have HP := Lib.hid hps
        have HRO := Lib.hid hro
        have HN := Lib.hid hn
        clear hps hro
        by_cases hlt : i < L
        · have hin : (i : Int) < (n : Int) := by omega
          obtain ⟨q1, q2, q3, q4, -⟩ := HP.out.ct
          have HIN : Hid (i < n ∧ i < L ∧ n ≤ 256) := Lib.hid ⟨by omega, hlt, hn9⟩
          clear hn hi hlt hn9
          go_upto_region 27 with (at_make; refine RF.make HP.out.rf EIG rfl rfl _ _ rfl _ _ _ _ 1 rfl rfl rfl rfl (by decide) (by decide) ?_; intro w3 hrf3 hb3 hsz3; have HP3 := Lib.hid (PS.mk hrf3 (HP.out.below hb3).ct (HP.out.below hb3).pp (HP.out.below hb3).ro HP.out.ds (HP.out.below hb3).cc (HP.out.below hb3).be); clear hrf3 hb3 hsz3 q1 q2 q3 q4)
          obtain ⟨gr, hgr⟩ : ∃ gr, gr = wr.heap.size := ⟨_, rfl⟩
          rw [← hgr] at HP3
          rw [← hgr]
          clear hgr
          go_wp2
          go_loopg [17, 100] 1 (fun gg lv kv wr => ∃ (k n' rv : Nat), k ≤ 1 ∧ gg = 1 - k ∧ kv = .int .i64 k ∧ (k = 0 ∧ n' = n ∧ rv = 0 ∨ k = 1 ∧ n' = min (i + 2) L ∧ rv = (i + 1) % L) ∧ n' ≤ 256 ∧
            PS B bq b2 (some gc) w2 (some (3, .slice (some ⟨B, 0, none⟩) 256 256, iv (List.replicate 256 0)) :: some (22, .slice aN i cN, xs) :: some (4, .slice aA i cA, (cycA i).map Value.bool) :: (rs ++ [some (3, .slice (some ⟨gr, 0, none⟩) 1 1, iv [rv])])) (.slice (some ⟨B, 0, none⟩) 256 256) (.slice aN i cN) (.slice aA i cA) lv (prs ni nk n') (prs ni nk n') wr)
          case atStart => exact ⟨0, n, 0, by omega, rfl, rfl, .inl ⟨rfl, rfl, rfl⟩, HIN.out.2.2, HP3.out⟩
          case round =>
            clear HP3 HP
            obtain ⟨k, n', rv, hk, rfl, rfl, hkk, hn9', hps⟩ := hrel
            obtain ⟨la', lc', hlv⟩ := Row.form hps.ro
            rw [prs_len] at hlv
            subst hlv
            have HP := Lib.hid hps
            clear hps
            rcases hkk with ⟨rfl, rfl, rfl⟩ | ⟨rfl, hn', hrv⟩
            · obtain ⟨x0, x1, x2, x3, -⟩ := (HBOX.out wr HP.out.be).1
              obtain ⟨y0, y1, y2, y3, -⟩ := (HBOX.out wr HP.out.be).2.1
              obtain ⟨c0, c1, -⟩ := HP.out.cc gc rfl
              go_upto_region 30 with fail
              obtain ⟨w5, hw5⟩ : ∃ w5, w5 = wr.alloc (.cells #[.int .i64 0, .int .i64 0] 97) := ⟨_, rfl⟩
              rw [← hw5]
              have HP5 := Lib.hid (HP.out.below (show Below wr.heap.size wr w5 by rw [hw5]; exact below_alloc _ _))
              have p0 : w5.cell? ⟨wr.heap.size, 0, none⟩ = some (.int .i64 0) := by rw [hw5]; simp
              have p1 : w5.cell? ⟨wr.heap.size, 1, none⟩ = some (.int .i64 0) := by rw [hw5]; simp
              clear x0 x1 x2 x3 y0 y1 y2 y3 c0 c1 hw5 hin
              generalize wr.heap.size = pb at *
              obtain ⟨-, -, x2, -, -⟩ := (HBOX.out w5 HP5.out.be).1
              obtain ⟨-, -, y2, -, -⟩ := (HBOX.out w5 HP5.out.be).2.1
              obtain ⟨qi, hqi⟩ : ∃ qi, qi = i % ni := ⟨_, rfl⟩
              obtain ⟨qk, hqk⟩ : ∃ qk, qk = i % nk := ⟨_, rfl⟩
              have hqil : qi < ni := by rw [hqi]; exact Nat.mod_lt _ HI.out.1
              have hqkl : qk < nk := by rw [hqk]; exact Nat.mod_lt _ HI.out.2.2.1
              obtain ⟨nb, no, r1a, r1n, r1c, rfl, hx, hr1, -⟩ := (HMW.out w5 HP5.out.be).1.n.cell qi hqil
              obtain ⟨mb, mo, r2a, r2n, r2c, rfl, hy, hr2, -⟩ := (HMW.out w5 HP5.out.be).2.n.cell qk hqkl
              rw [cycN_get hqil] at hr1
              rw [cycN_get hqkl] at hr2
              obtain rfl : r1n = 1 := hr1.len.symm
              obtain rfl : r2n = 1 := hr2.len.symm
              obtain ⟨r1b, r1o, rfl, hx1⟩ := hr1.cell 0 (by omega)
              obtain ⟨r2b, r2o, rfl, hy1⟩ := hr2.cell 0 (by omega)
              obtain ⟨s1, hs1⟩ : ∃ s1, s1 = (i + 1) % ni := ⟨_, rfl⟩
              obtain ⟨s2, hs2⟩ : ∃ s2, s2 = (i + 1) % nk := ⟨_, rfl⟩
              rw [List.getD_cons_zero, Nat.add_zero, show (qi + 1) % ni = s1 by rw [hs1, hqi, Nat.mod_add_mod]] at hx1
              rw [List.getD_cons_zero, Nat.add_zero, show (qk + 1) % nk = s2 by rw [hs2, hqk, Nat.mod_add_mod]] at hy1
              have hQI : (qi : Int) < (ni : Int) := by omega
              have hQK : (qk : Int) < (nk : Int) := by omega
              obtain ⟨gl', lc'', hle, l0, l1⟩ := HP5.out.elt (i := i) (k := (qi, qk)) (by rw [hqi, hqk]; exact prs_get HIN.out.1)
              rw [prs_len] at hle
              obtain rfl : la' = some ⟨gl', 0, none⟩ := by have := Value.slice.inj hle; exact this.1
              have hin : (i : Int) < (n' : Int) := by have := HIN.out.1; omega
              have HS := Lib.hid (And.intro hs1 hs2)
              clear hqi hqk hs1 hs2 hr1 hr2 hqil hqkl hle
              go_region_held3 (fun wx => wx.cell? ⟨w.heap.size, 2, none⟩ = some (.slice (some ⟨nb, no, none⟩) ni cn) ∧ wx.cell? ⟨w.heap.size + 1, 2, none⟩ = some (.slice (some ⟨mb, mo, none⟩) nk cn2) ∧ wx.cell? ⟨nb, no + qi, none⟩ = some (.slice (some ⟨r1b, r1o, none⟩) 1 r1c) ∧ wx.cell? ⟨mb, mo + qk, none⟩ = some (.slice (some ⟨r2b, r2o, none⟩) 1 r2c) ∧ wx.cell? ⟨r1b, r1o, none⟩ = some (.int .i64 (s1 : Nat)) ∧ wx.cell? ⟨r2b, r2o, none⟩ = some (.int .i64 (s2 : Nat)) ∧ wx.cell? ⟨gl', i * 2, none⟩ = some (.int .i64 (qi : Nat)) ∧ wx.cell? ⟨gl', i * 2 + 1, none⟩ = some (.int .i64 (qk : Nat)) ∧ wx.cell? ⟨pb, 0, none⟩ = some (.int .i64 0) ∧ wx.cell? ⟨pb, 1, none⟩ = some (.int .i64 0)) (first | exact ⟨x2, y2, hx, hy, hx1, hy1, l0, l1, p0, p1⟩ | exact ⟨below_cell ((below_alloc _ _).drew) x2, below_cell ((below_alloc _ _).drew) y2, below_cell ((below_alloc _ _).drew) hx, below_cell ((below_alloc _ _).drew) hy, below_cell ((below_alloc _ _).drew) hx1, below_cell ((below_alloc _ _).drew) hy1, below_cell ((below_alloc _ _).drew) l0, below_cell ((below_alloc _ _).drew) l1, below_cell ((below_alloc _ _).drew) p0, below_cell ((below_alloc _ _).drew) p1⟩) (fail)
              obtain ⟨w6, hw6⟩ : ∃ w6, w6 = (w5.alloc (.cells #[.int .i64 (s1 : Nat), .int .i64 (s2 : Nat)] 97)).drew := ⟨_, rfl⟩
              rw [← hw6]
              have HP6 := Lib.hid (HP5.out.below (show Below w5.heap.size w5 w6 by rw [hw6]; exact (below_alloc _ _).drew))
              have z0 : w6.cell? ⟨w5.heap.size, 0, none⟩ = some (.int .i64 (s1 : Nat)) := by rw [hw6]; show (w5.alloc _).cell? _ = _; simp
              have z1 : w6.cell? ⟨w5.heap.size, 1, none⟩ = some (.int .i64 (s2 : Nat)) := by rw [hw6]; show (w5.alloc _).cell? _ = _; simp
              have HPB : Hid (b2 ≠ w5.heap.size ∧ gl' ≠ w5.heap.size) := Lib.hid ⟨by have := HP5.out.pp.lt; omega, by have := (Row.block_lt (g := gl') HP5.out.ro rfl).1; omega⟩
              clear hw6 x2 y2 hx hy hx1 hy1 l0 l1 p0 p1 HP HP5 hQI hQK
              generalize w5.heap.size = p23 at *
              have HPK : Hid (PK (s1, s2)) := Lib.hid (by
                have h := HI.out
                obtain ⟨e1, e2⟩ := HS.out
                have h1 := Nat.mod_lt (i + 1) h.1
                have h2 := Nat.mod_lt (i + 1) h.2.2.1
                exact ⟨by show s1 < _; omega, by show s2 < _; omega⟩)
              have hni : n' = i + 1 := by have h1 := HN.out; have h2 := HIN.out.2.1; omega
              have HNI := Lib.hid hni
              by_cases hL : i + 1 < L
              · have HLT := Lib.hid hL
                have HNM : Hid ((s1, s2) ∉ prs ni nk n') := Lib.hid (by
                  obtain ⟨e1, e2⟩ := HS.out
                  rw [HNI.out, e1, e2]
                  exact prs_new (by rw [← HL.out]; exact HLT.out))
                by_cases h256 : n' = 256
                · subst h256
                  have HL6 : Hid (256 < L) := Lib.hid (by have h1 := HNI.out; have h2 := HLT.out; omega)
                  obtain ⟨r0, r1, r2, r3, rf⟩ := (HBOX.out w6 HP6.out.be).2.2
                  have rf0 := rf 0
                  have rf1 := rf 1
                  have rf2 := rf 2
                  have rf3 := rf 3
                  clear rf hni hL hin hn9'
                  have HFIN : Hid (∀ wf, Fr (fun b => b = w.heap.size + 1 + 1) w6 wf → ProPost (Nat.lcm ni nk) w (.returned (.tuple #[.agg #[.int .i64 0, .slice none 0 0, .slice none 0 0, .slice none 0 0], .iface 43 (.int .i64 9)])) wf) := Lib.hid (fun wf hf => by
                    have h6 : Below w.heap.size w w6 := bthen HB.out (bthen HB2.out (by rw [← HBB.out]; exact HP6.out.be))
                    refine ⟨h6.trans (hf.below (fun b e => by omega) h6.size), .inr ⟨by rw [← HL.out]; exact HL6.out, rfl⟩⟩)
                  go_wp2_with (at_lookup; refine plook_miss rfl _ _ rfl HP6.out.pp rfl (s1, s2) HPK.out rfl HNM.out ?_)
                  exact bodyPost_ret (v := .tuple #[.agg #[.int .i64 0, .slice none 0 0, .slice none 0 0, .slice none 0 0], .iface 43 (.int .i64 9)]) (by simp [results, Try.results38, go_sem, r0, r1, r2, r3]) rfl (HFIN.out _ (fr4 w6 (w.heap.size + 1 + 1) (.int .i64 0) (.slice none 0 0) (.slice none 0 0) (.slice none 0 0)))
                · have hnb : ((n' : Int) == 256) = false := by rw [beq_eq_false_iff_ne]; omega
                  have hnc : ¬ (n' : Int) = 256 := by omega
                  have H256 : Hid (n' < 256) := Lib.hid (by omega)
                  clear hni hL hin hn9' h256
                  go_upto_region 39 with (first
                    | (at_lookup; refine plook_miss rfl _ _ rfl HP6.out.pp rfl (s1, s2) HPK.out rfl HNM.out ?_)
                    | (at_mapUpdate; refine pupd_key rfl _ _ _ rfl HP6.out.pp rfl (s1, s2) HPK.out rfl (by rw [prs_len]; rfl) (by rw [prs_len]; have := H256.out; omega) HNM.out ?_; intro w7 hp7 hg7; have HP7 := Lib.hid (HP6.out.map hp7 hg7); have z0' := hg7.cell z0 (fun e => HPB.out.1 (Option.some.inj e).symm); have z1' := hg7.cell z1 (fun e => HPB.out.1 (Option.some.inj e).symm); clear z0 z1 hp7 hg7)
                    | (at_builtin; refine app_row_at (.tmp 150) (.tmp 152) E2I rfl rfl B (.slice (some ⟨gl', 0, none⟩) n' lc') n' (pcells (prs ni nk n')) rfl (by have h := HP7.out.ro; rw [prs_len] at h; exact Row.below h (below_alloc _ _)) (some ⟨_, 0, none⟩) 1 1 [.int .i64 (s1 : Nat), .int .i64 (s2 : Nat)] rfl (RdG.lits _ 2 _ 1 [.int .i64 (s1 : Nat), .int .i64 (s2 : Nat)] rfl) (by simp [Value.oneCell']) (by have := H256.out; omega) (by decide) (by have := HP7.out.low; simp; omega) ?_; intro a8 c8 w8 hr8 hg8 hat8; have HP8 := Lib.hid ((HP7.out.below (below_alloc _ _)).list (V' := prs ni nk n' ++ [(s1, s2)]) (by rw [List.length_append, prs_len, pcells_snoc]; exact hr8) hg8 hat8); clear hr8 hg8 hat8 z0' z1')
                    | (refine guard_op (.store 3 (.tmp 157) (.tmp 156)) rfl ?_; refine RF.store HP8.out.rf (i := rs.length + 3) (at3 rfl) rfl 3 (.tmp 157) (.tmp 156) rfl 0 rfl (.int .i64 (n' : Nat)) rfl rfl rfl (by kernel_rfl) (by simp [iv]) ?_; intro w9 hrf9 hg9 hbl9 hfr9; have HP9 := Lib.hid (HP8.out.rows hrf9 hfr9 hbl9); clear hrf9 hg9 hbl9 hfr9))
                  go_wp2
                  go_roundg (1 - 1)
                  case measure => omega
                  case rel =>
                    refine ⟨1, n' + 1, n', by omega, rfl, by go_num, .inr ⟨rfl, ?_, ?_⟩, by have := H256.out; omega, ?_⟩
                    · have h1 := HNI.out; have h2 := HLT.out; omega
                    · have h1 := HNI.out; have h2 := HLT.out; rw [Nat.mod_eq_of_lt h2]; exact h1
                    · have h := HP9.out
                      rw [set3 rfl] at h
                      rw [prs_succ]
                      obtain ⟨e1, e2⟩ := HS.out
                      rw [← HNI.out] at e1 e2
                      rw [← e1, ← e2]
                      exact h
              · have hLe : i + 1 = L := by have := HIN.out.2.1; omega
                have HLE := Lib.hid hLe
                have HBK := Lib.hid (prs_back (ni := ni) (nk := nk) (n := n') (by omega) (by rw [hni, hLe]; exact HL.out))
                have hs1 : s1 = 0 ∧ s2 = 0 := by
                  obtain ⟨e1, e2⟩ := HS.out
                  have h := HBK.out.1
                  rw [HNI.out] at h
                  simp only [Prod.mk.injEq] at h
                  exact ⟨by rw [e1]; exact h.1, by rw [e2]; exact h.2⟩
                obtain ⟨rfl, rfl⟩ := hs1
                have HIX : Hid (((ix (prs ni nk n') (0, 0) : Nat) : Int) = 0) := Lib.hid (by rw [HBK.out.2.2]; rfl)
                clear hni hL hin hn9' hLe
                go_upto_region 39 with (first
                  | (at_lookup; refine plook_hit rfl _ _ rfl HP6.out.pp rfl (0, 0) HPK.out rfl HBK.out.2.1 ?_; rw [HIX.out])
                  | (refine guard_op (.store 3 (.tmp 157) (.tmp 156)) rfl ?_; refine RF.store HP6.out.rf (i := rs.length + 3) (at3 rfl) rfl 3 (.tmp 157) (.tmp 156) rfl 0 rfl (.int .i64 0) rfl rfl rfl (by kernel_rfl) (by simp [iv]) ?_; intro w9 hrf9 hg9 hbl9 hfr9; have HP9 := Lib.hid (HP6.out.rows hrf9 hfr9 hbl9); clear hrf9 hg9 hbl9 hfr9))
                go_wp2
                go_roundg (1 - 1)
                case measure => omega
                case rel =>
                  refine ⟨1, n', 0, by omega, rfl, by go_num, .inr ⟨rfl, ?_, ?_⟩, HIN.out.2.2, ?_⟩
                  · have h1 := HNI.out; have h2 := HLE.out; omega
                  · rw [HLE.out, Nat.mod_self]
                  · have h := HP9.out
                    rw [set3 rfl] at h
                    exact h
            · have hxl : i = xs.length := by rw [HRO.out.1, cycR_len]
              have HXL := Lib.hid hxl
              have HNR := Lib.hid (And.intro hn' hrv)
              obtain ⟨q1, q2, q3, q4, -⟩ := HP.out.ct
              clear hxl hn' hrv
              go_upto_region 41 with (at_builtin; refine RF.append HP.out.rf (i := 1) rfl i HXL.out (below_alloc wr _) (.tmp 160) (.tmp 162) ESI rfl rfl rfl _ 1 _ [.slice (some ⟨gr, 0, none⟩) 1 1] rfl (RdG.lits wr 1 22 1 [.slice (some ⟨gr, 0, none⟩) 1 1] rfl) (by simp [Value.oneCell']) (by have := HIN.out; omega) (by decide) ?_; intro a8 c8 w8 hrf8 hg8 hbl8 hfr8; have HP8 := Lib.hid (HP.out.rows hrf8 hfr8 hbl8); have hq82 := HP8.out.ct.c2; have hq8f := HP8.out.ct.fz 2; clear hrf8 hg8 hbl8 hfr8 q1 q2 q3 q4)
              obtain ⟨w9, hw9⟩ : ∃ w9, w9 = w8.setCell ⟨bq, 2, none⟩ (.slice a8 (i + 1) c8) := ⟨_, rfl⟩
              rw [← hw9]
              have HP9 := Lib.hid (show PS _ _ _ _ _ _ _ _ _ _ _ _ w9 by rw [hw9]; exact HP8.out.set2 (.slice a8 (i + 1) c8))
              clear hw9 hq82 hq8f hin
              clear HP8 HP
              obtain ⟨-, -, -, x3, -⟩ := (HBOX.out w9 HP9.out.be).1
              obtain ⟨-, -, -, y3, -⟩ := (HBOX.out w9 HP9.out.be).2.1
              obtain ⟨qi, hqi⟩ : ∃ qi, qi = i % ni := ⟨_, rfl⟩
              obtain ⟨qk, hqk⟩ : ∃ qk, qk = i % nk := ⟨_, rfl⟩
              have hqil : qi < ni := by rw [hqi]; exact Nat.mod_lt _ HI.out.1
              have hqkl : qk < nk := by rw [hqk]; exact Nat.mod_lt _ HI.out.2.2.1
              obtain ⟨ab, ao, rfl, hx⟩ := (HMW.out w9 HP9.out.be).1.a.cell qi hqil
              obtain ⟨bb, bo, rfl, hy⟩ := (HMW.out w9 HP9.out.be).2.a.cell qk hqkl
              rw [cycA_get hqil] at hx
              rw [cycA_get hqkl] at hy
              obtain ⟨za, hza⟩ : ∃ za, za = decide (qi = 0) := ⟨_, rfl⟩
              obtain ⟨zb, hzb⟩ : ∃ zb, zb = decide (qk = 0) := ⟨_, rfl⟩
              rw [← hza] at hx
              rw [← hzb] at hy
              have hnn' : i < n' := by have h1 := HNR.out.1; have h2 := HIN.out.2.1; omega
              obtain ⟨gl', lc'', hle, l0, l1⟩ := HP9.out.elt (i := i) (k := (qi, qk)) (by rw [hqi, hqk]; exact prs_get hnn')
              rw [prs_len] at hle
              obtain rfl : la' = some ⟨gl', 0, none⟩ := by have := Value.slice.inj hle; exact this.1
              have hin : (i : Int) < (n' : Int) := by omega
              have hQI : (qi : Int) < (ni : Int) := by omega
              have hQK : (qk : Int) < (nk : Int) := by omega
              have HZ : Hid ((za && zb) = decide (i = 0)) := Lib.hid (by
                rw [hza, hzb]
                by_cases h0 : i = 0
                · rw [hqi, hqk, h0]; simp
                · rw [decide_eq_false h0, Bool.and_eq_false_iff, decide_eq_false_iff_not, decide_eq_false_iff_not]
                  refine Classical.or_iff_not_imp_left.2 (fun h1 h2 => ?_)
                  have h1 := Classical.not_not.1 h1
                  have d1 := Nat.dvd_of_mod_eq_zero (hqi ▸ h1)
                  have d2 := Nat.dvd_of_mod_eq_zero (hqk ▸ h2)
                  have d3 := Nat.le_of_dvd (by omega) (Nat.lcm_dvd d1 d2)
                  have h4 := HIN.out.2.1
                  rw [HL.out] at h4
                  omega)
              obtain ⟨-, -, -, q3, -⟩ := HP9.out.ct
              have q3a : ∀ o, (w9.alloc o).drew.cell? ⟨bq, 3, none⟩ = some (.slice aA i cA) := fun o => below_cell ((below_alloc _ _).drew) q3
              have HAL : Hid (i = ((cycA i).map Value.bool).length) := Lib.hid (by rw [List.length_map, cycA_len])
              have HBC : Hid (∀ wx, Below B w2 wx → wx.cell? ⟨ab, ao + qi, none⟩ = some (.bool za) ∧ wx.cell? ⟨bb, bo + qk, none⟩ = some (.bool zb)) := Lib.hid (fun wx hb => by
                obtain ⟨a1, o1, e1, h1⟩ := (HMW.out wx hb).1.a.cell qi hqil
                obtain ⟨a2, o2, e2, h2⟩ := (HMW.out wx hb).2.a.cell qk hqkl
                rw [cycA_get hqil, ← hza] at h1
                rw [cycA_get hqkl, ← hzb] at h2
                cases e1; cases e2
                exact ⟨h1, h2⟩)
              have HLC : Hid (∀ l v1 v2 v3 wx, PS B bq b2 (some gc) w2 l v1 v2 v3 (.slice (some ⟨gl', 0, none⟩) n' lc') (prs ni nk n') (prs ni nk n') wx → wx.cell? ⟨gl', i * 2, none⟩ = some (.int .i64 (qi : Nat)) ∧ wx.cell? ⟨gl', i * 2 + 1, none⟩ = some (.int .i64 (qk : Nat))) := Lib.hid (fun l v1 v2 v3 wx h => by
                obtain ⟨g9, c9, e9, l0, l1⟩ := h.elt (i := i) (k := (qi, qk)) (by rw [hqi, hqk]; exact prs_get hnn')
                rw [prs_len] at e9
                have e9 := (Value.slice.inj e9).1
                obtain rfl : gl' = g9 := by simpa using e9
                exact ⟨l0, l1⟩)
              clear hqi hqk hza hzb hqil hqkl hle hnn'
              refine wp_region_noPanic ?_
              refine wp_region_held_drew (S := (fun wx => wx.cell? ⟨w.heap.size, 3, none⟩ = some (.slice (some ⟨ab, ao, none⟩) ni ca) ∧ wx.cell? ⟨w.heap.size + 1, 3, none⟩ = some (.slice (some ⟨bb, bo, none⟩) nk ca2) ∧ wx.cell? ⟨ab, ao + qi, none⟩ = some (.bool za) ∧ wx.cell? ⟨bb, bo + qk, none⟩ = some (.bool zb) ∧ wx.cell? ⟨gl', i * 2, none⟩ = some (.int .i64 (qi : Nat)) ∧ wx.cell? ⟨gl', i * 2 + 1, none⟩ = some (.int .i64 (qk : Nat)))) (by kernel_rfl) ?_ (fun hHeld => ?_)
              · (try dsimp only); (first | exact ⟨x3, y3, hx, hy, l0, l1⟩ | exact ⟨x3', y3', hx', hy', l0', l1'⟩ | exact HSV _ | exact ⟨below_cell ((below_alloc _ _).drew) x3, below_cell ((below_alloc _ _).drew) y3, below_cell ((below_alloc _ _).drew) hx, below_cell ((below_alloc _ _).drew) hy, below_cell ((below_alloc _ _).drew) l0, below_cell ((below_alloc _ _).drew) l1⟩ | go_keep)
              refine' wpAnyH_take (i := 0) (at_list rfl) (by kernel_rfl) (by kernel_rfl) (by kernel_rfl) (fun _ _ _ h => h) (Or.inl ⟨by rfl, ?_⟩) (by assumption) ?_
              rotate_left
              focus ((intro w hSw); (try dsimp only at hSw); go_simp; (try with_reducible rfl))
              try simp only [Act.put, List.setIfInBounds_toArray, List.set_cons_zero, List.set_cons_succ]
              refine' wpAnyH_take (i := 2) (at_list rfl) (by kernel_rfl) (by kernel_rfl) (by kernel_rfl) (fun _ _ _ h => h) (Or.inl ⟨by rfl, ?_⟩) (by assumption) ?_
              rotate_left
              focus ((intro w hSw); (try dsimp only at hSw); go_simp; (try with_reducible rfl))
              try simp only [Act.put, List.setIfInBounds_toArray, List.set_cons_zero, List.set_cons_succ]
              refine' wpAnyH_take (i := 3) (at_list rfl) (by kernel_rfl) (by kernel_rfl) (by kernel_rfl) (fun _ _ _ h => h) (Or.inl ⟨by rfl, ?_⟩) (by assumption) ?_
              rotate_left
              focus ((intro w hSw); (try dsimp only at hSw); go_simp; (try with_reducible rfl))
              try simp only [Act.put, List.setIfInBounds_toArray, List.set_cons_zero, List.set_cons_succ]
              refine' wpAnyH_take (i := 4) (at_list rfl) (by kernel_rfl) (by kernel_rfl) (by kernel_rfl) (fun _ _ _ h => h) (Or.inl ⟨by rfl, ?_⟩) (by assumption) ?_
              rotate_left
              focus ((intro w hSw); (try dsimp only at hSw); go_simp; (try with_reducible rfl))
              try simp only [Act.put, List.setIfInBounds_toArray, List.set_cons_zero, List.set_cons_succ]
              refine' wpAnyH_take (i := 5) (at_list rfl) (by kernel_rfl) (by kernel_rfl) (by kernel_rfl) (fun _ _ _ h => h) (Or.inl ⟨by rfl, ?_⟩) (by assumption) ?_
              rotate_left
              focus ((intro w hSw); (try dsimp only at hSw); go_simp; (try with_reducible rfl))
              try simp only [Act.put, List.setIfInBounds_toArray, List.set_cons_zero, List.set_cons_succ]
              refine' wpAnyH_take (i := 6) (at_list rfl) (by kernel_rfl) (by kernel_rfl) (by kernel_rfl) (fun _ _ _ h => h) (Or.inl ⟨by rfl, ?_⟩) (by assumption) ?_
              rotate_left
              focus ((intro w hSw); (try dsimp only at hSw); go_simp; (try with_reducible rfl))
              try simp only [Act.put, List.setIfInBounds_toArray, List.set_cons_zero, List.set_cons_succ]
              refine' wpAnyH_take (i := 7) (at_list rfl) (by kernel_rfl) (by kernel_rfl) (by kernel_rfl) (fun _ _ _ h => h) (Or.inl ⟨by rfl, ?_⟩) (by assumption) ?_
              rotate_left
              focus ((intro w hSw); (try dsimp only at hSw); go_simp; (try with_reducible rfl))
              try simp only [Act.put, List.setIfInBounds_toArray, List.set_cons_zero, List.set_cons_succ]
              refine' wpAnyH_take (i := 8) (at_list rfl) (by kernel_rfl) (by kernel_rfl) (by kernel_rfl) (fun _ _ _ h => h) (Or.inl ⟨by rfl, ?_⟩) (by assumption) ?_
              rotate_left
              focus ((intro w hSw); (try dsimp only at hSw); go_simp; (try with_reducible rfl))
              try simp only [Act.put, List.setIfInBounds_toArray, List.set_cons_zero, List.set_cons_succ]
              refine' wpAnyH_take (i := 9) (at_list rfl) (by kernel_rfl) (by kernel_rfl) (by kernel_rfl) (fun _ _ _ h => h) (Or.inl ⟨by rfl, ?_⟩) (by assumption) ?_
              rotate_left
              focus ((intro w hSw); (try dsimp only at hSw); go_simp; (try with_reducible rfl))
              try simp only [Act.put, List.setIfInBounds_toArray, List.set_cons_zero, List.set_cons_succ]
              refine' wpAnyH_take (i := 10) (at_list rfl) (by kernel_rfl) (by kernel_rfl) (by kernel_rfl) (fun _ _ _ h => h) (Or.inl ⟨by rfl, ?_⟩) (by assumption) ?_
              rotate_left
              focus ((intro w hSw); (try dsimp only at hSw); go_simp; (try with_reducible rfl))
              try simp only [Act.put, List.setIfInBounds_toArray, List.set_cons_zero, List.set_cons_succ]
              refine' wpAnyH_take (i := 11) (at_list rfl) (by kernel_rfl) (by kernel_rfl) (by kernel_rfl) (fun _ _ _ h => h) (Or.inl ⟨by rfl, ?_⟩) (by assumption) ?_
              rotate_left
              focus ((intro w hSw); (try dsimp only at hSw); go_simp; (try with_reducible rfl))
              try simp only [Act.put, List.setIfInBounds_toArray, List.set_cons_zero, List.set_cons_succ]
              refine' wpAnyH_take (i := 12) (at_list rfl) (by kernel_rfl) (by kernel_rfl) (by kernel_rfl) (fun _ _ _ h => h) (Or.inl ⟨by rfl, ?_⟩) (by assumption) ?_
              rotate_left
              focus ((intro w hSw); (try dsimp only at hSw); go_simp; (try with_reducible rfl))
              try simp only [Act.put, List.setIfInBounds_toArray, List.set_cons_zero, List.set_cons_succ]
              refine' wpAnyH_take (i := 13) (at_list rfl) (by kernel_rfl) (by kernel_rfl) (by kernel_rfl) (fun _ _ _ h => h) (Or.inl ⟨by rfl, ?_⟩) (by assumption) ?_
              rotate_left
              focus ((intro w hSw); (try dsimp only at hSw); go_simp; (try with_reducible rfl))
              try simp only [Act.put, List.setIfInBounds_toArray, List.set_cons_zero, List.set_cons_succ]
              refine' wpAnyH_take (i := 14) (at_list rfl) (by kernel_rfl) (by kernel_rfl) (by kernel_rfl) (fun _ _ _ h => h) (Or.inl ⟨by rfl, ?_⟩) (by assumption) ?_
              rotate_left
              focus ((intro w hSw); (try dsimp only at hSw); go_simp; (try with_reducible rfl))
              try simp only [Act.put, List.setIfInBounds_toArray, List.set_cons_zero, List.set_cons_succ]
              refine' wpAnyH_take (i := 15) (at_list rfl) (by kernel_rfl) (by kernel_rfl) (by kernel_rfl) (fun _ _ _ h => h) (Or.inl ⟨by rfl, ?_⟩) (by assumption) ?_
              rotate_left
              focus ((intro w hSw); (try dsimp only at hSw); go_simp; (try with_reducible rfl))
              try simp only [Act.put, List.setIfInBounds_toArray, List.set_cons_zero, List.set_cons_succ]
              refine' wpAnyH_take (i := 16) (at_list rfl) (by kernel_rfl) (by kernel_rfl) (by kernel_rfl) (fun _ _ _ h => h) (Or.inl ⟨by rfl, ?_⟩) (by assumption) ?_
              rotate_left
              focus ((intro w hSw); (try dsimp only at hSw); go_simp; (try with_reducible rfl))
              try simp only [Act.put, List.setIfInBounds_toArray, List.set_cons_zero, List.set_cons_succ]
              refine' wpAnyH_take (i := 17) (at_list rfl) (by kernel_rfl) (by kernel_rfl) (by kernel_rfl) (fun _ _ _ h => h) (Or.inl ⟨by rfl, ?_⟩) (by assumption) ?_
              rotate_left
              focus ((intro w hSw); (try dsimp only at hSw); go_simp; (try with_reducible rfl))
              try simp only [Act.put, List.setIfInBounds_toArray, List.set_cons_zero, List.set_cons_succ]
              refine' wpAnyH_take (i := 18) (at_list rfl) (by kernel_rfl) (by kernel_rfl) (by kernel_rfl) (fun _ _ _ h => h) (Or.inl ⟨by rfl, ?_⟩) (by assumption) ?_
              rotate_left
              focus ((intro w hSw); (try dsimp only at hSw); go_simp; (try with_reducible rfl))
              try simp only [Act.put, List.setIfInBounds_toArray, List.set_cons_zero, List.set_cons_succ]
              refine' wpAnyH_take (i := 19) (at_list rfl) (by kernel_rfl) (by kernel_rfl) (by kernel_rfl) (fun _ _ _ h => h) (Or.inl ⟨by rfl, ?_⟩) (by assumption) ?_
              rotate_left
              focus ((intro w hSw); (try dsimp only at hSw); go_simp; (try with_reducible rfl))
              try simp only [Act.put, List.setIfInBounds_toArray, List.set_cons_zero, List.set_cons_succ]
              refine' wpAnyH_take (i := 20) (at_list rfl) (by kernel_rfl) (by kernel_rfl) (by kernel_rfl) (fun _ _ _ h => h) (Or.inl ⟨by rfl, ?_⟩) (by assumption) ?_
              rotate_left
              focus ((intro w hSw); (try dsimp only at hSw); go_simp; (try with_reducible rfl))
              try simp only [Act.put, List.setIfInBounds_toArray, List.set_cons_zero, List.set_cons_succ]
              refine wpAnyH_ready (rs := [1, 21]) (by kernel_rfl) (by simp) ?_
              refine' AllReadyH.cons (at_list rfl) (fun K hK => ?_) ?_
              focus
                go_simp
                refine hK.out _ _ ?_ (fun hHeld => ?_)
                · (try dsimp only); (first | exact ⟨x3, y3, hx, hy, l0, l1⟩ | exact ⟨x3', y3', hx', hy', l0', l1'⟩ | exact HSV _ | exact ⟨below_cell ((below_alloc _ _).drew) x3, below_cell ((below_alloc _ _).drew) y3, below_cell ((below_alloc _ _).drew) hx, below_cell ((below_alloc _ _).drew) hy, below_cell ((below_alloc _ _).drew) l0, below_cell ((below_alloc _ _).drew) l1⟩ | go_keep)
                clear hK K
                try simp only [Act.put, List.setIfInBounds_toArray, List.set_cons_zero, List.set_cons_succ]
                skip
                refine wpAnyH_ready (rs := [21]) (by kernel_rfl) (by simp) ?_
                refine' AllReadyH.cons (at_list rfl) (fun K hK => ?_) ?_
                focus
                  go_simp
                  go_at_call 39; refine (both1_any za zb _).mono ?_; rintro e wz ⟨rfl, rfl⟩
                  go_wp2_with fail
                  refine hK.out _ _ ?_ (fun hHeld => ?_)
                  · (try dsimp only); (first | exact ⟨x3, y3, hx, hy, l0, l1⟩ | exact ⟨x3', y3', hx', hy', l0', l1'⟩ | exact HSV _ | exact ⟨below_cell ((below_alloc _ _).drew) x3, below_cell ((below_alloc _ _).drew) y3, below_cell ((below_alloc _ _).drew) hx, below_cell ((below_alloc _ _).drew) hy, below_cell ((below_alloc _ _).drew) l0, below_cell ((below_alloc _ _).drew) l1⟩ | go_keep)
                  clear hK K
                  try simp only [Act.put, List.setIfInBounds_toArray, List.set_cons_zero, List.set_cons_succ]
                  skip
                  refine wpAnyH_ready (rs := [22]) (by kernel_rfl) (by simp) ?_
                  refine' AllReadyH.cons (at_list rfl) (fun K hK => ?_) ?_
                  focus
                    go_simp
                    refine hK.out _ _ ?_ (fun hHeld => ?_)
                    · (try dsimp only); (first | exact ⟨x3, y3, hx, hy, l0, l1⟩ | exact ⟨x3', y3', hx', hy', l0', l1'⟩ | exact HSV _ | exact ⟨below_cell ((below_alloc _ _).drew) x3, below_cell ((below_alloc _ _).drew) y3, below_cell ((below_alloc _ _).drew) hx, below_cell ((below_alloc _ _).drew) hy, below_cell ((below_alloc _ _).drew) l0, below_cell ((below_alloc _ _).drew) l1⟩ | go_keep)
                    clear hK K
                    try simp only [Act.put, List.setIfInBounds_toArray, List.set_cons_zero, List.set_cons_succ]
                    skip
                    refine wpAnyH_ready (rs := [23]) (by kernel_rfl) (by simp) ?_
                    refine' AllReadyH.cons (at_list rfl) (fun K hK => ?_) ?_
                    focus
                      refine RF.stepAppend HP9.out.rf (i := 2) rfl i HAL.out ((below_alloc _ _).drew) (.tmp 166) (.tmp 187) EBG rfl rfl rfl _ 1 _ [.bool (za && zb)] rfl (RdG.lits w9 1 4 1 [.bool (za && zb)] rfl).drew (by simp [Value.oneCell']) (by have := HIN.out; omega) (by decide) ?_; intro a9 c9 w10 hrf10 hg10 hbl10 hfr10; have HP10 := Lib.hid (HP9.out.rows hrf10 hfr10 hbl10); have hb10 := hbl10; have x3' := (HBOX.out w10 HP10.out.be).1.c3; have y3' := (HBOX.out w10 HP10.out.be).2.1.c3; have hx' : w10.cell? ⟨ab, ao + qi, none⟩ = some (.bool za) := HBC.out w10 HP10.out.be |>.1; have hy' : w10.cell? ⟨bb, bo + qk, none⟩ = some (.bool zb) := HBC.out w10 HP10.out.be |>.2; have l0' : w10.cell? ⟨gl', i * 2, none⟩ = some (.int .i64 (qi : Nat)) := (HLC.out _ _ _ _ _ HP10.out).1; have l1' : w10.cell? ⟨gl', i * 2 + 1, none⟩ = some (.int .i64 (qk : Nat)) := (HLC.out _ _ _ _ _ HP10.out).2; clear hb10; have HSV := fun v => And.intro (HBOX.out _ (HP10.out.set3 v).be).1.c3 (And.intro (HBOX.out _ (HP10.out.set3 v).be).2.1.c3 (And.intro (HBC.out _ (HP10.out.set3 v).be).1 (And.intro (HBC.out _ (HP10.out.set3 v).be).2 (HLC.out _ _ _ _ _ (HP10.out.set3 v))))); have q3f := HP10.out.ct.fz 3; have q3' := HP10.out.ct.c3; clear hrf10 hg10 hbl10 hfr10
                      refine hK.out _ _ ?_ (fun hHeld => ?_)
                      · (try dsimp only); (first | exact ⟨x3, y3, hx, hy, l0, l1⟩ | exact ⟨x3', y3', hx', hy', l0', l1'⟩ | exact HSV _ | exact ⟨below_cell ((below_alloc _ _).drew) x3, below_cell ((below_alloc _ _).drew) y3, below_cell ((below_alloc _ _).drew) hx, below_cell ((below_alloc _ _).drew) hy, below_cell ((below_alloc _ _).drew) l0, below_cell ((below_alloc _ _).drew) l1⟩ | go_keep)
                      clear hK K
                      try simp only [Act.put, List.setIfInBounds_toArray, List.set_cons_zero, List.set_cons_succ]
                      skip
                      refine' wpAnyH_take (i := 24) (at_list rfl) (by kernel_rfl) (by kernel_rfl) (by kernel_rfl) (fun _ _ _ h => h) (Or.inl ⟨by rfl, ?_⟩) (by assumption) ?_
                      rotate_left
                      focus ((intro w hSw); (try dsimp only at hSw); go_simp; (try with_reducible rfl))
                      try simp only [Act.put, List.setIfInBounds_toArray, List.set_cons_zero, List.set_cons_succ]
                      refine wpAnyH_ready (rs := [25]) (by kernel_rfl) (by simp) ?_
                      refine' AllReadyH.cons (at_list rfl) (fun K hK => ?_) ?_
                      focus
                        go_simp
                        refine hK.out _ _ ?_ (fun hHeld => ?_)
                        · (try dsimp only); (first | exact ⟨x3, y3, hx, hy, l0, l1⟩ | exact ⟨x3', y3', hx', hy', l0', l1'⟩ | exact HSV _ | exact ⟨below_cell ((below_alloc _ _).drew) x3, below_cell ((below_alloc _ _).drew) y3, below_cell ((below_alloc _ _).drew) hx, below_cell ((below_alloc _ _).drew) hy, below_cell ((below_alloc _ _).drew) l0, below_cell ((below_alloc _ _).drew) l1⟩ | go_keep)
                        clear hK K
                        try simp only [Act.put, List.setIfInBounds_toArray, List.set_cons_zero, List.set_cons_succ]
                        skip
                        refine wpAnyH_done (by kernel_rfl) ?_ _
                        refine NoPanic.normal ?_
                        obtain ⟨w11, hw11⟩ : ∃ w11, w11 = w10.setCell ⟨bq, 3, none⟩ (.slice a9 (i + 1) c9) := ⟨_, rfl⟩
                        rw [← hw11]
                        have HP11 := Lib.hid (show PS _ _ _ _ _ _ _ _ _ _ _ _ w11 by rw [hw11]; exact HP10.out.set3 (.slice a9 (i + 1) c9))
                        clear hw11 HP10 HP9 HSV
                        go_wp2
                        go_roundg (L - (i + 1))
                        case measure => have := HIN.out; omega
                        case rel =>
                          refine ⟨i + 1, n', a8, c8, a9, c9, xs ++ [.slice (some ⟨gr, 0, none⟩) 1 1], rs ++ [some (3, .slice (some ⟨gr, 0, none⟩) 1 1, iv [rv])], rfl, by go_num, by have := HNR.out.1; omega, by have := HIN.out; omega, hn9', ?_, ?_⟩
                          · have h := HP11.out
                            rw [cycA_succ, List.map_append, ← HZ.out]
                            exact h
                          · have h := HRO.out.push gr 1 [(i + 1) % L]
                            rw [cycR_succ, HNR.out.2]
                            exact h
                      exact AllReadyH.nil
                    exact AllReadyH.nil
                  exact AllReadyH.nil
                exact AllReadyH.nil
              refine' AllReadyH.cons (at_list rfl) (fun K hK => ?_) ?_
              focus
                go_simp
                go_at_call 39; refine (both1_any za zb _).mono ?_; rintro e wz ⟨rfl, rfl⟩
                go_wp2_with fail
                refine hK.out _ _ ?_ (fun hHeld => ?_)
                · (try dsimp only); (first | exact ⟨x3, y3, hx, hy, l0, l1⟩ | exact ⟨x3', y3', hx', hy', l0', l1'⟩ | exact HSV _ | exact ⟨below_cell ((below_alloc _ _).drew) x3, below_cell ((below_alloc _ _).drew) y3, below_cell ((below_alloc _ _).drew) hx, below_cell ((below_alloc _ _).drew) hy, below_cell ((below_alloc _ _).drew) l0, below_cell ((below_alloc _ _).drew) l1⟩ | go_keep)
                clear hK K
                try simp only [Act.put, List.setIfInBounds_toArray, List.set_cons_zero, List.set_cons_succ]
                refine wpAnyH_ready (rs := [1, 22]) (by kernel_rfl) (by simp) ?_
                refine' AllReadyH.cons (at_list rfl) (fun K hK => ?_) ?_
                focus
                  go_simp
                  refine hK.out _ _ ?_ (fun hHeld => ?_)
                  · (try dsimp only); (first | exact ⟨x3, y3, hx, hy, l0, l1⟩ | exact ⟨x3', y3', hx', hy', l0', l1'⟩ | exact HSV _ | exact ⟨below_cell ((below_alloc _ _).drew) x3, below_cell ((below_alloc _ _).drew) y3, below_cell ((below_alloc _ _).drew) hx, below_cell ((below_alloc _ _).drew) hy, below_cell ((below_alloc _ _).drew) l0, below_cell ((below_alloc _ _).drew) l1⟩ | go_keep)
                  clear hK K
                  try simp only [Act.put, List.setIfInBounds_toArray, List.set_cons_zero, List.set_cons_succ]
                  skip
                  refine wpAnyH_ready (rs := [22]) (by kernel_rfl) (by simp) ?_
                  refine' AllReadyH.cons (at_list rfl) (fun K hK => ?_) ?_
                  focus
                    go_simp
                    refine hK.out _ _ ?_ (fun hHeld => ?_)
                    · (try dsimp only); (first | exact ⟨x3, y3, hx, hy, l0, l1⟩ | exact ⟨x3', y3', hx', hy', l0', l1'⟩ | exact HSV _ | exact ⟨below_cell ((below_alloc _ _).drew) x3, below_cell ((below_alloc _ _).drew) y3, below_cell ((below_alloc _ _).drew) hx, below_cell ((below_alloc _ _).drew) hy, below_cell ((below_alloc _ _).drew) l0, below_cell ((below_alloc _ _).drew) l1⟩ | go_keep)
                    clear hK K
                    try simp only [Act.put, List.setIfInBounds_toArray, List.set_cons_zero, List.set_cons_succ]
                    skip
                    refine wpAnyH_ready (rs := [23]) (by kernel_rfl) (by simp) ?_
                    refine' AllReadyH.cons (at_list rfl) (fun K hK => ?_) ?_
                    focus
                      refine RF.stepAppend HP9.out.rf (i := 2) rfl i HAL.out ((below_alloc _ _).drew) (.tmp 166) (.tmp 187) EBG rfl rfl rfl _ 1 _ [.bool (za && zb)] rfl (RdG.lits w9 1 4 1 [.bool (za && zb)] rfl).drew (by simp [Value.oneCell']) (by have := HIN.out; omega) (by decide) ?_; intro a9 c9 w10 hrf10 hg10 hbl10 hfr10; have HP10 := Lib.hid (HP9.out.rows hrf10 hfr10 hbl10); have hb10 := hbl10; have x3' := (HBOX.out w10 HP10.out.be).1.c3; have y3' := (HBOX.out w10 HP10.out.be).2.1.c3; have hx' : w10.cell? ⟨ab, ao + qi, none⟩ = some (.bool za) := HBC.out w10 HP10.out.be |>.1; have hy' : w10.cell? ⟨bb, bo + qk, none⟩ = some (.bool zb) := HBC.out w10 HP10.out.be |>.2; have l0' : w10.cell? ⟨gl', i * 2, none⟩ = some (.int .i64 (qi : Nat)) := (HLC.out _ _ _ _ _ HP10.out).1; have l1' : w10.cell? ⟨gl', i * 2 + 1, none⟩ = some (.int .i64 (qk : Nat)) := (HLC.out _ _ _ _ _ HP10.out).2; clear hb10; have HSV := fun v => And.intro (HBOX.out _ (HP10.out.set3 v).be).1.c3 (And.intro (HBOX.out _ (HP10.out.set3 v).be).2.1.c3 (And.intro (HBC.out _ (HP10.out.set3 v).be).1 (And.intro (HBC.out _ (HP10.out.set3 v).be).2 (HLC.out _ _ _ _ _ (HP10.out.set3 v))))); have q3f := HP10.out.ct.fz 3; have q3' := HP10.out.ct.c3; clear hrf10 hg10 hbl10 hfr10
                      refine hK.out _ _ ?_ (fun hHeld => ?_)
                      · (try dsimp only); (first | exact ⟨x3, y3, hx, hy, l0, l1⟩ | exact ⟨x3', y3', hx', hy', l0', l1'⟩ | exact HSV _ | exact ⟨below_cell ((below_alloc _ _).drew) x3, below_cell ((below_alloc _ _).drew) y3, below_cell ((below_alloc _ _).drew) hx, below_cell ((below_alloc _ _).drew) hy, below_cell ((below_alloc _ _).drew) l0, below_cell ((below_alloc _ _).drew) l1⟩ | go_keep)
                      clear hK K
                      try simp only [Act.put, List.setIfInBounds_toArray, List.set_cons_zero, List.set_cons_succ]
                      skip
                      refine' wpAnyH_take (i := 24) (at_list rfl) (by kernel_rfl) (by kernel_rfl) (by kernel_rfl) (fun _ _ _ h => h) (Or.inl ⟨by rfl, ?_⟩) (by assumption) ?_
                      rotate_left
                      focus ((intro w hSw); (try dsimp only at hSw); go_simp; (try with_reducible rfl))
                      try simp only [Act.put, List.setIfInBounds_toArray, List.set_cons_zero, List.set_cons_succ]
                      refine wpAnyH_ready (rs := [25]) (by kernel_rfl) (by simp) ?_
                      refine' AllReadyH.cons (at_list rfl) (fun K hK => ?_) ?_
                      focus
                        go_simp
                        refine hK.out _ _ ?_ (fun hHeld => ?_)
                        · (try dsimp only); (first | exact ⟨x3, y3, hx, hy, l0, l1⟩ | exact ⟨x3', y3', hx', hy', l0', l1'⟩ | exact HSV _ | exact ⟨below_cell ((below_alloc _ _).drew) x3, below_cell ((below_alloc _ _).drew) y3, below_cell ((below_alloc _ _).drew) hx, below_cell ((below_alloc _ _).drew) hy, below_cell ((below_alloc _ _).drew) l0, below_cell ((below_alloc _ _).drew) l1⟩ | go_keep)
                        clear hK K
                        try simp only [Act.put, List.setIfInBounds_toArray, List.set_cons_zero, List.set_cons_succ]
                        skip
                        refine wpAnyH_done (by kernel_rfl) ?_ _
                        refine NoPanic.normal ?_
                        obtain ⟨w11, hw11⟩ : ∃ w11, w11 = w10.setCell ⟨bq, 3, none⟩ (.slice a9 (i + 1) c9) := ⟨_, rfl⟩
                        rw [← hw11]
                        have HP11 := Lib.hid (show PS _ _ _ _ _ _ _ _ _ _ _ _ w11 by rw [hw11]; exact HP10.out.set3 (.slice a9 (i + 1) c9))
                        clear hw11 HP10 HP9 HSV
                        go_wp2
                        go_roundg (L - (i + 1))
                        case measure => have := HIN.out; omega
                        case rel =>
                          refine ⟨i + 1, n', a8, c8, a9, c9, xs ++ [.slice (some ⟨gr, 0, none⟩) 1 1], rs ++ [some (3, .slice (some ⟨gr, 0, none⟩) 1 1, iv [rv])], rfl, by go_num, by have := HNR.out.1; omega, by have := HIN.out; omega, hn9', ?_, ?_⟩
                          · have h := HP11.out
                            rw [cycA_succ, List.map_append, ← HZ.out]
                            exact h
                          · have h := HRO.out.push gr 1 [(i + 1) % L]
                            rw [cycR_succ, HNR.out.2]
                            exact h
                      exact AllReadyH.nil
                    exact AllReadyH.nil
                  exact AllReadyH.nil
                refine' AllReadyH.cons (at_list rfl) (fun K hK => ?_) ?_
                focus
                  go_simp
                  refine hK.out _ _ ?_ (fun hHeld => ?_)
                  · (try dsimp only); (first | exact ⟨x3, y3, hx, hy, l0, l1⟩ | exact ⟨x3', y3', hx', hy', l0', l1'⟩ | exact HSV _ | exact ⟨below_cell ((below_alloc _ _).drew) x3, below_cell ((below_alloc _ _).drew) y3, below_cell ((below_alloc _ _).drew) hx, below_cell ((below_alloc _ _).drew) hy, below_cell ((below_alloc _ _).drew) l0, below_cell ((below_alloc _ _).drew) l1⟩ | go_keep)
                  clear hK K
                  try simp only [Act.put, List.setIfInBounds_toArray, List.set_cons_zero, List.set_cons_succ]
                  refine wpAnyH_ready (rs := [1]) (by kernel_rfl) (by simp) ?_
                  refine' AllReadyH.cons (at_list rfl) (fun K hK => ?_) ?_
                  focus
                    go_simp
                    refine hK.out _ _ ?_ (fun hHeld => ?_)
                    · (try dsimp only); (first | exact ⟨x3, y3, hx, hy, l0, l1⟩ | exact ⟨x3', y3', hx', hy', l0', l1'⟩ | exact HSV _ | exact ⟨below_cell ((below_alloc _ _).drew) x3, below_cell ((below_alloc _ _).drew) y3, below_cell ((below_alloc _ _).drew) hx, below_cell ((below_alloc _ _).drew) hy, below_cell ((below_alloc _ _).drew) l0, below_cell ((below_alloc _ _).drew) l1⟩ | go_keep)
                    clear hK K
                    try simp only [Act.put, List.setIfInBounds_toArray, List.set_cons_zero, List.set_cons_succ]
                    skip
                    refine wpAnyH_ready (rs := [23]) (by kernel_rfl) (by simp) ?_
                    refine' AllReadyH.cons (at_list rfl) (fun K hK => ?_) ?_
                    focus
                      refine RF.stepAppend HP9.out.rf (i := 2) rfl i HAL.out ((below_alloc _ _).drew) (.tmp 166) (.tmp 187) EBG rfl rfl rfl _ 1 _ [.bool (za && zb)] rfl (RdG.lits w9 1 4 1 [.bool (za && zb)] rfl).drew (by simp [Value.oneCell']) (by have := HIN.out; omega) (by decide) ?_; intro a9 c9 w10 hrf10 hg10 hbl10 hfr10; have HP10 := Lib.hid (HP9.out.rows hrf10 hfr10 hbl10); have hb10 := hbl10; have x3' := (HBOX.out w10 HP10.out.be).1.c3; have y3' := (HBOX.out w10 HP10.out.be).2.1.c3; have hx' : w10.cell? ⟨ab, ao + qi, none⟩ = some (.bool za) := HBC.out w10 HP10.out.be |>.1; have hy' : w10.cell? ⟨bb, bo + qk, none⟩ = some (.bool zb) := HBC.out w10 HP10.out.be |>.2; have l0' : w10.cell? ⟨gl', i * 2, none⟩ = some (.int .i64 (qi : Nat)) := (HLC.out _ _ _ _ _ HP10.out).1; have l1' : w10.cell? ⟨gl', i * 2 + 1, none⟩ = some (.int .i64 (qk : Nat)) := (HLC.out _ _ _ _ _ HP10.out).2; clear hb10; have HSV := fun v => And.intro (HBOX.out _ (HP10.out.set3 v).be).1.c3 (And.intro (HBOX.out _ (HP10.out.set3 v).be).2.1.c3 (And.intro (HBC.out _ (HP10.out.set3 v).be).1 (And.intro (HBC.out _ (HP10.out.set3 v).be).2 (HLC.out _ _ _ _ _ (HP10.out.set3 v))))); have q3f := HP10.out.ct.fz 3; have q3' := HP10.out.ct.c3; clear hrf10 hg10 hbl10 hfr10
                      refine hK.out _ _ ?_ (fun hHeld => ?_)
                      · (try dsimp only); (first | exact ⟨x3, y3, hx, hy, l0, l1⟩ | exact ⟨x3', y3', hx', hy', l0', l1'⟩ | exact HSV _ | exact ⟨below_cell ((below_alloc _ _).drew) x3, below_cell ((below_alloc _ _).drew) y3, below_cell ((below_alloc _ _).drew) hx, below_cell ((below_alloc _ _).drew) hy, below_cell ((below_alloc _ _).drew) l0, below_cell ((below_alloc _ _).drew) l1⟩ | go_keep)
                      clear hK K
                      try simp only [Act.put, List.setIfInBounds_toArray, List.set_cons_zero, List.set_cons_succ]
                      skip
                      refine' wpAnyH_take (i := 24) (at_list rfl) (by kernel_rfl) (by kernel_rfl) (by kernel_rfl) (fun _ _ _ h => h) (Or.inl ⟨by rfl, ?_⟩) (by assumption) ?_
                      rotate_left
                      focus ((intro w hSw); (try dsimp only at hSw); go_simp; (try with_reducible rfl))
                      try simp only [Act.put, List.setIfInBounds_toArray, List.set_cons_zero, List.set_cons_succ]
                      refine wpAnyH_ready (rs := [25]) (by kernel_rfl) (by simp) ?_
                      refine' AllReadyH.cons (at_list rfl) (fun K hK => ?_) ?_
                      focus
                        go_simp
                        refine hK.out _ _ ?_ (fun hHeld => ?_)
                        · (try dsimp only); (first | exact ⟨x3, y3, hx, hy, l0, l1⟩ | exact ⟨x3', y3', hx', hy', l0', l1'⟩ | exact HSV _ | exact ⟨below_cell ((below_alloc _ _).drew) x3, below_cell ((below_alloc _ _).drew) y3, below_cell ((below_alloc _ _).drew) hx, below_cell ((below_alloc _ _).drew) hy, below_cell ((below_alloc _ _).drew) l0, below_cell ((below_alloc _ _).drew) l1⟩ | go_keep)
                        clear hK K
                        try simp only [Act.put, List.setIfInBounds_toArray, List.set_cons_zero, List.set_cons_succ]
                        skip
                        refine wpAnyH_done (by kernel_rfl) ?_ _
                        refine NoPanic.normal ?_
                        obtain ⟨w11, hw11⟩ : ∃ w11, w11 = w10.setCell ⟨bq, 3, none⟩ (.slice a9 (i + 1) c9) := ⟨_, rfl⟩
                        rw [← hw11]
                        have HP11 := Lib.hid (show PS _ _ _ _ _ _ _ _ _ _ _ _ w11 by rw [hw11]; exact HP10.out.set3 (.slice a9 (i + 1) c9))
                        clear hw11 HP10 HP9 HSV
                        go_wp2
                        go_roundg (L - (i + 1))
                        case measure => have := HIN.out; omega
                        case rel =>
                          refine ⟨i + 1, n', a8, c8, a9, c9, xs ++ [.slice (some ⟨gr, 0, none⟩) 1 1], rs ++ [some (3, .slice (some ⟨gr, 0, none⟩) 1 1, iv [rv])], rfl, by go_num, by have := HNR.out.1; omega, by have := HIN.out; omega, hn9', ?_, ?_⟩
                          · have h := HP11.out
                            rw [cycA_succ, List.map_append, ← HZ.out]
                            exact h
                          · have h := HRO.out.push gr 1 [(i + 1) % L]
                            rw [cycR_succ, HNR.out.2]
                            exact h
                      exact AllReadyH.nil
                    exact AllReadyH.nil
                  exact AllReadyH.nil
                exact AllReadyH.nil
              exact AllReadyH.nil
        · obtain rfl : i = L := by omega
          have hni : n = i := by omega
          subst hni
          have HL9 : Hid (n ≤ 256) := Lib.hid hn9
          have HRD : Hid (RdM wr (some ⟨B, 0, none⟩) 256 aN n aA n cycC (cycN n) (cycA n)) := Lib.hid (by
            have hrf' := HP.out.rf
            refine ⟨?_, ?_, ?_⟩
            · have h := hrf'.rdN (i := 0) rfl (fun u hu => by have := (List.mem_replicate.1 hu).2; omega)
              rw [show nints (List.replicate 256 0) = cycC by simp [nints, cycC]] at h
              exact h
            · obtain ⟨e1, e2, e3⟩ := HRO.out
              refine ⟨by rw [cycN_len], by omega, fun j hj => ?_⟩
              obtain ⟨gN, rfl⟩ := hrf'.addr (i := 1) rfl (by rw [e1, cycR_len]; omega)
              obtain ⟨r, hr⟩ : ∃ r, (cycR n n)[j]? = some r := ⟨_, List.getElem?_eq_getElem (by rw [cycR_len]; exact hj)⟩
              have hrj : r = [(j + 1) % n] := by simpa [cycR, hj] using hr.symm
              obtain ⟨g3, c3, e4, e5⟩ := e3 j r hr
              refine ⟨gN, 0, some ⟨g3, 0, none⟩, 1, c3, rfl, by rw [Nat.zero_add]; exact hrf'.cell (i := 1) rfl e4, ?_, ?_⟩
              · have hrd := hrf'.rdN (i := j + 3) (at3i e5) (fun u hu => by
                  rw [hrj] at hu
                  have := Nat.mod_lt (j + 1) (show 0 < n by omega)
                  simp at hu; omega)
                rw [cycN_get hj]
                rw [hrj] at hrd
                simpa [nints] using hrd
              · have ho := hrf'.own (j + 3) _ _ _ (at3i e5)
                exact Row.cap ho
            · exact hrf'.rdB (i := 2) rfl (by omega))
          obtain ⟨q1, q2, q3, q4, -⟩ := HP.out.ct
          have hnn2 : decide ((n : Int) < (n : Int)) = false := by simp
          have HBW : Hid (Below w.heap.size w wr) := Lib.hid (bthen HB.out (bthen HB2.out (by rw [← HBB.out]; exact HP.out.be)))
          have HWS : Hid (w.heap.size + 1 + 1 < wr.heap.size) := Lib.hid (by have h1 := HS1.out; have h2 := HB2.out.size; have h3 := HBB.out; have h4 := HP.out.be.size; omega)
          have HBE := Lib.hid HP.out.be
          clear hn hi hlt hn9
          go_wp2_with fail
          refine (mini_cyc n HL0.out HL9.out _ _ _ _ _ _ wr HRD.out).mono ?_
          rintro e wz ⟨ac3, cc3, an3, cn3, aa3, ca3, rfl, hbz, hmz⟩
          have HBZ := Lib.hid hbz
          have HMZ := Lib.hid hmz
          clear hbz hmz q1 q2 q3 q4
          obtain ⟨r0, r1, r2, r3, rf⟩ := ((HBOX.out wr HBE.out).2.2).below HBZ.out
          have rf0 := rf 0
          have rf1 := rf 1
          have rf2 := rf 2
          have rf3 := rf 3
          clear rf
          have HFIN : Hid (∀ wf, Fr (fun b => b = w.heap.size + 1 + 1) wz wf → ProPost (Nat.lcm ni nk) w (.returned (.tuple #[.agg #[.int .i64 0, .slice ac3 256 cc3, .slice an3 n cn3, .slice aa3 n ca3], .nilIface])) wf) := Lib.hid (fun wf hf => by
            have h6 : Below w.heap.size w wz := bthen HBW.out HBZ.out
            have h7 := HWS.out
            refine ⟨h6.trans (hf.below (fun b e => by omega) h6.size), .inl ⟨by rw [← HL.out]; exact HL9.out, ac3, cc3, an3, cn3, aa3, ca3, by rw [← HL.out], fun wg hg => ?_⟩⟩
            rw [← HL.out]
            exact HMZ.out wg ((hf.mono (fun b e => by omega)).trans (hg.mono (fun b e => by have := HBW.out.size; omega))))
          go_wp2
          exact bodyPost_ret (v := .tuple #[.agg #[.int .i64 0, .slice ac3 256 cc3, .slice an3 n cn3, .slice aa3 n ca3], .nilIface]) (by simp [results, Try.results38, go_sem, r0, r1, r2, r3]) rfl (HFIN.out _ (fr4 wz (w.heap.size + 1 + 1) (.int .i64 0) (.slice ac3 256 cc3) (.slice an3 n cn3) (.slice aa3 n ca3)))

end Go.Proofs.Ytajajkganamfiaa
