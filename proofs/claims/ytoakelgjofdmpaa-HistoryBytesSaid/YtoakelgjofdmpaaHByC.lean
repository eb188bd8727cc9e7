/-
  the reader of history.Take: a commit from the front of what is left.
-/
import Derived.Test.YtoakelgjofdmpaaHByN
import Derived.Test.YtoakelgjofdmpaaHOwnP
import Derived.Deep.RegionHeld3
namespace Go.Proofs.Ytoakelgjofdmpaa
open Go.RowKit
set_option linter.unusedVariables false
set_option linter.unusedSimpArgs false

/-- what number hands back, what is left, whether it has failed -/
def nV (l : List Int) (bad : Bool) : Nat × List Int × Bool := match numR l with
  | some (n, r) => (n, r, bad)
  | none => (0, l, true)
theorem rnum_val (br : Nat) (l : List Int) (bad : Bool) (w : World) (h : RS w br l bad) :
    Calls Try.prog 49 #[.pointer (some ⟨br, 0, none⟩)] w fun e w' => e = .returned (.int .i64 (nV l bad).1) ∧ Fr (fun b => b = br) w w' ∧ RS w' br (nV l bad).2.1 (nV l bad).2.2 ∧ (nV l bad).1 ≤ 9223372036854775807 := by
  refine (rnum_any br l bad w h).mono ?_
  rintro e w' ⟨hf, ⟨n, r, h1, h2, h3, h4⟩ | ⟨h1, h2, h3⟩⟩
  · unfold nV; rw [h1]; exact ⟨h3, hf, h4, h2⟩
  · unfold nV; rw [h1]; exact ⟨h2, hf, h3, Nat.zero_le _⟩

/-- a commit's three cells -/
structure CB (w : World) (g : Nat) (v : Value) (t : Int) (s : ByteArray) : Prop where
  c0 : w.cell? ⟨g, 0, none⟩ = some v
  c1 : w.cell? ⟨g, 1, none⟩ = some (.int .i64 t)
  c2 : w.cell? ⟨g, 2, none⟩ = some (.string s)
  fz : ∀ j, w.frozen? ⟨g, j, none⟩ = false
theorem CB.fr {w w' : World} {F : Nat → Prop} {g v t s} (h : CB w g v t s) (hf : Fr F w w') (hF : ¬ F g) : CB w' g v t s :=
  ⟨hf.cell h.c0 hF, hf.cell h.c1 hF, hf.cell h.c2 hF, fun j => (hf.frozen (x := ⟨g, j, none⟩) (show g < _ from World.block_lt_of_cell? w _ h.c0) hF).trans (h.fz j)⟩
theorem CB.below {w w' : World} {g v t s} (h : CB w g v t s) (hb : Below w.heap.size w w') : CB w' g v t s := h.fr (F := fun _ => False) (.of_below hb) (fun h => h)
theorem CB.set0 {w : World} {g v t s} (h : CB w g v t s) (v' : Value) : CB (w.setCell ⟨g, 0, none⟩ v') g v' t s := ⟨set_same h.c0, set_other (by simp) h.c1, set_other (by simp) h.c2, fun j => (World.frozen?_setCell ..).trans (h.fz j)⟩
theorem CB.set1 {w : World} {g v t s} (h : CB w g v t s) (t' : Int) : CB (w.setCell ⟨g, 1, none⟩ (.int .i64 t')) g v t' s := ⟨set_other (by simp) h.c0, set_same h.c1, set_other (by simp) h.c2, fun j => (World.frozen?_setCell ..).trans (h.fz j)⟩
theorem CB.set2 {w : World} {g v t s} (h : CB w g v t s) (s' : ByteArray) : CB (w.setCell ⟨g, 2, none⟩ (.string s')) g v t s' := ⟨set_other (by simp) h.c0, set_other (by simp) h.c1, set_same h.c2, fun j => (World.frozen?_setCell ..).trans (h.fz j)⟩
theorem fr1 {w : World} {g j : Nat} {u : Value} : Fr (fun b => b = g) w (w.setCell ⟨g, j, none⟩ u) := (Fr.refl (fun b => b = g) w).setCell (p := ⟨g, j, none⟩) rfl u

def ComPost (br : Nat) (l : List Int) (w : World) (e : Ending) (w' : World) : Prop :=
  ∃ (a : Option Addr) (n c : Nat) (t : Int) (s : ByteArray), e = .returned (.agg #[.slice a n c, .int .i64 t, .string s]) ∧ Fr (fun b => b = br) w w' ∧
    ((∃ x r, comR l = some (x, r) ∧ Par w' (fun b => w.heap.size ≤ b) (.slice a n c) x.1 ∧ t = x.2.1 ∧ s = x.2.2 ∧ RS w' br r false) ∨ (comR l = none ∧ ∃ r, RS w' br r true))

/-- the four ways out: the commit as it stands is copied to the result -/
theorem com_out {w wX : World} {br b2 : Nat} {r : List Int} {v : Value} {t : Int} {s : ByteArray} {bad : Bool} (hX : Fr (fun b => b = br) w wX) (hb : w.heap.size ≤ b2) (hr : RS wX br r bad) (hbr : br < w.heap.size) :
    Fr (fun b => b = br) w (((wX.setCell ⟨b2, 0, none⟩ v).setCell ⟨b2, 1, none⟩ (.int .i64 t)).setCell ⟨b2, 2, none⟩ (.string s)) ∧ Fr (fun b => b = b2) wX (((wX.setCell ⟨b2, 0, none⟩ v).setCell ⟨b2, 1, none⟩ (.int .i64 t)).setCell ⟨b2, 2, none⟩ (.string s)) ∧ RS (((wX.setCell ⟨b2, 0, none⟩ v).setCell ⟨b2, 1, none⟩ (.int .i64 t)).setCell ⟨b2, 2, none⟩ (.string s)) br r bad := by
  have hf : Fr (fun b => b = b2) wX (((wX.setCell ⟨b2, 0, none⟩ v).setCell ⟨b2, 1, none⟩ (.int .i64 t)).setCell ⟨b2, 2, none⟩ (.string s)) := (fr1.trans fr1).trans fr1
  exact ⟨hX.then hf fun i hi => .inr (by omega), hf, hr.fr hf fun b hb e => by omega⟩

set_option maxRecDepth 100000 in
set_option maxHeartbeats 2000000 in
theorem rcom_any (br : Nat) (l : List Int) (w : World) (h : RS w br l false) :
    Calls Try.prog 50 #[.pointer (some ⟨br, 0, none⟩)] w (ComPost br l w) := by
  have hne0 : ∀ w, (binOp .neq 33 .nilIface .nilIface).run Try.prog w = .ok (.bool false) w := fun w => by kernel_rfl
  have hneE : ∀ (k : Int) w, (binOp .neq 33 (.iface 63 (.int .i64 k)) .nilIface).run Try.prog w = .ok (.bool true) w := fun k w => by kernel_rfl
  have hbr := h.lt
  obtain ⟨b2, hb2⟩ : ∃ b2, b2 = w.heap.size := ⟨_, rfl⟩
  obtain ⟨w1, hw1⟩ : ∃ w1, w1 = w.alloc (.cells #[.slice none 0 0, .int .i64 0, .string ⟨#[]⟩] 27) := ⟨_, rfl⟩
  obtain ⟨b3, hb3⟩ : ∃ b3, b3 = w.heap.size + 1 := ⟨_, rfl⟩
  obtain ⟨w2, hw2⟩ : ∃ w2, w2 = w1.alloc (.cells #[.slice none 0 0, .int .i64 0, .string ⟨#[]⟩] 27) := ⟨_, rfl⟩
  have hs1 : w1.heap.size = w.heap.size + 1 := by rw [hw1]; simp
  have hB1 : Below w.heap.size w w1 := by rw [hw1]; exact below_alloc _ _
  have hB2 : Below w1.heap.size w1 w2 := by rw [hw2]; exact below_alloc _ _
  have HR2 := Lib.hid ((h.below hB1).below hB2)
  have HC2 : Hid (CB w2 b2 (.slice none 0 0) 0 ⟨#[]⟩) := Lib.hid (by
    have h0 : CB w1 b2 (.slice none 0 0) 0 ⟨#[]⟩ := by rw [hw1, hb2]; exact ⟨by simp, by simp, by simp, fun j => by simp⟩
    exact h0.below hB2)
  have HC3 : Hid (CB w2 b3 (.slice none 0 0) 0 ⟨#[]⟩) := Lib.hid (by
    rw [hw2, hb3, ← hs1]; exact ⟨by simp, by simp, by simp, fun j => by simp⟩)
  have HFX : Hid (Fr (fun b => b = br) w w2) := Lib.hid (.of_below (bthen hB1 hB2))
  have HS2 : Hid (w2.heap.size = w.heap.size + 2) := Lib.hid (by rw [hw2]; simp [hs1])
  have HNB : Hid (br < b2 ∧ b2 < b3 ∧ w.heap.size ≤ b2 ∧ b3 = w.heap.size + 1 ∧ br < w.heap.size) := Lib.hid (by omega)
  have HW1 := Lib.hid hw1
  have HW2 := Lib.hid hw2
  have HB2E := Lib.hid hb2
  have HB3E := Lib.hid hb3
  have HNUM := Lib.hid (rnum_any br l false w2 HR2.out)
  clear h hbr hs1 hB1 hB2 hw1 hw2 hb2 hb3
  go_enter Try.func50, Try.ntmps50
  go_wp2_with fail
  rw [← HW1.out, ← HW2.out, ← HB3E.out, ← HB2E.out]
  refine HNUM.out.mono ?_
  rintro e w3 ⟨hf3, hor⟩
  have HC23 := Lib.hid (HC2.out.fr hf3 (fun e => by have := HNB.out; omega))
  have HC33 := Lib.hid (HC3.out.fr hf3 (fun e => by have := HNB.out; omega))
  have HX3 := Lib.hid (HFX.out.trans hf3)
  have HS3 := Lib.hid hf3.size
  clear hf3 HC2 HC3 HFX HNUM
  rcases hor with ⟨k, l1, hk, hkb, rfl, hrs⟩ | ⟨hk, rfl, hrs⟩
  · by_cases hk8 : 8 < k
    · have HCR : Hid (comR l = none) := Lib.hid (by unfold comR; rw [hk]; simp only; rw [if_pos hk8])
      have hd : decide ((8 : Int) < (k : Int)) = true := decide_eq_true (by omega)
      have hc1 := hrs.c1
      have hfz1 := hrs.fz 1
      have HRS := Lib.hid hrs.fail
      have HC24 := Lib.hid (HC23.out.fr hrs.fail.2 (fun e => by have := HNB.out; omega))
      have HC34 := Lib.hid (HC33.out.fr hrs.fail.2 (fun e => by have := HNB.out; omega))
      have HX4 := Lib.hid (HX3.out.trans hrs.fail.2)
      clear hrs hk
      go_upto_region 5 with fail
      obtain ⟨w4, hw4⟩ : ∃ w4, w4 = w3.setCell ⟨br, 1, none⟩ (.bool true) := ⟨_, rfl⟩
      rw [← hw4] at HRS HC24 HC34 HX4 ⊢
      clear hc1 hfz1 hw4
      obtain ⟨y0, y1, y2, yf⟩ := HC24.out
      obtain ⟨z0, z1, z2, zf⟩ := HC34.out
      have yf0 := yf 0
      have yf1 := yf 1
      have yf2 := yf 2
      clear yf zf
      go_wp2
      have hout := com_out (v := .slice none 0 0) (t := 0) (s := ⟨#[]⟩) HX4.out HNB.out.2.2.1 HRS.out.1 HNB.out.2.2.2.2
      exact bodyPost_ret (v := .agg #[.slice none 0 0, .int .i64 0, .string ⟨#[]⟩]) (by simp [results, Try.results50, go_sem, y0, y1, y2]) rfl ⟨none, 0, 0, 0, ⟨#[]⟩, rfl, hout.1, .inr ⟨HCR.out, _, hout.2.2⟩⟩
    · have hc1 := hrs.c1
      have hd : decide ((8 : Int) < (k : Int)) = false := decide_eq_false (by omega)
      have hk8 : k ≤ 8 := by omega
      have HK := Lib.hid hk
      have HRS := Lib.hid hrs
      clear hrs hk
      go_wp2
      clear hc1 hd
      go_loopg [23] k (fun gg jv wr => ∃ (j : Nat) (ra : Option Addr) (rc : Nat) (vals : List Int) (l' : List Int) (bad' : Bool), j ≤ k ∧ gg = k - j ∧ jv = .int .i64 j ∧ CB wr b2 (.slice none 0 0) 0 ⟨#[]⟩ ∧ CB wr b3 (.slice ra j rc) 0 ⟨#[]⟩ ∧ Own wr (b3 + 1) 3 .i64 (.slice ra j rc) vals ∧ vals.length = j ∧ (∀ p ∈ vals, 0 ≤ p ∧ p ≤ 9223372036854775807) ∧ RS wr br l' bad' ∧ (bad' = false → numsR j l1 = some (vals, l')) ∧ (bad' = true → numsR j l1 = none) ∧ Fr (fun b => b = br) w wr ∧ b3 + 1 ≤ wr.heap.size)
      case atStart => exact ⟨0, none, 0, [], l1, false, by omega, rfl, rfl, HC23.out, HC33.out, Own.nil _ _ _ _, rfl, by simp, HRS.out, fun _ => rfl, fun h => (by cases h), HX3.out, by have := HS3.out; have := HS2.out; have := HNB.out; omega⟩
      case round =>
        clear HC23 HC33 HRS HX3
        obtain ⟨j, ra, rc, vals, l', bad', hj, rfl, rfl, hc2, hc3, hown, hvl, hvb, hrs, hjf, hjt, hx, hsz⟩ := hrel
        have HC2 := Lib.hid hc2
        have HC3 := Lib.hid hc3
        have HO := Lib.hid hown
        have HVL := Lib.hid hvl
        have HVB := Lib.hid hvb
        have HRS := Lib.hid hrs
        have HJF := Lib.hid hjf
        have HJT := Lib.hid hjt
        have HX := Lib.hid hx
        have HSZ := Lib.hid hsz
        clear hvb hjf hjt hx
        by_cases hjl : j < k
        · have hjz : (j : Int) < (k : Int) := by omega
          obtain ⟨m, hm⟩ : ∃ m, m = (nV l' bad').1 := ⟨_, rfl⟩
          obtain ⟨l2, hl2⟩ : ∃ l2, l2 = (nV l' bad').2.1 := ⟨_, rfl⟩
          obtain ⟨bad2, hb2⟩ : ∃ bad2, bad2 = (nV l' bad').2.2 := ⟨_, rfl⟩
          have HNUM := Lib.hid (rnum_val br l' bad' wr.drew (hrs.below (Below.refl _ _).drew))
          rw [← hm, ← hl2, ← hb2] at HNUM
          have HSTEP : Hid ((bad2 = false → numsR (j + 1) l1 = some (vals ++ [(m : Int)], l2)) ∧ (bad2 = true → numsR (j + 1) l1 = none)) := Lib.hid (by
            rw [hm, hl2, hb2]
            unfold nV
            rw [numsR]
            cases hn : numR l' with
            | none =>
              refine ⟨fun h => by simp at h, fun _ => ?_⟩
              cases bad' with
              | true => rw [HJT.out rfl]
              | false => rw [HJF.out rfl]; simp only; rw [hn]
            | some y =>
              obtain ⟨n, r⟩ := y
              simp only
              refine ⟨fun h => ?_, fun h => ?_⟩
              · rw [HJF.out h]; simp only; rw [hn]
              · rw [HJT.out h])
          have h0 : Row wr (b3 + 1) 3 1 (.slice ra j rc) vals.length (vals.map (Value.int .i64)) := hown
          rw [hvl] at h0
          have H0 := Lib.hid h0
          have z0 := hc3.c0
          have z0d : wr.drew.cell? ⟨b3, 0, none⟩ = some (.slice ra j rc) := hc3.c0
          clear hm hl2 hb2 hc2 hc3 hown hrs h0 hvl
          go_wp2
          go_region_law (first
            | (refine step_app_row_at (.tmp 26) (.tmp 29) EIG rfl rfl (b3 + 1) (.slice ra j rc) j _ rfl (Row.below H5.out (below_alloc w5 (.cells #[.int .i64 (m : Int)] 3))) _ 1 _ [.int .i64 (m : Int)] rfl (RdG.lits w5 1 3 1 [.int .i64 (m : Int)] rfl) (by simp [Value.oneCell']) (by omega) (by decide) HBS.out ?_; intro a6 c6 w6 hr6 hg6 hat6; have hf6 : Fr (fun b => (Value.slice ra j rc).ownBlock = some b) w5 w6 := (Fr.of_below (below_alloc w5 (.cells #[.int .i64 (m : Int)] 3))).trans (.of_grown hg6 fun k hk => hk); have hnb : ¬ (Value.slice ra j rc).ownBlock = some b3 := (fun e => by have := (Row.block_lt H5.out e).2; omega); have x0 := (HC35.out.fr hf6 hnb).c0; have xf0 := (HC35.out.fr hf6 hnb).fz 0; have HF6 := Lib.hid hf6; have HR6 := Lib.hid hr6; clear hr6 hg6 hat6 hf6 hnb)
            | (go_simp; go_at_call 49; refine HNUM.out.mono ?_; rintro e w5 ⟨rfl, hf5, hr5, hm5⟩; have HC35 := Lib.hid ((HC3.out.below (Below.refl _ _).drew).fr hf5 (fun e => by have := HNB.out; omega)); have y0 := HC35.out.c0; have e0 : ∀ o, (w5.alloc o).cell? ⟨b3, 0, none⟩ = some (.slice ra j rc) := (fun o => below_cell (below_alloc w5 o) y0); have H5 := Lib.hid (Row.fr (Row.drew H0.out) hf5 (fun g hg e => by have := (Row.block_lt H0.out hg).2; have := HNB.out; omega)); have hs5 : wr.heap.size ≤ w5.heap.size := hf5.size; have HBS : Hid (b3 + 1 ≤ (w5.alloc (.cells #[.int .i64 (m : Int)] 3)).heap.size) := Lib.hid (by have := HSZ.out; simp; omega); have HF5 := Lib.hid hf5; have HR5 := Lib.hid hr5; have HM5 := Lib.hid hm5; clear hf5 hr5 hm5))
          all_goals
            clear z0 z0d y0 e0
            obtain ⟨w7, hw7⟩ : ∃ w7, w7 = w6.setCell ⟨b3, 0, none⟩ (.slice a6 (j + 1) c6) := ⟨_, rfl⟩
            have hnb : ∀ g, (Value.slice ra j rc).ownBlock = some g → b3 + 1 ≤ g := fun g e => (Row.block_lt H5.out e).2
            have hf7 : Fr (fun b => b = b3) w6 w7 := by rw [hw7]; exact fr1
            have hx5 : Fr (fun b => b = br) w w5 := HX.out.trans ((Fr.of_below (Below.refl _ _).drew).trans HF5.out)
            have HINV : Hid (CB w7 b2 (.slice none 0 0) 0 ⟨#[]⟩ ∧ CB w7 b3 (.slice a6 (j + 1) c6) 0 ⟨#[]⟩ ∧ Own w7 (b3 + 1) 3 .i64 (.slice a6 (j + 1) c6) (vals ++ [(m : Int)]) ∧ RS w7 br l2 bad2 ∧ Fr (fun b => b = br) w w7 ∧ b3 + 1 ≤ w7.heap.size) := Lib.hid (by
              have hn := HNB.out
              refine ⟨?_, ?_, ?_, ?_, ?_, ?_⟩
              · exact ((((HC2.out.below (Below.refl _ _).drew).fr HF5.out (fun e => by omega)).fr HF6.out (fun e => by have := hnb _ e; omega)).fr hf7 (fun e => by omega))
              · rw [hw7]; exact (HC35.out.fr HF6.out (fun e => by have := hnb _ e; omega)).set0 _
              · show Row w7 (b3 + 1) 3 1 _ (vals ++ [(m : Int)]).length ((vals ++ [(m : Int)]).map (Value.int .i64))
                rw [List.length_append, HVL.out, List.map_append]
                exact Row.fr HR6.out hf7 fun g hg e => by have := (Row.block_lt HR6.out hg).2; omega
              · exact (HR5.out.fr HF6.out (fun b hb e => by have := hnb _ e; omega)).fr hf7 (fun b hb e => by omega)
              · exact (hx5.then HF6.out fun b e => .inr (by have := hnb _ e; omega)).then hf7 fun b e => .inr (by omega)
              · have h1 := HF6.out.size
                have h2 := hf7.size
                have h3 := HF5.out.size
                have h4 : wr.heap.size ≤ w5.heap.size := h3
                have := HSZ.out
                omega)
            rw [← hw7]
            clear hw7 hf7 hx5 hnb x0 xf0
            go_wp2
            go_roundg (k - (j + 1))
            case measure => omega
            case rel =>
              obtain ⟨i1, i2, i3, i4, i5, i6⟩ := HINV.out
              refine ⟨j + 1, a6, c6, vals ++ [(m : Int)], l2, bad2, by omega, rfl, by go_num, i1, i2, i3, by rw [List.length_append, HVL.out]; rfl, fun p hp => ?_, i4, HSTEP.out.1, HSTEP.out.2, i5, i6⟩
              rcases List.mem_append.1 hp with hp | hp
              · exact HVB.out p hp
              · rw [List.mem_singleton] at hp; rw [hp]; have := HM5.out; omega
        · have hjk := show j = k by omega
          subst hjk
          have hnr : RS wr br l' bad' := HRS.out
          have HNUM := Lib.hid (rnum_val br l' bad' wr hnr)
          obtain ⟨t, ht⟩ : ∃ t, t = (nV l' bad').1 := ⟨_, rfl⟩
          obtain ⟨l2, hl2⟩ : ∃ l2, l2 = (nV l' bad').2.1 := ⟨_, rfl⟩
          obtain ⟨bad2, hb2⟩ : ∃ bad2, bad2 = (nV l' bad').2.2 := ⟨_, rfl⟩
          rw [← ht, ← hl2, ← hb2] at HNUM
          have HBAD : Hid (bad2 = true → comR l = none) := Lib.hid (fun hb => by
            unfold comR
            rw [HK.out]
            simp only
            rw [if_neg (by omega)]
            cases hbb : bad' with
            | true => rw [HJT.out hbb]
            | false =>
              rw [HJF.out hbb]
              simp only
              rw [hb2, hbb] at hb
              unfold nV at hb
              cases hn : numR l' with
              | none => rfl
              | some y => rw [hn] at hb; simp at hb)
          have HGOOD : Hid (bad2 = false → comR l = match tb l2 200 with
              | .inl _ => none
              | .inr (r, q) => some ((vals, (t : Int), strN r), l2.drop q)) := Lib.hid (fun hb => by
            unfold comR
            rw [HK.out]
            simp only
            rw [if_neg (by omega)]
            rw [hb2] at hb
            rw [ht, hl2]
            unfold nV at hb ⊢
            cases hn : numR l' with
            | none => rw [hn] at hb; simp at hb
            | some y =>
              obtain ⟨n, r⟩ := y
              rw [hn] at hb
              simp only at hb
              rw [HJF.out hb]
              simp only
              rw [hn]
              rfl)
          clear ht hl2 hb2 hnr hc2 hc3 hown hrs hvl
          go_wp2_with fail
          refine HNUM.out.mono ?_
          rintro e w5 ⟨rfl, hf5, hr5, ht5⟩
          have HC25 := Lib.hid (HC2.out.fr hf5 (fun e => by have := HNB.out; omega))
          have hc35 := HC3.out.fr hf5 (fun e => by have := HNB.out; omega)
          obtain ⟨w6, hw6⟩ : ∃ w6, w6 = w5.setCell ⟨b3, 1, none⟩ (.int .i64 (t : Int)) := ⟨_, rfl⟩
          have hf6 : Fr (fun b => b = b3) w5 w6 := by rw [hw6]; exact fr1
          have HC36 : Hid (CB w6 b3 (.slice ra j rc) (t : Int) ⟨#[]⟩) := Lib.hid (by rw [hw6]; exact hc35.set1 _)
          have HC26 := Lib.hid (HC25.out.fr hf6 (fun e => by have := HNB.out; omega))
          have HR6 := Lib.hid (hr5.fr hf6 (fun b hb e => by have := HNB.out; omega))
          have HX6 : Hid (Fr (fun b => b = br) w w6) := Lib.hid ((HX.out.trans hf5).then hf6 fun b e => .inr (by have := HNB.out; omega))
          have HO6 : Hid (Own w6 (b3 + 1) 3 .i64 (.slice ra j rc) vals) := Lib.hid (Row.fr (Row.fr HO.out hf5 fun g hg e => by have := (Row.block_lt HO.out hg).2; have := HNB.out; omega) hf6 fun g hg e => by have := (Row.block_lt HO.out hg).2; omega)
          have HW6 := Lib.hid hw6
          have HT5 := Lib.hid ht5
          have hx1 := hc35.c1
          have hxf := hc35.fz 1
          have HTI : Hid ((t : Int) ≤ 9223372036854775807) := Lib.hid (by omega)
          clear hf5 hr5 ht5 hc35 hw6 hf6 HNUM HC25
          go_upto_region 11 with fail
          rw [← HW6.out]
          clear hx1 hxf
          have hc1 := HR6.out.c1
          cases bad2 with
          | true =>
            go_upto_region 12 with fail
            clear hc1
            obtain ⟨y0, y1, y2, yf⟩ := HC26.out
            obtain ⟨z0, z1, z2, zf⟩ := HC36.out
            have yf0 := yf 0
            have yf1 := yf 1
            have yf2 := yf 2
            clear yf zf
            go_wp2
            have hout := com_out (v := .slice ra j rc) (t := (t : Int)) (s := ⟨#[]⟩) HX6.out HNB.out.2.2.1 HR6.out HNB.out.2.2.2.2
            exact bodyPost_ret (v := .agg #[.slice ra j rc, .int .i64 (t : Int), .string ⟨#[]⟩]) (by simp [results, Try.results50, go_sem, y0, y1, y2]) rfl ⟨ra, j, rc, (t : Int), ⟨#[]⟩, rfl, hout.1, .inr ⟨HBAD.out (by first | rfl | trivial), _, hout.2.2⟩⟩
          | false =>
            have hgood := HGOOD.out rfl
            obtain ⟨qa, qn, qc, hq0, hqr, hqc, hqn⟩ := HR6.out.ex
            have HQR := Lib.hid hqr
            have HRB := Lib.hid HR6.out.fail
            cases htb : tb l2 200 with
            | inl k9 =>
              rw [htb] at hgood
              have HCR := Lib.hid hgood
              have HTE := Lib.hid (takeBytes_err qa qn qc l2 200 w6 hqr.rd (by decide) (by decide) k9 htb)
              have hf1 := HR6.out.fz 1
              clear hgood htb hqr
              go_wp2_with fail
              refine HTE.out.mono ?_
              rintro e w7 ⟨rfl, rfl⟩
              go_upto_region 16 with fail
              obtain ⟨w8, hw8⟩ : ∃ w8, w8 = w6.setCell ⟨br, 1, none⟩ (.bool true) := ⟨_, rfl⟩
              have HC28 := Lib.hid (HC26.out.fr HRB.out.2 (fun e => by have := HNB.out; omega))
              have HC38 := Lib.hid (HC36.out.fr HRB.out.2 (fun e => by have := HNB.out; omega))
              have HX8 := Lib.hid (HX6.out.trans HRB.out.2)
              rw [← hw8] at HRB HC28 HC38 HX8 ⊢
              clear hw8 hc1 hq0 hf1
              obtain ⟨y0, y1, y2, yf⟩ := HC28.out
              obtain ⟨z0, z1, z2, zf⟩ := HC38.out
              have yf0 := yf 0
              have yf1 := yf 1
              have yf2 := yf 2
              clear yf zf
              go_wp2
              have hout := com_out (v := .slice ra j rc) (t := (t : Int)) (s := ⟨#[]⟩) HX8.out HNB.out.2.2.1 HRB.out.1 HNB.out.2.2.2.2
              exact bodyPost_ret (v := .agg #[.slice ra j rc, .int .i64 (t : Int), .string ⟨#[]⟩]) (by simp [results, Try.results50, go_sem, y0, y1, y2]) rfl ⟨ra, j, rc, (t : Int), ⟨#[]⟩, rfl, hout.1, .inr ⟨HCR.out, _, hout.2.2⟩⟩
            | inr y9 =>
              obtain ⟨r9, q9⟩ := y9
              rw [htb] at hgood
              have HCR := Lib.hid hgood
              have HTO := Lib.hid (takeBytes_ok qa qn qc l2 200 w6 hqr.rd hqc hqn (by decide) (by decide) r9 q9 htb)
              have hq9 : q9 ≤ qn := by
                have hl9 := hqr.rd.len
                unfold tb at htb
                cases hk9 : tk l2 with
                | none => rw [hk9] at htb; cases htb
                | some y =>
                  obtain ⟨v9, u9⟩ := y
                  rw [hk9] at htb
                  simp only at htb
                  obtain ⟨m9, rfl, _, _, hu9, _⟩ := tk_inv (fun x hx => by
                    have := hqr.rd.wf x hx
                    simp [Lit.wf, IntKind.min, IntKind.max, IntKind.signed, IntKind.bits] at this
                    omega) hk9
                  split at htb
                  · cases htb
                  · split at htb
                    · cases htb
                    · simp only [Sum.inr.injEq, Prod.mk.injEq, Int.toNat_natCast] at htb
                      omega
              have HR9 : Hid (∀ x ∈ r9, 0 ≤ x ∧ x ≤ 255) := Lib.hid (tb_inv (fun x hx => by
                have := hqr.rd.wf x hx
                simp [Lit.wf, IntKind.min, IntKind.max, IntKind.signed, IntKind.bits] at this
                omega) htb).2.2
              clear hgood htb
              go_wp2_with fail
              refine HTO.out.mono ?_
              rintro e w7 ⟨ta, tc, rfl, hto, hb7⟩
              obtain ⟨ca, hca, hcut⟩ := cutF (c := qc) (HQR.out.below hb7) hq9 hqc
              have HR7 := Lib.hid ((HR6.out.below hb7).rest hca (c := qc - q9) (by omega) (by omega))
              have hq07 := below_cell hb7 hq0
              have hf07 := (HR6.out.below hb7).fz 0
              have HC27 := Lib.hid ((HC26.out.below hb7).fr HR7.out.2 (fun e => by have := HNB.out; omega))
              have HC37 := Lib.hid ((HC36.out.below hb7).fr HR7.out.2 (fun e => by have := HNB.out; omega))
              have HX7 := Lib.hid (HX6.out.trans ((Fr.of_below hb7).trans HR7.out.2))
              have HO7 : Hid (Own _ (b3 + 1) 3 .i64 (.slice ra j rc) vals) := Lib.hid (Row.fr (Own.below HO6.out hb7) HR7.out.2 fun g hg e => by have := (Row.block_lt HO6.out hg).2; have := HNB.out; omega)
              have hwt : Row w7 w6.heap.size 5 1 (.slice ta r9.length tc) r9.length (r9.map (Value.int .u8)) := hto
              have hrd7 := Own.rd (base := w6.heap.size) (e := 5) (k := .u8) (l := r9) (Row.fr hwt HR7.out.2 fun g hg e => by have := (Row.block_lt hwt hg).2; have := HR6.out.lt; omega) (fun x hx => WalkArith.wf_u8 (HR9.out x hx))
              have HRD7 := Lib.hid hrd7
              clear hto hca hwt hrd7 hqr hc1 hq0
              go_upto_region 18 with fail
              obtain ⟨w8, hw8⟩ : ∃ w8, w8 = w7.setCell ⟨br, 0, none⟩ (.slice ca (qn - q9) (qc - q9)) := ⟨_, rfl⟩
              rw [← hw8] at HR7 HC27 HC37 HX7 HO7 HRD7 ⊢
              clear hw8 hq07 hf07 hcut
              have hcs := run_str (P := Try.prog) w8 tc HRD7.out rfl 66 9 _ Try.underlying66 Try.underlying5 Try.underlying9
              rw [show Go.strOfNums r9 = strN r9 from rfl] at hcs
              have z2 := HC37.out.c2
              have zf2 := HC37.out.fz 2
              have hf9 : Fr (fun b => b = b3) w8 (w8.setCell ⟨b3, 2, none⟩ (.string (strN r9))) := fr1
              have HC29 := Lib.hid (HC27.out.fr hf9 (fun e => by have := HNB.out; omega))
              have HC39 := Lib.hid (HC37.out.set2 (strN r9))
              have HR9b := Lib.hid (HR7.out.1.fr hf9 (fun b hb e => by have := HNB.out; omega))
              have HX9 : Hid (Fr (fun b => b = br) w _) := Lib.hid (HX7.out.then hf9 fun b e => .inr (by have := HNB.out; omega))
              have HO9 : Hid (Own _ (b3 + 1) 3 .i64 (.slice ra j rc) vals) := Lib.hid (Row.fr HO7.out hf9 fun g hg e => by have := (Row.block_lt HO7.out hg).2; omega)
              clear hf9
              go_upto_region 19 with fail
              obtain ⟨w9, hw9⟩ : ∃ w9, w9 = w8.setCell ⟨b3, 2, none⟩ (.string (strN r9)) := ⟨_, rfl⟩
              rw [← hw9] at HC29 HC39 HR9b HX9 HO9 ⊢
              clear hw9 hcs z2 zf2
              obtain ⟨y0, y1, y2, yf⟩ := HC29.out
              obtain ⟨z0, z1, z2, zf⟩ := HC39.out
              have yf0 := yf 0
              have yf1 := yf 1
              have yf2 := yf 2
              clear yf zf
              go_wp2
              have hout := com_out (v := .slice ra j rc) (t := (t : Int)) (s := (strN r9)) HX9.out HNB.out.2.2.1 HR9b.out HNB.out.2.2.2.2
              refine bodyPost_ret (v := .agg #[.slice ra j rc, .int .i64 (t : Int), .string (strN r9)]) (by simp [results, Try.results50, go_sem, y0, y1, y2]) rfl ⟨ra, j, rc, (t : Int), (strN r9), rfl, hout.1, .inl ⟨(vals, (t : Int), strN r9), l2.drop q9, HCR.out, ?_, rfl, rfl, hout.2.2⟩⟩
              have ho := Row.fr HO9.out hout.2.1 fun g hg e => by have := (Row.block_lt HO9.out hg).2; have := HNB.out; omega
              have e9 := HVL.out
              subst e9
              exact own_par (T := fun b => w.heap.size ≤ b) ho (fun p hp => WalkArith.wf_i64 (by have := HVB.out p hp; omega)) (fun g h1 _ => by have := HNB.out; omega)
  · have HCR : Hid (comR l = none) := Lib.hid (by unfold comR; rw [hk])
    have hc1 := hrs.c1
    have hfz1 := hrs.fz 1
    have HRS := Lib.hid hrs.fail
    have HC24 := Lib.hid (HC23.out.fr hrs.fail.2 (fun e => by have := HNB.out; omega))
    have HC34 := Lib.hid (HC33.out.fr hrs.fail.2 (fun e => by have := HNB.out; omega))
    have HX4 := Lib.hid (HX3.out.trans hrs.fail.2)
    clear hrs hk
    go_upto_region 5 with fail
    obtain ⟨w4, hw4⟩ : ∃ w4, w4 = w3.setCell ⟨br, 1, none⟩ (.bool true) := ⟨_, rfl⟩
    rw [← hw4] at HRS HC24 HC34 HX4 ⊢
    clear hc1 hfz1 hw4
    obtain ⟨y0, y1, y2, yf⟩ := HC24.out
    obtain ⟨z0, z1, z2, zf⟩ := HC34.out
    have yf0 := yf 0
    have yf1 := yf 1
    have yf2 := yf 2
    clear yf zf
    go_wp2
    have hout := com_out (v := .slice none 0 0) (t := 0) (s := ⟨#[]⟩) HX4.out HNB.out.2.2.1 HRS.out.1 HNB.out.2.2.2.2
    exact bodyPost_ret (v := .agg #[.slice none 0 0, .int .i64 0, .string ⟨#[]⟩]) (by simp [results, Try.results50, go_sem, y0, y1, y2]) rfl ⟨none, 0, 0, 0, ⟨#[]⟩, rfl, hout.1, .inr ⟨HCR.out, _, hout.2.2⟩⟩

end Go.Proofs.Ytoakelgjofdmpaa
