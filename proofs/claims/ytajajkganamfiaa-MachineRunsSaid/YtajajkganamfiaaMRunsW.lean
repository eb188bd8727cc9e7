/-
  the walk of MachineRuns: for any machine, state and text that can be read it returns true and writes nothing that was there.
-/
import Derived.Test.YtajajkganamfiaaMShortW
import Derived.Deep.AppendLies
import Derived.Deep.RegionHeld3
namespace Go.Proofs.Ytajajkganamfiaa
open Go.RowKit

/-- append of a readable slice to one of the call's own, at a step of a region that draws its order -/
theorem step_app_rd {P : Program} {w : World} {ops : Array Oper} {o : Oper} {a : Act} {K : Act → World → Prop} {Q : Exit → Act → World → Prop} {G : Prop} (s x : Operand) {t e : TypeId} {k : IntKind} {bytes : Nat} (E : Elt P t e k bytes)
    (hgd : o.guard = none) (ho : o.op = .call { callee := .builtin .append, args := #[s, x], argTypes := #[t, t] })
    (base : Nat) (v : Value) (l : List Int) (hs : a.eval s = v) (hown : Own w base e k v l) (ad : Option Addr) (m c : Nat) (l2 : List Int) (hx : a.eval x = .slice ad m c) (hr : Rd w k ad m l2)
    (hlen : (l.length + l2.length) * bytes ≤ 140737488355328) (hpos : 0 < bytes) (hbase : base ≤ w.heap.size)
    (h : ∀ a' c' w', Own w' base e k (.slice a' (l ++ l2).length c') (l ++ l2) → w.grownBy w' v.ownBlock → K (a.put o.dst (.slice a' (l ++ l2).length c')) w') : if Region.wanted o (yielded ops a.tmps) = true then Oper.wp P o a w K Q else G := by
  have hw : Region.wanted o (yielded ops a.tmps) = true := by simp [Region.wanted, hgd]
  rw [if_pos hw]
  obtain ⟨i, hi, hz, hsz, hby⟩ := E.hi
  have hm : m = l2.length := hr.len.symm
  have hb2 : (l.length + l2.length) ≤ 140737488355328 := Nat.le_trans (Nat.le_mul_of_pos_right _ hpos) hlen
  cases ad with
  | some ad =>
    obtain ⟨v', w', hrun, h2, h3, _, _⟩ := run_append_own_at (P := P) w base t o.type e i (.int k 0) 1 bytes E.ht hi hz hsz hby rfl (by decide) v l.length (l.map (Value.int k)) hown ad m c (l2.map (Value.int k)) (by simp [hm]) hr.news (ints_oneCell k l2)
      (by unfold maxLen; omega) (by rw [hm]; exact hlen) hbase
    have ho2 : Own w' base e k v' (l ++ l2) := by
      unfold Own
      rw [List.map_append, List.length_append, ← hm]; exact h2
    obtain ⟨a', c', rfl⟩ := ho2.form
    unfold Oper.wp execOp
    simp only [ho, resolve, invoke, builtin, Sem.run_bind, Sem.run_pure, Result.andThen_ok, List.map_toArray, List.map_cons, List.map_nil, hs, hx, hrun]
    exact h a' c' w' ho2 h3
  | none =>
    have h0 : m = 0 := by
      rcases Nat.eq_zero_or_pos m with h0 | h0
      · exact h0
      · obtain ⟨b, off, ha, _⟩ := hr.cell 0 h0; cases ha
    subst h0
    have hl2 : l2 = [] := List.eq_nil_of_length_eq_zero hm.symm
    subst hl2
    have hrun : (Builtin.append_ #[t, t] o.type #[v, .slice none 0 c]).run P w = .ok v w := by
      rcases hown.2 with ⟨rfl, h0⟩ | ⟨g, cap, cur, rfl, _, _, hnc, _⟩
      · simp [Builtin.append_, run_underlying E.ht, sizeOf, typeInfo, hi, Builtin.lenOf, Builtin.firstCells]
      · simp [Builtin.append_, run_underlying E.ht, sizeOf, typeInfo, hi, Builtin.lenOf, Builtin.firstCells, hnc, storeCells]
    unfold Oper.wp execOp
    simp only [ho, resolve, invoke, builtin, Sem.run_bind, Sem.run_pure, Result.andThen_ok, List.map_toArray, List.map_cons, List.map_nil, hs, hx, hrun]
    obtain ⟨a', c', rfl⟩ := hown.form
    have := h a' c' w (by simpa using hown) (World.grownBy.refl _ _)
    simpa [Oper.upon] using this

set_option maxRecDepth 100000 in
set_option maxHeartbeats 4000000 in
theorem walk_MachineRuns (s : Int) (ac : Option Addr) (nc cc : Nat) (an : Option Addr) (nn cn : Nat) (aa : Option Addr) (na ca : Nat) (cls : List Int) (next : List (List Int)) (acc : List Bool) (q : Int) (at_ : Option Addr) (nt ct : Nat) (l : List Int) (w : World)
    (hm : RdM w ac nc an nn aa na cls next acc) (_hq : (Lit.int .i64 q).wf = true) (hr : Rd w .u8 at_ nt l) (hn : nt * 1 ≤ 140737488351232) (_hc : nt ≤ ct) :
    Calls Try.prog 4 #[.agg #[.int .i64 s, .slice ac nc cc, .slice an nn cn, .slice aa na ca], .int .i64 q, .slice at_ nt ct] w fun e w' => e = .returned (.bool true) ∧ Below w.heap.size w w' := by
  obtain ⟨w0, hw0⟩ : ∃ w0, w0 = w.alloc (.cells #[.int .i64 s, .slice ac nc cc, .slice an nn cn, .slice aa na ca] 26) := ⟨_, rfl⟩
  have HB0 := Lib.hid (show Below w.heap.size w w0 by rw [hw0]; exact below_alloc _ _)
  have HM0 := Lib.hid (hm.below HB0.out)
  have HX0 : Hid (w0.cell? ⟨w.heap.size, 0, none⟩ = some (.int .i64 s)) := Lib.hid (by rw [hw0]; simp)
  have HX1 : Hid (w0.cell? ⟨w.heap.size, 1, none⟩ = some (.slice ac nc cc)) := Lib.hid (by rw [hw0]; simp)
  have HX2 : Hid (w0.cell? ⟨w.heap.size, 2, none⟩ = some (.slice an nn cn)) := Lib.hid (by rw [hw0]; simp)
  have HX3 : Hid (w0.cell? ⟨w.heap.size, 3, none⟩ = some (.slice aa na ca)) := Lib.hid (by rw [hw0]; simp)
  have HW0 := Lib.hid hw0
  have HR0 := Lib.hid (hr.below HB0.out)
  have HL := Lib.hid hr.len
  have HW8 := Lib.hid hr.wf
  have HLn := Lib.hid hm.n.len
  have HLa := Lib.hid hm.a.len
  have hne : ∀ w, (binOp .neq 30 .nilIface .nilIface).run Try.prog w = .ok (.bool false) w := fun w => by kernel_rfl
  have hne2 : ∀ w, (binOp .eql 30 .nilIface .nilIface).run Try.prog w = .ok (.bool true) w := fun w => by kernel_rfl
  clear hm hw0 hr
  cases hs : msmall s cls next acc with
  | false =>
    have HS := Lib.hid hs
    clear hs
    go_enter Try.func4, Try.ntmps4
    go_wp2_with fail
    rw [← HW0.out]
    have x0 := HX0.out
    have x1 := HX1.out
    have x2 := HX2.out
    have x3 := HX3.out
    go_wp2_with fail
    refine (small_false _ _ _ _ _ _ _ _ _ _ _ _ _ _ HM0.out HS.out).mono ?_
    rintro e w1 ⟨rfl, hb1⟩
    have HB1 := Lib.hid hb1
    clear x0 x1 x2 x3 hb1
    go_wp2
    go_ret
    exact ⟨rfl, bthen HB0.out HB1.out⟩
  | true =>
    have HS := Lib.hid hs
    have HV := Lib.hid (msmall_valid hs)
    clear hs
    go_enter Try.func4, Try.ntmps4
    go_wp2_with fail
    rw [← HW0.out]
    have x0 := HX0.out
    have x1 := HX1.out
    have x2 := HX2.out
    have x3 := HX3.out
    go_wp2_with fail
    refine (small_true _ _ _ _ _ _ _ _ _ _ _ _ _ _ HM0.out HS.out).mono ?_
    rintro e w1 ⟨rfl, hb1⟩
    have HB1 := Lib.hid hb1
    have y0 := below_cell hb1 x0
    have y1 := below_cell hb1 x1
    have y2 := below_cell hb1 x2
    have y3 := below_cell hb1 x3
    clear x0 x1 x2 x3 hb1
    have hbd := mrun_bd HV.out l s (fun x hx => bd_u8 (HW8.out x hx)) HV.out.s0 HV.out.s1
    obtain ⟨Q, hQ⟩ := Int.eq_ofNat_of_zero_le hbd.1
    have hQn : Q < na := by have h1 := HV.out.accL; rw [HLa.out] at h1; omega
    have HQ := Lib.hid hQ
    clear hbd hQ
    have HA : Hid (Below w1.heap.size w1 (w1.alloc (.cells #[] 5)).drew) := Lib.hid (Below.alloc (Below.refl w1.heap.size w1) (Nat.le_refl _) _).drew
    go_wp2_with fail
    have hq0 := HX0.out
    by_cases hq : 0 ≤ q ∧ q < nn
    · have HQQ := Lib.hid hq
      clear hq hq0
      go_region_held3 (fun w' => w'.cell? ⟨w.heap.size, 0, none⟩ = some (.int .i64 s) ∧ w'.cell? ⟨w.heap.size, 1, none⟩ = some (.slice ac nc cc) ∧ w'.cell? ⟨w.heap.size, 2, none⟩ = some (.slice an nn cn) ∧ w'.cell? ⟨w.heap.size, 3, none⟩ = some (.slice aa na ca)) (go_keep) (first
        | (go_at_call 14; refine (run_ok _ _ _ _ _ _ _ _ _ _ cls next acc _ _ _ _ l _ (HM0.out.below (bthen HB1.out HB7.out)) HV.out HQQ.out.1 (by rw [HLn.out]; exact HQQ.out.2) (HO7.out.rd HW8.out)).mono ?_; rintro e w8 ⟨rfl, hb8⟩; have u0 := below_cell hb8 z0; have u1 := below_cell hb8 z1; have u2 := below_cell hb8 z2; have u3 := below_cell hb8 z3; have HB8 := Lib.hid hb8; clear z0 z1 z2 z3 hb8)
        | (refine step_app_rd _ _ E8 rfl rfl w1.heap.size _ [] rfl (Own.lits w1 .u8 _ [] _ (Nat.le_refl _) (by simp)).drew _ _ _ l rfl ((HR0.out.below HB1.out).below HA.out) (by rw [HL.out]; simp; omega) (by omega) (by simp) ?_; intro a7 c7 w7 ho7 hg7; have HB7 := Lib.hid (HA.out.trans (grown_below (Own.lits w1 .u8 5 [] w1.heap.size (Nat.le_refl _) (by simp)).drew hg7 (by simp))); have HO7 := Lib.hid ho7; have z0 := below_cell HB7.out y0; have z1 := below_cell HB7.out y1; have z2 := below_cell HB7.out y2; have z3 := below_cell HB7.out y3; clear ho7 hg7 y0 y1 y2 y3))
      have HM8 := Lib.hid (HM0.out.below (bthen HB1.out (bthen HB7.out HB8.out)))
      have HR8 := Lib.hid (HR0.out.below (bthen HB1.out (bthen HB7.out HB8.out)))
      have HB18 := Lib.hid (bthen HB0.out (bthen HB1.out (bthen HB7.out HB8.out)))
      clear HB8 HB7 HO7
      go_wp2_with fail
      refine (accepts_ok _ _ _ _ _ _ _ _ _ _ cls next acc _ _ _ l _ HM8.out HV.out HR8.out).mono ?_
      rintro e w9 ⟨rfl, hb9⟩
      rw [HQ.out, Int.toNat_natCast]
      have x0 := below_cell hb9 u0
      have x1 := below_cell hb9 u1
      have x2 := below_cell hb9 u2
      have x3 := below_cell hb9 u3
      obtain ⟨ab, ao, rfl, hxc⟩ := (HM8.out.a.below hb9).cell Q hQn
      have HB9 := Lib.hid hb9
      clear u0 u1 u2 u3 hb9
      generalize acc.getD Q false = z at *
      go_wp2_with fail
      go_region_held3 (fun w' => w'.cell? ⟨w.heap.size, 0, none⟩ = some (.int .i64 s) ∧ w'.cell? ⟨w.heap.size, 1, none⟩ = some (.slice ac nc cc) ∧ w'.cell? ⟨w.heap.size, 2, none⟩ = some (.slice an nn cn) ∧ w'.cell? ⟨w.heap.size, 3, none⟩ = some (.slice (some ⟨ab, ao, none⟩) na ca) ∧ w'.cell? ⟨ab, ao + Q, none⟩ = some (.bool z)) (go_keep) (first
        | (go_at_call 12; refine (awake_any _).mono ?_; rintro e wa ⟨rfl, hba⟩; have y0 := below_cell (W := w9.drew) hba x0; have y1 := below_cell (W := w9.drew) hba x1; have y2 := below_cell (W := w9.drew) hba x2; have y3 := below_cell (W := w9.drew) hba x3; have y4 := below_cell (W := w9.drew) hba hxc; have HBA := Lib.hid ((Below.refl w9.heap.size w9).drew.trans hba); clear x0 x1 x2 x3 hxc hba)
        | (go_at_call 16; refine (refRun_any _ _ _ _ _ _ _ _ _ _ cls next acc _ _ _ _ l _ (HM8.out.below (bthen HB9.out HBA.out)) HV.out HV.out.s0 HV.out.s1 (HR8.out.below (bthen HB9.out HBA.out))).mono ?_; rintro e wb ⟨rfl, hbb⟩; rw [HQ.out]; have t0 := below_cell (W := wa) hbb y0; have t1 := below_cell (W := wa) hbb y1; have t2 := below_cell (W := wa) hbb y2; have t3 := below_cell (W := wa) hbb y3; have t4 := below_cell (W := wa) hbb y4; have HBBB := Lib.hid hbb; clear hbb y0 y1 y2 y3 y4))
      have HBZ := Lib.hid (bthen HB18.out (bthen HB9.out (bthen HBA.out HBBB.out)))
      have HMZ := Lib.hid (HM8.out.below (bthen HB9.out (bthen HBA.out HBBB.out)))
      have HRZ := Lib.hid (HR8.out.below (bthen HB9.out (bthen HBA.out HBBB.out)))
      obtain ⟨hq1, hq2⟩ := HQQ.out
      have hq3 : decide (q < 0) = false := by simp; omega
      have HQR := Lib.hid (fun w0 (h : RdM w0 ac nc an nn (some ⟨ab, ao, none⟩) na cls next acc) (hr : Rd w0 .u8 at_ nt l) => refRun_any s ac nc cc an nn cn (some ⟨ab, ao, none⟩) na ca cls next acc q at_ nt ct l w0 h HV.out hq1 (by rw [HLn.out]; exact hq2) hr)
      generalize mrun cls next q l = r at *
      go_wp2_with fail
      refine (HQR.out _ HMZ.out HRZ.out).mono ?_
      rintro e wc ⟨rfl, hbc⟩
      have HBC := Lib.hid hbc
      clear hbc t0 t1 t2 t3 t4
      go_wp2
      go_ret
      exact ⟨ret_eq (by simp), bthen HBZ.out HBC.out⟩
    · clear hq0
      rcases (show q < 0 ∨ (0 ≤ q ∧ (nn : Int) ≤ q) by omega) with hq1 | ⟨hq1, hq2⟩
      · have HQQ : Hid (q < 0 ∨ (nn : Int) ≤ q) := Lib.hid (.inl hq1)
        clear hq
        go_region_held3 (fun w' => w'.cell? ⟨w.heap.size, 0, none⟩ = some (.int .i64 s) ∧ w'.cell? ⟨w.heap.size, 1, none⟩ = some (.slice ac nc cc) ∧ w'.cell? ⟨w.heap.size, 2, none⟩ = some (.slice an nn cn) ∧ w'.cell? ⟨w.heap.size, 3, none⟩ = some (.slice aa na ca)) (go_keep) (first
          | (go_at_call 14; refine (run_range _ _ _ _ _ _ _ _ _ _ cls next acc _ _ _ _ _ (HM0.out.below (bthen HB1.out HB7.out)) HV.out HQQ.out).mono ?_; rintro e w8 ⟨rfl, hb8⟩; have u0 := below_cell hb8 z0; have u1 := below_cell hb8 z1; have u2 := below_cell hb8 z2; have u3 := below_cell hb8 z3; have HB8 := Lib.hid hb8; clear z0 z1 z2 z3 hb8)
          | (refine step_app_rd _ _ E8 rfl rfl w1.heap.size _ [] rfl (Own.lits w1 .u8 _ [] _ (Nat.le_refl _) (by simp)).drew _ _ _ l rfl ((HR0.out.below HB1.out).below HA.out) (by rw [HL.out]; simp; omega) (by omega) (by simp) ?_; intro a7 c7 w7 ho7 hg7; have HB7 := Lib.hid (HA.out.trans (grown_below (Own.lits w1 .u8 5 [] w1.heap.size (Nat.le_refl _) (by simp)).drew hg7 (by simp))); have HO7 := Lib.hid ho7; have z0 := below_cell HB7.out y0; have z1 := below_cell HB7.out y1; have z2 := below_cell HB7.out y2; have z3 := below_cell HB7.out y3; clear ho7 hg7 y0 y1 y2 y3))
        have HM8 := Lib.hid (HM0.out.below (bthen HB1.out (bthen HB7.out HB8.out)))
        have HR8 := Lib.hid (HR0.out.below (bthen HB1.out (bthen HB7.out HB8.out)))
        have HB18 := Lib.hid (bthen HB0.out (bthen HB1.out (bthen HB7.out HB8.out)))
        clear HB8 HB7 HO7
        go_wp2_with fail
        refine (accepts_ok _ _ _ _ _ _ _ _ _ _ cls next acc _ _ _ l _ HM8.out HV.out HR8.out).mono ?_
        rintro e w9 ⟨rfl, hb9⟩
        rw [HQ.out, Int.toNat_natCast]
        have x0 := below_cell hb9 u0
        have x1 := below_cell hb9 u1
        have x2 := below_cell hb9 u2
        have x3 := below_cell hb9 u3
        obtain ⟨ab, ao, rfl, hxc⟩ := (HM8.out.a.below hb9).cell Q hQn
        have HB9 := Lib.hid hb9
        clear u0 u1 u2 u3 hb9
        generalize acc.getD Q false = z at *
        go_wp2_with fail
        go_region_held3 (fun w' => w'.cell? ⟨w.heap.size, 0, none⟩ = some (.int .i64 s) ∧ w'.cell? ⟨w.heap.size, 1, none⟩ = some (.slice ac nc cc) ∧ w'.cell? ⟨w.heap.size, 2, none⟩ = some (.slice an nn cn) ∧ w'.cell? ⟨w.heap.size, 3, none⟩ = some (.slice (some ⟨ab, ao, none⟩) na ca) ∧ w'.cell? ⟨ab, ao + Q, none⟩ = some (.bool z)) (go_keep) (first
          | (go_at_call 12; refine (awake_any _).mono ?_; rintro e wa ⟨rfl, hba⟩; have y0 := below_cell (W := w9.drew) hba x0; have y1 := below_cell (W := w9.drew) hba x1; have y2 := below_cell (W := w9.drew) hba x2; have y3 := below_cell (W := w9.drew) hba x3; have y4 := below_cell (W := w9.drew) hba hxc; have HBA := Lib.hid ((Below.refl w9.heap.size w9).drew.trans hba); clear x0 x1 x2 x3 hxc hba)
          | (go_at_call 16; refine (refRun_any _ _ _ _ _ _ _ _ _ _ cls next acc _ _ _ _ l _ (HM8.out.below (bthen HB9.out HBA.out)) HV.out HV.out.s0 HV.out.s1 (HR8.out.below (bthen HB9.out HBA.out))).mono ?_; rintro e wb ⟨rfl, hbb⟩; rw [HQ.out]; have t0 := below_cell (W := wa) hbb y0; have t1 := below_cell (W := wa) hbb y1; have t2 := below_cell (W := wa) hbb y2; have t3 := below_cell (W := wa) hbb y3; have t4 := below_cell (W := wa) hbb y4; have HBBB := Lib.hid hbb; clear hbb y0 y1 y2 y3 y4))
        have HBZ := Lib.hid (bthen HB18.out (bthen HB9.out (bthen HBA.out HBBB.out)))
        have HMZ := Lib.hid (HM8.out.below (bthen HB9.out (bthen HBA.out HBBB.out)))
        have HRZ := Lib.hid (HR8.out.below (bthen HB9.out (bthen HBA.out HBBB.out)))
        clear HQQ
        go_wp2_with fail
        refine (is_errno 1 rfl _).mono ?_
        rintro e wc ⟨rfl, rfl⟩
        clear t0 t1 t2 t3 t4
        go_wp2
        go_ret
        exact ⟨ret_eq (by simp), HBZ.out⟩
      · have HQQ : Hid (q < 0 ∨ (nn : Int) ≤ q) := Lib.hid (.inr hq2)
        have hq3 : decide (q < 0) = false := by simp; omega
        clear hq
        go_region_held3 (fun w' => w'.cell? ⟨w.heap.size, 0, none⟩ = some (.int .i64 s) ∧ w'.cell? ⟨w.heap.size, 1, none⟩ = some (.slice ac nc cc) ∧ w'.cell? ⟨w.heap.size, 2, none⟩ = some (.slice an nn cn) ∧ w'.cell? ⟨w.heap.size, 3, none⟩ = some (.slice aa na ca)) (go_keep) (first
          | (go_at_call 14; refine (run_range _ _ _ _ _ _ _ _ _ _ cls next acc _ _ _ _ _ (HM0.out.below (bthen HB1.out HB7.out)) HV.out HQQ.out).mono ?_; rintro e w8 ⟨rfl, hb8⟩; have u0 := below_cell hb8 z0; have u1 := below_cell hb8 z1; have u2 := below_cell hb8 z2; have u3 := below_cell hb8 z3; have HB8 := Lib.hid hb8; clear z0 z1 z2 z3 hb8)
          | (refine step_app_rd _ _ E8 rfl rfl w1.heap.size _ [] rfl (Own.lits w1 .u8 _ [] _ (Nat.le_refl _) (by simp)).drew _ _ _ l rfl ((HR0.out.below HB1.out).below HA.out) (by rw [HL.out]; simp; omega) (by omega) (by simp) ?_; intro a7 c7 w7 ho7 hg7; have HB7 := Lib.hid (HA.out.trans (grown_below (Own.lits w1 .u8 5 [] w1.heap.size (Nat.le_refl _) (by simp)).drew hg7 (by simp))); have HO7 := Lib.hid ho7; have z0 := below_cell HB7.out y0; have z1 := below_cell HB7.out y1; have z2 := below_cell HB7.out y2; have z3 := below_cell HB7.out y3; clear ho7 hg7 y0 y1 y2 y3))
        have HM8 := Lib.hid (HM0.out.below (bthen HB1.out (bthen HB7.out HB8.out)))
        have HR8 := Lib.hid (HR0.out.below (bthen HB1.out (bthen HB7.out HB8.out)))
        have HB18 := Lib.hid (bthen HB0.out (bthen HB1.out (bthen HB7.out HB8.out)))
        clear HB8 HB7 HO7
        go_wp2_with fail
        refine (accepts_ok _ _ _ _ _ _ _ _ _ _ cls next acc _ _ _ l _ HM8.out HV.out HR8.out).mono ?_
        rintro e w9 ⟨rfl, hb9⟩
        rw [HQ.out, Int.toNat_natCast]
        have x0 := below_cell hb9 u0
        have x1 := below_cell hb9 u1
        have x2 := below_cell hb9 u2
        have x3 := below_cell hb9 u3
        obtain ⟨ab, ao, rfl, hxc⟩ := (HM8.out.a.below hb9).cell Q hQn
        have HB9 := Lib.hid hb9
        clear u0 u1 u2 u3 hb9
        generalize acc.getD Q false = z at *
        go_wp2_with fail
        go_region_held3 (fun w' => w'.cell? ⟨w.heap.size, 0, none⟩ = some (.int .i64 s) ∧ w'.cell? ⟨w.heap.size, 1, none⟩ = some (.slice ac nc cc) ∧ w'.cell? ⟨w.heap.size, 2, none⟩ = some (.slice an nn cn) ∧ w'.cell? ⟨w.heap.size, 3, none⟩ = some (.slice (some ⟨ab, ao, none⟩) na ca) ∧ w'.cell? ⟨ab, ao + Q, none⟩ = some (.bool z)) (go_keep) (first
          | (go_at_call 12; refine (awake_any _).mono ?_; rintro e wa ⟨rfl, hba⟩; have y0 := below_cell (W := w9.drew) hba x0; have y1 := below_cell (W := w9.drew) hba x1; have y2 := below_cell (W := w9.drew) hba x2; have y3 := below_cell (W := w9.drew) hba x3; have y4 := below_cell (W := w9.drew) hba hxc; have HBA := Lib.hid ((Below.refl w9.heap.size w9).drew.trans hba); clear x0 x1 x2 x3 hxc hba)
          | (go_at_call 16; refine (refRun_any _ _ _ _ _ _ _ _ _ _ cls next acc _ _ _ _ l _ (HM8.out.below (bthen HB9.out HBA.out)) HV.out HV.out.s0 HV.out.s1 (HR8.out.below (bthen HB9.out HBA.out))).mono ?_; rintro e wb ⟨rfl, hbb⟩; rw [HQ.out]; have t0 := below_cell (W := wa) hbb y0; have t1 := below_cell (W := wa) hbb y1; have t2 := below_cell (W := wa) hbb y2; have t3 := below_cell (W := wa) hbb y3; have t4 := below_cell (W := wa) hbb y4; have HBBB := Lib.hid hbb; clear hbb y0 y1 y2 y3 y4))
        have HBZ := Lib.hid (bthen HB18.out (bthen HB9.out (bthen HBA.out HBBB.out)))
        have HMZ := Lib.hid (HM8.out.below (bthen HB9.out (bthen HBA.out HBBB.out)))
        have HRZ := Lib.hid (HR8.out.below (bthen HB9.out (bthen HBA.out HBBB.out)))
        clear HQQ
        go_wp2_with fail
        refine (is_errno 1 rfl _).mono ?_
        rintro e wc ⟨rfl, rfl⟩
        clear t0 t1 t2 t3 t4
        go_wp2
        go_ret
        exact ⟨ret_eq (by simp), HBZ.out⟩

end Go.Proofs.Ytajajkganamfiaa
