/-
  SyntaxTrees: the walk.
-/
import Derived.Test.YtpabngicbfcdkaaTr3
import Derived.Test.YtpabngicbfcdkaaSamW
import Derived.Test.YtpabngicbfcdkaaSizeX
import Derived.Test.YtpabngicbfcdkaaAwk
namespace Go.Proofs.Ytpabngicbfcdkaa
open Go.RowKit
set_option linter.unusedVariables false
set_option linter.unusedSimpArgs false

theorem RdI.mono {w : World} {T T' : Nat → Prop} {a l} (h : RdI w T a l) (hT : ∀ i, T i → T' i) : RdI w T' a l :=
  ⟨h.max, fun j y hy => by
    obtain ⟨b, off, ha, hT0, hc⟩ := h.cell j y hy
    exact ⟨b, off, ha, hT b hT0, hc⟩, h.wf⟩
theorem RdN.mono {w : World} {T T' : Nat → Prop} {a n L} (h : RdN w T a n L) (hT : ∀ i, T i → T' i) : RdN w T' a n L :=
  ⟨h.len, h.max, fun i x hx => by
    obtain ⟨b, off, aa, cc, ha, hT0, c0, c1, c2, c3, hI⟩ := h.cell i x hx
    exact ⟨b, off, aa, cc, ha, hT b hT0, c0, c1, c2, c3, hI.mono hT⟩⟩

set_option maxRecDepth 100000 in
set_option maxHeartbeats 4000000 in
theorem walk_SyntaxTrees (a0 : Option Addr) (len0 cap0 : Nat) (l0 : List Nd) (a1 : Option Addr) (len1 cap1 : Nat) (l1 : List Nd) (W : World)
    (h0 : RdN W (fun b => b < W.heap.size) a0 len0 l0) (s0 : ∀ x ∈ l0, x.2.1.size ≤ 9223372036854775807) (h1 : RdN W (fun b => b < W.heap.size) a1 len1 l1) (s1 : ∀ x ∈ l1, x.2.1.size ≤ 9223372036854775807) :
    Calls Try.prog 6 #[.slice a0 len0 cap0, .slice a1 len1 cap1] W fun e W' => e = .returned (.bool true) ∧ Below W.heap.size W W' := by
  have HT1 := Lib.hid (Tree_any (fun _ _ _ => true) rfl l0 (fun _ _ => rfl) a0 len0 cap0 W h0)
  have HT2 : Hid (∀ wx, Below W.heap.size W wx → Calls Try.prog 16 #[.slice a1 len1 cap1] wx (TreeRet (fun _ _ _ => true) wx)) := Lib.hid (fun wx hb => Tree_any (fun _ _ _ => true) rfl l1 (fun _ _ => rfl) a1 len1 cap1 wx ((h1.below hb).mono (fun i hi => Nat.lt_of_lt_of_le hi hb.size)))
  clear h0 h1 s0 s1
  go_enter Try.func6, Try.ntmps6
  go_upto_region 2 with (go_at_call 16; refine HT1.out.mono ?_; rintro e w1 ⟨t, a1', c1', ok1, rfl, hc1, hr1, hs1, -, hb1⟩; simp only [exV])
  obtain ⟨wa, hwa⟩ : ∃ wa, wa = w1.alloc (.cells #[.int .i64 t.kind, .string t.text, .int .i64 t.num, .slice a1' t.args.length c1'] 38) := ⟨_, rfl⟩
  rw [← hwa]
  obtain ⟨ba, hba⟩ : ∃ ba, ba = w1.heap.size := ⟨_, rfl⟩
  rw [← hba]
  have HBA : Hid (Below w1.heap.size w1 wa) := Lib.hid (by rw [hwa]; exact below_alloc _ _)
  have HEA : Hid (EC wa ba t a1' c1') := Lib.hid (by rw [hwa, hba]; exact alloc_ec _ _ _ _ _)
  have HBWA : Hid (Below W.heap.size W wa) := Lib.hid (bthen hb1 HBA.out)
  have HRA := Lib.hid (hr1.below HBA.out)
  have HC1 := Lib.hid hc1
  have HS1 := Lib.hid hs1
  clear hwa hba hc1 hr1 hs1 hb1
  go_upto_region 3 with (go_at_call 16; refine (HT2.out _ HBWA.out).mono ?_; rintro e w2 ⟨u, a2', c2', ok2, rfl, hc2, hr2, hs2, -, hb2⟩; simp only [exV])
  obtain ⟨wb, hwb⟩ : ∃ wb, wb = w2.alloc (.cells #[.int .i64 u.kind, .string u.text, .int .i64 u.num, .slice a2' u.args.length c2'] 38) := ⟨_, rfl⟩
  rw [← hwb]
  obtain ⟨bb, hbb⟩ : ∃ bb, bb = w2.heap.size := ⟨_, rfl⟩
  rw [← hbb]
  have HBB : Hid (Below w2.heap.size w2 wb) := Lib.hid (by rw [hwb]; exact below_alloc _ _)
  have HEB : Hid (EC wb bb u a2' c2') := Lib.hid (by rw [hwb, hbb]; exact alloc_ec _ _ _ _ _)
  have HAB : Hid (Below wa.heap.size wa wb) := Lib.hid (bthen hb2 HBB.out)
  have HBWB : Hid (Below W.heap.size W wb) := Lib.hid (bthen HBWA.out HAB.out)
  have HRB := Lib.hid (hr2.below HBB.out)
  have HEA2 := Lib.hid (HEA.out.below HAB.out)
  have HRA2 := Lib.hid (HRA.out.below HAB.out)
  have HC2 := Lib.hid hc2
  have HS2 := Lib.hid hs2
  clear hwb hbb hc2 hr2 hs2 hb2 HEA HRA
  cases ok1 with
  | false =>
    go_wp2
    go_ret
    exact ⟨rfl, HBWB.out⟩
  | true =>
    cases ok2 with
    | false =>
      go_wp2
      go_ret
      exact ⟨rfl, HBWB.out⟩
    | true =>
      have hts := HS1.out rfl
      have hus := HS2.out rfl
      obtain ⟨q, hq⟩ : ∃ q, q = exq t u := ⟨_, rfl⟩
      have hq' : exq u t = q := by rw [hq, exq_comm]
      obtain ⟨n, hn⟩ : ∃ n, n = t.size := ⟨_, rfl⟩
      obtain ⟨k1, hk1⟩ : ∃ k, k = t.kind := ⟨_, rfl⟩
      obtain ⟨x1, hx1⟩ : ∃ k, k = t.text := ⟨_, rfl⟩
      obtain ⟨m1, hm1⟩ : ∃ k, k = t.num := ⟨_, rfl⟩
      obtain ⟨n1, hn1⟩ : ∃ k, k = t.args.length := ⟨_, rfl⟩
      obtain ⟨k2, hk2⟩ : ∃ k, k = u.kind := ⟨_, rfl⟩
      obtain ⟨x2, hx2⟩ : ∃ k, k = u.text := ⟨_, rfl⟩
      obtain ⟨m2, hm2⟩ : ∃ k, k = u.num := ⟨_, rfl⟩
      obtain ⟨n2, hn2⟩ : ∃ k, k = u.args.length := ⟨_, rfl⟩
      have HSZ : Hid (∀ wx, Below wb.heap.size wb wx → Calls Try.prog 14 #[.agg #[.int .i64 k1, .string x1, .int .i64 m1, .slice a1' n1 c1']] wx fun e w' => e = .returned (.int .i64 (n : Nat)) ∧ Below wx.heap.size wx w') := Lib.hid (fun wx hb => by
        rw [hk1, hx1, hm1, hn1, hn]; exact size_any _ t a1' c1' wx (HRA2.out.below hb) HC1.out (by omega))
      have HRZ : Hid (∀ wx, Below wb.heap.size wb wx → Calls Try.prog 17 #[.agg #[.int .i64 k1, .string x1, .int .i64 m1, .slice a1' n1 c1']] wx fun e w' => e = .returned (.int .i64 (n : Nat)) ∧ Below wx.heap.size wx w') := Lib.hid (fun wx hb => by
        rw [hk1, hx1, hm1, hn1, hn]; exact rsize_any t.size _ t a1' c1' wx (Nat.le_refl _) (by omega) (HRA2.out.below hb))
      have HSAB : Hid (∀ wx, Below wb.heap.size wb wx → Calls Try.prog 18 #[.agg #[.int .i64 k1, .string x1, .int .i64 m1, .slice a1' n1 c1'], .agg #[.int .i64 k2, .string x2, .int .i64 m2, .slice a2' n2 c2']] wx fun e w' => e = .returned (.bool q) ∧ Below wx.heap.size wx w') := Lib.hid (fun wx hb => by
        rw [hk1, hx1, hm1, hn1, hk2, hx2, hm2, hn2, hq]; exact same_any _ _ t u a1' a2' c1' c2' wx (HRA2.out.below hb) HC1.out (HRB.out.below hb) HC2.out (by omega) (by omega))
      have HSAA : Hid (∀ wx, Below wb.heap.size wb wx → Calls Try.prog 18 #[.agg #[.int .i64 k1, .string x1, .int .i64 m1, .slice a1' n1 c1'], .agg #[.int .i64 k1, .string x1, .int .i64 m1, .slice a1' n1 c1']] wx fun e w' => e = .returned (.bool true) ∧ Below wx.heap.size wx w') := Lib.hid (fun wx hb => by
        rw [hk1, hx1, hm1, hn1, ← exq_self t]; exact same_any _ _ t t a1' a1' c1' c1' wx (HRA2.out.below hb) HC1.out (HRA2.out.below hb) HC1.out (by omega) (by omega))
      have HSBA : Hid (∀ wx, Below wb.heap.size wb wx → Calls Try.prog 18 #[.agg #[.int .i64 k2, .string x2, .int .i64 m2, .slice a2' n2 c2'], .agg #[.int .i64 k1, .string x1, .int .i64 m1, .slice a1' n1 c1']] wx fun e w' => e = .returned (.bool q) ∧ Below wx.heap.size wx w') := Lib.hid (fun wx hb => by
        rw [hk1, hx1, hm1, hn1, hk2, hx2, hm2, hn2, ← hq']; exact same_any _ _ u t a2' a1' c2' c1' wx (HRB.out.below hb) HC2.out (HRA2.out.below hb) HC1.out (by omega) (by omega))
      have HRAB : Hid (∀ wx, Below wb.heap.size wb wx → Calls Try.prog 13 #[.agg #[.int .i64 k1, .string x1, .int .i64 m1, .slice a1' n1 c1'], .agg #[.int .i64 k2, .string x2, .int .i64 m2, .slice a2' n2 c2']] wx fun e w' => e = .returned (.bool q) ∧ Below wx.heap.size wx w') := Lib.hid (fun wx hb => by
        rw [hk1, hx1, hm1, hn1, hk2, hx2, hm2, hn2, hq]; exact rsame_any t.size _ _ t u a1' a2' c1' c2' wx (Nat.le_refl _) (by omega) (by omega) (HRA2.out.below hb) (HRB.out.below hb))
      obtain ⟨y0, y1, y2, y3, -⟩ := HEA2.out
      obtain ⟨z0, z1, z2, z3, -⟩ := HEB.out
      rw [← hk1] at y0
      rw [← hx1] at y1
      rw [← hm1] at y2
      rw [← hn1] at y3
      rw [← hk2] at z0
      rw [← hx2] at z1
      rw [← hm2] at z2
      rw [← hn2] at z3
      have HCL : Hid (∀ wx, Below wb.heap.size wb wx → wx.cell? ⟨ba, 0, none⟩ = some (.int .i64 k1) ∧ wx.cell? ⟨ba, 1, none⟩ = some (.string x1) ∧ wx.cell? ⟨ba, 2, none⟩ = some (.int .i64 m1) ∧ wx.cell? ⟨ba, 3, none⟩ = some (.slice a1' n1 c1') ∧ wx.cell? ⟨bb, 0, none⟩ = some (.int .i64 k2) ∧ wx.cell? ⟨bb, 1, none⟩ = some (.string x2) ∧ wx.cell? ⟨bb, 2, none⟩ = some (.int .i64 m2) ∧ wx.cell? ⟨bb, 3, none⟩ = some (.slice a2' n2 c2')) := Lib.hid (fun wx hb => ⟨below_cell hb y0, below_cell hb y1, below_cell hb y2, below_cell hb y3, below_cell hb z0, below_cell hb z1, below_cell hb z2, below_cell hb z3⟩)
      have hn9 : (n : Int) ≤ 300 := by omega
      clear hq hq' hn hk1 hx1 hm1 hn1 hk2 hx2 hm2 hn2 hts hus
      go_wp2
      go_region_held3 (fun wx => wx.cell? ⟨ba, 0, none⟩ = some (.int .i64 k1) ∧ wx.cell? ⟨ba, 1, none⟩ = some (.string x1) ∧ wx.cell? ⟨ba, 2, none⟩ = some (.int .i64 m1) ∧ wx.cell? ⟨ba, 3, none⟩ = some (.slice a1' n1 c1') ∧ wx.cell? ⟨bb, 0, none⟩ = some (.int .i64 k2) ∧ wx.cell? ⟨bb, 1, none⟩ = some (.string x2) ∧ wx.cell? ⟨bb, 2, none⟩ = some (.int .i64 m2) ∧ wx.cell? ⟨bb, 3, none⟩ = some (.slice a2' n2 c2')) (go_keep) (first
        | (go_at_call 9; refine (awake_any _).mono ?_; rintro e w3 ⟨rfl, hb3⟩; have HB3 : Hid (Below wb.heap.size wb w3) := Lib.hid ((Below.refl _ _).drew.trans hb3); obtain ⟨y0, y1, y2, y3, z0, z1, z2, z3⟩ := HCL.out w3 HB3.out; clear hb3)
        | (go_at_call 14; refine (HSZ.out _ HB3.out).mono ?_; rintro e w4 ⟨rfl, hb4⟩; have HB4 : Hid (Below wb.heap.size wb w4) := Lib.hid (bthen HB3.out hb4); obtain ⟨y0, y1, y2, y3, z0, z1, z2, z3⟩ := HCL.out w4 HB4.out; clear hb4)
        | (go_at_call 17; refine (HRZ.out _ HB4.out).mono ?_; rintro e w5 ⟨rfl, hb5⟩; have HB5 : Hid (Below wb.heap.size wb w5) := Lib.hid (bthen HB4.out hb5); obtain ⟨y0, y1, y2, y3, z0, z1, z2, z3⟩ := HCL.out w5 HB5.out; clear hb5)
        | (go_at_call 13; refine (HRAB.out _ HB6.out).mono ?_; rintro e w7 ⟨rfl, hb7⟩; have HB7 : Hid (Below wb.heap.size wb w7) := Lib.hid (bthen HB6.out hb7); obtain ⟨y0, y1, y2, y3, z0, z1, z2, z3⟩ := HCL.out w7 HB7.out; clear hb7)
        | (go_at_call 18; refine (HSBA.out _ HB9.out).mono ?_; rintro e w10 ⟨rfl, hb10⟩; have HB10 : Hid (Below wb.heap.size wb w10) := Lib.hid (bthen HB9.out hb10); obtain ⟨y0, y1, y2, y3, z0, z1, z2, z3⟩ := HCL.out w10 HB10.out; clear hb10)
        | (go_at_call 18; refine (HSAB.out _ HB8.out).mono ?_; rintro e w9 ⟨rfl, hb9⟩; have HB9 : Hid (Below wb.heap.size wb w9) := Lib.hid (bthen HB8.out hb9); obtain ⟨y0, y1, y2, y3, z0, z1, z2, z3⟩ := HCL.out w9 HB9.out; clear hb9)
        | (go_at_call 18; refine (HSAA.out _ HB7.out).mono ?_; rintro e w8 ⟨rfl, hb8⟩; have HB8 : Hid (Below wb.heap.size wb w8) := Lib.hid (bthen HB7.out hb8); obtain ⟨y0, y1, y2, y3, z0, z1, z2, z3⟩ := HCL.out w8 HB8.out; clear hb8)
        | (go_at_call 18; refine (HSAB.out _ HB5.out).mono ?_; rintro e w6 ⟨rfl, hb6⟩; have HB6 : Hid (Below wb.heap.size wb w6) := Lib.hid (bthen HB5.out hb6); obtain ⟨y0, y1, y2, y3, z0, z1, z2, z3⟩ := HCL.out w6 HB6.out; clear hb6))
      all_goals
        go_wp2
        go_ret
        exact ⟨rfl, bthen HBWB.out HB10.out⟩

end Go.Proofs.Ytpabngicbfcdkaa
