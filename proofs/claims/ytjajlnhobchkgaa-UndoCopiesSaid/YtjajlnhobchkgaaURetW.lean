/-
  the walk of UndoReturns.
-/
import Derived.Test.YtjajlnhobchkgaaUAct
import Derived.Deep.RegionHeld3
import Derived.BigQuiet
namespace Go.Proofs.Ytjajlnhobchkgaa
open Go.RowKit
set_option linter.unusedVariables false
set_option linter.unusedSimpArgs false

theorem TI.cut {w : World} {S : Nat → Prop} {bt l now} (h : TI w S bt l now) : TI w (fun i => S i ∧ i < w.heap.size) bt l now := by
  obtain ⟨g, n, c, vs, h1, h2, h3, h4⟩ := h.ex
  exact ⟨⟨g, n, c, vs, h1, h2, ⟨h3, (Row.block_lt h1.row rfl).1⟩, fun x hx k hk => ⟨h4 x hx k hk, (Row.block_lt (h1.own x hx) hk).1⟩⟩, h.foot, World.block_lt_of_cell? w _ h1.c0⟩

theorem Own.at {w : World} {B e k a n c l} (h : Own w B e k (.slice a n c) l) (hl : l ≠ []) : ∃ g, a = some ⟨g, 0, none⟩ ∧ B ≤ g ∧ g < w.heap.size := by
  have hb := fun g hg => Row.block_lt (g := g) h hg
  rcases h.2 with ⟨hv, hn⟩ | ⟨g', cap, cur, hv, _⟩
  · exact absurd (List.eq_nil_of_length_eq_zero hn) hl
  · simp only [Value.slice.injEq] at hv
    obtain ⟨rfl, _, _⟩ := hv
    have := hb g' rfl
    exact ⟨g', rfl, this.2, this.1⟩

/-- the nodes that were left by Undo: each is the preferred child of the next -/
def Chain (l : List Nd) (us : List Nat) : Prop := ∀ j, j + 1 < us.length → ∃ y, l[us.getD (j + 1) 0]? = some y ∧ y.pref = (us.getD j 0 : Int)

theorem Chain.one (l : List Nd) (u : Nat) : Chain l [u] := fun j h => by simp at h
theorem Chain.push {l : List Nd} {us : List Nat} {p : Nat} {y : Nd} (h : Chain l us) (h0 : 0 < us.length) (hy : l[p]? = some y) (hp : y.pref = (us.getD (us.length - 1) 0 : Int)) : Chain l (us ++ [p]) := by
  intro j hj
  rw [List.length_append, List.length_singleton] at hj
  by_cases hjl : j + 1 < us.length
  · obtain ⟨z, h1, h2⟩ := h j hjl
    refine ⟨z, ?_, ?_⟩
    · rw [List.getD_eq_getElem?_getD, List.getElem?_append_left hjl, ← List.getD_eq_getElem?_getD]; exact h1
    · rw [List.getD_eq_getElem?_getD, List.getElem?_append_left (by omega), ← List.getD_eq_getElem?_getD]; exact h2
  · obtain rfl : j = us.length - 1 := by omega
    refine ⟨y, ?_, ?_⟩
    · rw [List.getD_eq_getElem?_getD, List.getElem?_append_right (by omega), show us.length - 1 + 1 - us.length = 0 by omega]; exact hy
    · rw [List.getD_eq_getElem?_getD, List.getElem?_append_left (by omega), ← List.getD_eq_getElem?_getD]; exact hp

abbrev ints (us : List Nat) : List Int := us.map fun (x : Nat) => (x : Int)
theorem ints_getD (us : List Nat) (j : Nat) : (ints us).getD j 0 = ((us.getD j 0 : Nat) : Int) := by
  rw [List.getD_eq_getElem?_getD, List.getElem?_map, List.getD_eq_getElem?_getD]
  cases us[j]? <;> simp

theorem Own.row {w : World} {B e k v us} (h : Own w B e k v (ints us)) : Row w B e 1 v us.length ((ints us).map (Value.int k)) := by
  have h2 : Row w B e 1 v (ints us).length ((ints us).map (Value.int k)) := h
  rwa [List.length_map] at h2
theorem Own.get {w : World} {B e g c us j} (h : Own w B e .i64 (.slice (some ⟨g, 0, none⟩) us.length c) (ints us)) (hj : j < us.length) : w.cell? ⟨g, j, none⟩ = some (.int .i64 (us.getD j 0 : Nat)) := by
  have h2 := World.ownsRow.cellAt h.row j (by simpa using hj)
  rw [h2]
  simp [List.getD, hj]

set_option maxRecDepth 100000 in
set_option maxHeartbeats 8000000 in
theorem walk_UndoReturns (a : Option Addr) (len cap : Nat) (L : List Ac) (x : Int) (w : World) (hr : RdA w a len L) (hx : (Lit.int .i64 x).wf = true) :
    Calls Try.prog 3 #[.slice a len cap, .int .i64 x] w fun e w' => e = .returned (.bool true) ∧ Below w.heap.size w w' := by
  have HR := Lib.hid hr
  have hp : ∀ (p : Addr) (w : World), (binOp .eql 23 (.pointer (some p)) (.pointer none)).run Try.prog w = .ok (.bool false) w := fun p w => by kernel_rfl
  have hne : ∀ w, (binOp .neq 28 (.iface 46 (.int .i64 7)) .nilIface).run Try.prog w = .ok (.bool true) w := fun w => by kernel_rfl
  have hnn : ∀ w, (binOp .neq 28 .nilIface .nilIface).run Try.prog w = .ok (.bool false) w := fun w => by kernel_rfl
  clear hr hx
  by_cases h1 : 150 < len
  · have h1' : (150 : Int) < (len : Int) := by omega
    go_enter Try.func3, Try.ntmps3
    go_wp2
    go_ret
    exact ⟨rfl, Below.refl _ _⟩
  have h1' : (len : Int) ≤ 150 := by omega
  by_cases h2 : 150 < x
  · go_enter Try.func3, Try.ntmps3
    go_wp2
    go_ret
    exact ⟨rfl, Below.refl _ _⟩
  have h2' : x ≤ 150 := by omega
  have H1 := Lib.hid (Nat.not_lt.1 h1)
  clear h1 h2
  go_enter Try.func3, Try.ntmps3
  go_wp2_with fail
  refine (begun_any a len cap L w HR.out H1.out).mono ?_
  rintro e w2 ⟨bt, rfl, S0, l, now, hti0, hwf, hld, hnow, hlen, hS0, hb2⟩
  have HTI := Lib.hid hti0.cut
  obtain ⟨S, hS⟩ : ∃ S, S = fun i => S0 i ∧ i < w2.heap.size := ⟨_, rfl⟩
  rw [← hS] at HTI
  have HSL : Hid (∀ i, S i → w.heap.size ≤ i ∧ i < w2.heap.size) := Lib.hid (fun i hi => by rw [hS] at hi; exact ⟨hS0 i hi.1, hi.2⟩)
  have HWF := Lib.hid hwf
  have HLD := Lib.hid hld
  have HNL := Lib.hid (And.intro hnow hlen)
  have HB2 := Lib.hid hb2
  clear hti0 hwf hld hnow hlen hS0 hb2 hS
  go_wp2_with fail
  refine (now_ti S bt l now w2 HTI.out (by have := HNL.out; omega)).mono ?_
  rintro e w3 ⟨rfl, rfl⟩
  go_wp2
  obtain ⟨w4, hw4⟩ : ∃ w4, w4 = w2.alloc (.cells #[.int .i64 (now : Int)] 3) := ⟨_, rfl⟩
  have HO4 : Hid (Own w4 w2.heap.size 3 .i64 (.slice (some ⟨w2.heap.size, 0, none⟩) 1 1) (ints [now])) := Lib.hid (by rw [hw4]; exact Own.lits w2 .i64 3 (ints [now]) _ (Nat.le_refl _) (by simp))
  have HT4 : Hid (TI w4 S bt l now) := Lib.hid (by rw [hw4]; exact HTI.out.below (below_alloc _ _))
  have HB4 : Hid (Below w.heap.size w w4) := Lib.hid (by rw [hw4]; exact HB2.out.alloc HB2.out.size _)
  have HZ4 : Hid (w2.heap.size ≤ w4.heap.size) := Lib.hid (by rw [hw4]; simp)
  rw [← hw4]
  have HZ2 : Hid (w.heap.size ≤ w2.heap.size) := Lib.hid HB2.out.size
  generalize w2.heap.size = B at *
  clear hw4
  go_loopw [7, 6] (fun iv pv wr => ∃ (i cur : Nat) (us : List Nat) (av : Option Addr) (c : Nat), iv = .int .i64 i ∧ pv = .slice av us.length c ∧ us.length = i + 1 ∧ i ≤ 150 ∧ us.getD i 0 = cur ∧ Chain l us ∧ Own wr B 3 .i64 (.slice av us.length c) (ints us) ∧ TI wr S bt l cur ∧ Lead l cur ∧ cur < l.length ∧ Below w.heap.size w wr ∧ B ≤ wr.heap.size) (fun iv _ _ => x.toNat - (intOf iv).toNat)
  case atStart => exact ⟨0, now, [now], _, 1, rfl, rfl, rfl, by omega, rfl, Chain.one l now, HO4.out, HT4.out, HLD.out, HNL.out.1, HB4.out, HZ4.out⟩
  case round =>
    obtain ⟨i, cur, us, av, c, rfl, rfl, hul, hi, hcur, hch, hown, hti, hld, hcl, hbel, hsz⟩ := hrel
    have hi9 : (i : Int) ≤ 150 := by omega
    have hu9 : (us.length : Int) ≤ 151 := by omega
    have HUL := Lib.hid hul
    clear hul
    have HI := Lib.hid hi
    have HCUR := Lib.hid hcur
    have HCH := Lib.hid hch
    have HOWN := Lib.hid hown
    have HTI2 := Lib.hid hti
    have HLD2 := Lib.hid hld
    have HCL := Lib.hid hcl
    have HBEL := Lib.hid hbel
    have HSZ := Lib.hid hsz
    clear hcur hch hown hti hcl hbel hsz HO4 HT4 HB4 HZ4
    have hcase : ¬ (i : Int) < x ∨ ((i : Int) < x ∧ cur = 0) ∨ ((i : Int) < x ∧ ∃ p y z, l[cur]? = some y ∧ y.parent = (p : Nat) ∧ l[p]? = some z ∧ z.pref = cur ∧ p < cur ∧ Lead l p) := by
      by_cases hlt : (i : Int) < x
      · rcases hld.inv with h0 | h0
        · exact .inr (.inl ⟨hlt, h0⟩)
        · exact .inr (.inr ⟨hlt, h0⟩)
      · exact .inl hlt
    clear hld
    rcases hcase with hlt | ⟨hlt, h0⟩ | ⟨hlt, p, y, z, e1, e2, e3, e4, e5, e6⟩
    rotate_left 2
    · have HE1 := Lib.hid e1
      have HE3 := Lib.hid e3
      have HE4 := Lib.hid e4
      have HE6 := Lib.hid e6
      have HE2 := Lib.hid e2
      have HE5 := Lib.hid e5
      clear e1 e2 e3 e4 e5 e6
      go_wp2_with fail
      refine (undo_ok S bt l cur _ HTI2.out y HE1.out (by have := HNL.out; omega) (by have := HE5.out; omega)).mono ?_
      rintro e w5 ⟨rfl, ht5, hf5⟩
      rw [HE2.out] at ht5
      have HT5 := Lib.hid ht5
      have HF5 := Lib.hid hf5
      have HO5 : Hid (Own w5 B 3 .i64 (.slice av us.length c) (ints us)) := Lib.hid (Row.fr HOWN.out hf5 (fun g hg h => by have h3 := (Row.block_lt HOWN.out hg).2; have := (HSL.out g h).2; omega))
      have HB5 : Hid (Below w.heap.size w w5) := Lib.hid (HBEL.out.trans (hf5.below (fun i hi => (HSL.out i hi).1) HBEL.out.size))
      have HS5 : Hid (B ≤ w5.heap.size) := Lib.hid (Nat.le_trans HSZ.out hf5.size)
      clear ht5 hf5
      go_wp2_with fail
      refine (now_ti S bt l p w5 HT5.out (by have := HNL.out; omega)).mono ?_
      rintro e w6 ⟨rfl, rfl⟩
      go_wp2_with (at_builtin; refine app_row_at (.tmp 34) (.tmp 37) EIG rfl rfl B (.slice av us.length c) us.length _ rfl (Row.alloc (show Row w5 B 3 1 (.slice av us.length c) us.length ((ints us).map (Value.int .i64)) by have := HO5.out; unfold Own at this; simpa using this) _) _ 1 _ [.int .i64 (p : Int)] rfl (RdG.lits w5 1 3 1 [.int .i64 (p : Int)] rfl) (by simp [Value.oneCell']) (by have := HI.out; have := HUL.out; omega) (by decide) (by have := HS5.out; simp; omega) ?_; intro a7 c7 w7 hr7 hg7 hat7; have HR7 := Lib.hid hr7; have HG7 := Lib.hid hg7; clear hr7 hg7 hat7)
      go_roundw
      case rel =>
        have hfr : Fr (fun j => B ≤ j) w5 w7 := ((Fr.refl _ w5).alloc _).trans (.of_grown HG7.out fun k hk => (Row.block_lt HO5.out hk).2)
        refine ⟨i + 1, p, us ++ [p], a7, c7, by go_num, by simp, by simp [HUL.out], by omega, ?_, ?_, ?_, HT5.out.fr hfr (fun i hi h => by have := (HSL.out i hi).2; omega), HE6.out, by have := HE5.out; have := HCL.out; omega, HB5.out.trans (hfr.below (fun i hi => Nat.le_trans HZ2.out hi) HB5.out.size), Nat.le_trans HS5.out hfr.size⟩
        · rw [List.getD_eq_getElem?_getD, List.getElem?_append_right (by have := HUL.out; omega), HUL.out]; simp
        · exact HCH.out.push (by have := HUL.out; omega) HE3.out (by rw [HE4.out, HUL.out, Nat.add_sub_cancel, HCUR.out])
        · have := HR7.out
          unfold Own
          simpa using this
      case measure => simp [intOf]; omega
    focus go_wp2
    rotate_left
    focus
      have H0 := Lib.hid h0
      clear h0
      go_wp2_with fail
      refine (undo_root S bt l _ (by have := HTI2.out; rw [H0.out] at this; exact this) (by have := HCL.out; omega)).mono ?_
      rintro e w5 ⟨rfl, rfl⟩
      go_wp2_with fail
      refine (now_ti S bt l 0 _ (by have := HTI2.out; rw [H0.out] at this; exact this) (by have := HCL.out; omega)).mono ?_
      rintro e w5 ⟨rfl, rfl⟩
      go_wp2
    all_goals
      go_loopw [8] (fun iv wr => ((∃ j : Nat, iv = .int .i64 j ∧ j + 1 < us.length ∧ TI wr S bt l (us.getD (j + 1) 0 : Nat)) ∨ (iv = .int .i64 (-1) ∧ TI wr S bt l (us.getD 0 0 : Nat))) ∧ Own wr B 3 .i64 (.slice av us.length c) (ints us) ∧ Below w.heap.size w wr ∧ B ≤ wr.heap.size) (fun iv _ => (intOf iv + 1).toNat)
      case atStart =>
        refine ⟨?_, HOWN.out, HBEL.out, HSZ.out⟩
        have h3 := HUL.out
        have h4 := HCUR.out
        rcases Nat.eq_zero_or_pos i with e | e
        · subst e
          exact .inr ⟨congrArg (Value.int .i64) (by omega), by rw [h4]; exact HTI2.out⟩
        · exact .inl ⟨i - 1, congrArg (Value.int .i64) (by omega), by omega, by rw [show i - 1 + 1 = i by omega, h4]; exact HTI2.out⟩
      case round =>
        obtain ⟨⟨j, rfl, hj, ht⟩ | ⟨rfl, ht⟩, hown, hbel, hsz⟩ := hrel
        · have hj9 : (j : Int) ≤ 150 := by have := HUL.out; have := HI.out; omega
          obtain ⟨g, rfl, hBg, hgl⟩ := hown.at (fun e => absurd (show us.length = 0 by simpa using congrArg List.length e) (by omega))
          have hc1 : wr.drew.cell? ⟨g, j, none⟩ = _ := hown.get (j := j) (by omega)
          have hju : (j : Int) < (us.length : Int) := by omega
          have hj0 : (0 : Int) ≤ (j : Int) := by omega
          have hjn : j < us.length := by omega
          obtain ⟨y, hy, hyp⟩ := HCH.out j hj
          have HJ := Lib.hid hj
          generalize us.length = N at *
          generalize us.getD (j + 1) 0 = q at *
          generalize hrr : us.getD j 0 = r at *
          have HRR := Lib.hid hrr
          have HY := Lib.hid hy
          have HYP := Lib.hid hyp
          have HT := Lib.hid (ht.below (Below.refl _ _).drew)
          have HO := Lib.hid hown
          have HBL := Lib.hid hbel
          have HS := Lib.hid hsz
          have HGB := Lib.hid hBg
          clear hrr hy hyp ht hown hbel hsz hBg hgl hj
          go_wp2_with fail
          go_region_held3 (fun w' => w'.cell? ⟨g, j, none⟩ = some (.int .i64 r)) (go_keep) (first
            | (go_at_call 11; refine (redo_ok S bt l q _ HT.out y HY.out (by have := HNL.out; omega) (by rw [HYP.out]; omega)).mono ?_; rintro e w5 ⟨rfl, ht5, hf5⟩; rw [HYP.out] at ht5; have HT5 := Lib.hid ht5; have HF5 := Lib.hid hf5; have y1 := hf5.cell hc1 (fun h => by have := (HSL.out _ h).2; have := HGB.out; simp at *; omega); clear ht5 hf5)
            | (go_at_call 9; refine (now_ti S bt l r _ HT5.out (by have := HNL.out; omega)).mono ?_; rintro e w6 ⟨rfl, rfl⟩))
          all_goals
            go_wp2
            go_roundw
            case rel =>
              refine ⟨?_, Row.fr (Row.drew HO.out) HF5.out (fun g hg h => by have h3 := (Row.block_lt HO.out hg).2; have := (HSL.out g h).2; omega), HBL.out.trans ((Below.refl _ _).drew.trans (HF5.out.below (fun i hi => (HSL.out i hi).1) HBL.out.size)), Nat.le_trans HS.out HF5.out.size⟩
              have h3 := HJ.out
              have h4 := HRR.out
              rcases Nat.eq_zero_or_pos j with e | e
              · subst e
                exact .inr ⟨congrArg (Value.int .i64) (by omega), by rw [h4]; exact HT5.out⟩
              · exact .inl ⟨j - 1, congrArg (Value.int .i64) (by omega), by omega, by rw [show j - 1 + 1 = j by omega, h4]; exact HT5.out⟩
            case measure => simp [intOf] <;> omega
        · have hul0 : 0 < us.length := by have := HUL.out; omega
          obtain ⟨g, rfl, hBg, hgl⟩ := hown.at (fun e => absurd (show us.length = 0 by simpa using congrArg List.length e) (by omega))
          have hc1 : wr.drew.cell? ⟨g, 0, none⟩ = _ := hown.get (j := 0) hul0
          have hju : (0 : Int) < (us.length : Int) := by omega
          generalize us.getD 0 0 = r at *
          have HT := Lib.hid (ht.below (Below.refl _ _).drew)
          have HBL := Lib.hid hbel.drew
          clear ht hown hbel hsz hBg hgl
          go_wp2_with fail
          go_region_held3 (fun w' => w'.cell? ⟨g, 0, none⟩ = some (.int .i64 r)) (go_keep) (first
            | (go_at_call 9; refine (now_ti S bt l r _ HT.out (by have := HNL.out; omega)).mono ?_; rintro e w6 ⟨rfl, rfl⟩))
          all_goals
            go_wp2
            go_ret
            exact ⟨ret_eq (by simp), HBL.out⟩

end Go.Proofs.Ytjajlnhobchkgaa
