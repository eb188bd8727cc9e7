/-
  Joined texts: the store: Letter. · the store: Pair. · the store: Power. · the store: New, Rule, Weight, Len.
-/
import Derived.Test.YtflgmodofemifaaWC6
import Derived.Deep.RegionWith

/- the store: Letter. -/
namespace Go.Proofs.Ytflgmodofemifaa
open Go.RowKit Go.Maps
set_option linter.unusedVariables false
set_option linter.unusedSimpArgs false

/-- what the makers of rules hand back -/
def StPost (B bs most : Nat) (L : List En) (w : World) (ru : Ru) (r : Ending) (w' : World) : Prop :=
  ∃ (id : Nat) (L' : List En) (e : En), r = .returned (.tuple #[.int .i64 (id : Nat), .nilIface]) ∧ SI B w' bs most L' ∧ Ext L L' ∧ L'.length ≤ L.length + 1 ∧ 0 < id ∧ L'[id - 1]? = some e ∧ e.ru = ru ∧ BK B w w'

theorem find_cases {L : List En} (r : Ru) : (∃ (i : Nat) (e : En), L[i]? = some e ∧ e.ru = r) ∨ r ∉ L.map (·.ru) := by
  by_cases h : r ∈ L.map (·.ru)
  · obtain ⟨e, he, hr⟩ := List.mem_map.1 h
    obtain ⟨i, hi⟩ := List.mem_iff_getElem?.1 he
    exact .inl ⟨i, e, hi, hr⟩
  · exact .inr h

/-- the entry of a letter -/
def letE (b : Nat) : En := ⟨⟨1, b, 0, 0, 0⟩, letW b, 0, true⟩
theorem letE_good {L : List En} (h : Good L) {b : Nat} (hb : b < 256) (hn : (letE b).ru ∉ L.map (·.ru)) : Good (L ++ [letE b]) :=
  h.snoc (letW_val hb) (.inl ⟨rfl, hb, rfl, rfl, rfl⟩) (Nat.zero_le _) (by show (letW b).len = _; rw [letW_len]; rfl) hn

set_option maxRecDepth 100000 in
set_option maxHeartbeats 4000000 in
theorem letter_any {B bs most : Nat} {L : List En} {w : World} (h : SI B w bs most L) (b : Nat) (hb : b < 256) (hro : L.length < most) (hB : B ≤ w.heap.size) :
    Calls Try.prog 38 #[.pointer (some ⟨bs, 0, none⟩), .int .u8 (b : Nat)] w (StPost B bs most L w ⟨1, b, 0, 0, 0⟩) := by
  obtain ⟨w1, hw1⟩ : ∃ w1, w1 = w.alloc (.cells (ruC ⟨1, b, 0, 0, 0⟩).toArray 67) := ⟨_, rfl⟩
  have HB := Lib.hid (show Below w.heap.size w w1 by rw [hw1]; exact below_alloc _ _)
  have HX := Lib.hid (show BX w1 w.heap.size (ruC ⟨1, b, 0, 0, 0⟩) by rw [hw1]; exact BX.alloc _ _ _)
  have HSI := Lib.hid (h.below HB.out)
  have HW1 := Lib.hid hw1
  have hwf : RuWf ⟨1, b, 0, 0, 0⟩ := ⟨by simp, hb, by simp, by simp, by simp⟩
  have HWF := Lib.hid hwf
  have HBB := Lib.hid (And.intro hB hb)
  have HRO := Lib.hid hro
  have x0 := HX.out.cell (j := 0) rfl
  have x1 := HX.out.cell (j := 1) rfl
  have x2 := HX.out.cell (j := 2) rfl
  have x3 := HX.out.cell (j := 3) rfl
  have x4 := HX.out.cell (j := 4) rfl
  have hne : ∀ w, (binOp .neq 34 .nilIface .nilIface).run Try.prog w = .ok (.bool false) w := fun w => by kernel_rfl
  rw [show ruC ⟨1, b, 0, 0, 0⟩ = [.int .i64 1, .int .u8 (b : Nat), .int .i64 0, .int .i64 0, .int .i64 0] from rfl] at HW1
  have hfa := fun id hid => find_any (h.below HB.out) ⟨1, b, 0, 0, 0⟩ hwf id hid
  rw [show ruV ⟨1, b, 0, 0, 0⟩ = .agg #[.int .i64 1, .int .u8 (b : Nat), .int .i64 0, .int .i64 0, .int .i64 0] from rfl] at hfa
  rcases find_cases (L := L) ⟨1, b, 0, 0, 0⟩ with ⟨i, e, hi, he⟩ | hno
  · have HF := Lib.hid (hfa (i + 1) (.inl ⟨e, by omega, hi, he⟩))
    have HI := Lib.hid (And.intro hi he)
    obtain ⟨id, hid⟩ : ∃ id, id = i + 1 := ⟨_, rfl⟩
    have HID := Lib.hid hid
    rw [← hid] at HF
    have hi0 : ((id : Int) != 0) = true := by simp; omega
    clear hfa h hw1 hb hro hB hwf hi he hid
    go_enter Try.func38, Try.ntmps38
    go_upto_region 4 with fail
    rw [← HW1.out]
    go_wp2_with fail
    refine HF.out.mono ?_
    rintro e2 w2 ⟨rfl, hb2⟩
    have HB2 := Lib.hid hb2
    clear hb2 x0 x1 x2 x3 x4
    go_wp2
    go_ret2
    refine ⟨id, L, e, rfl, HSI.out.below HB2.out, Ext.refl L, by omega, by have := HID.out; omega, by rw [HID.out]; exact HI.out.1, HI.out.2, BK.of_below (bthen HB.out HB2.out) HBB.out.1⟩
  · have HF := Lib.hid (hfa 0 (.inr ⟨rfl, hno, hro⟩))
    have HG := Lib.hid (letE_good h.good hb hno)
    have HNO := Lib.hid hno
    have HLW := Lib.hid (fun wx => weLetter_any b hb wx)
    rw [show weV (letW b) = .agg #[.int .i64 ((letW b).len : Nat), .int .i64 ((letW b).lines : Nat), .int .i64 ((letW b).head : Nat), .int .i64 ((letW b).tail : Nat), .int .u64 ((letW b).dv : Nat), .int .u64 ((letW b).ds : Nat)] from rfl] at HLW
    clear hfa h hw1 hb hro hB hwf hno
    go_enter Try.func38, Try.ntmps38
    go_upto_region 4 with fail
    rw [← HW1.out]
    go_wp2_with fail
    refine HF.out.mono ?_
    rintro e2 w2 ⟨rfl, hb2⟩
    have HB2 := Lib.hid hb2
    have HX2 := Lib.hid (HX.out.below hb2)
    clear hb2 x0 x1 x2 x3 x4
    have x0 := HX2.out.cell (j := 0) rfl
    have x1 := HX2.out.cell (j := 1) rfl
    have x2 := HX2.out.cell (j := 2) rfl
    have x3 := HX2.out.cell (j := 3) rfl
    have x4 := HX2.out.cell (j := 4) rfl
    go_upto_region 7 with fail
    go_region_with (first
      | (go_at_call 56; refine (HLW.out _).mono ?_; rintro e3 w3 ⟨rfl, hb3⟩; have HB3 : Hid (Below w2.heap.size w2 w3) := Lib.hid ((Below.refl _ _).drew.trans hb3); have HX3 := Lib.hid (HX2.out.below HB3.out); clear hb3; have y0 := HX3.out.cell (j := 0) rfl; have y1 := HX3.out.cell (j := 1) rfl; have y2 := HX3.out.cell (j := 2) rfl; have y3 := HX3.out.cell (j := 3) rfl; have y4 := HX3.out.cell (j := 4) rfl)
      | (go_at_call 24; refine (add_any' (HSI.out.below (bthen HB2.out HB3.out)) (letE b) HRO.out HG.out HNO.out (by have h1 := HB.out.size; have h2 := HB2.out.size; have h3 := HB3.out.size; have := HBB.out.1; omega)).mono ?_; rintro e4 w4 ⟨rfl, hs4, hb4⟩; have HS4 := Lib.hid hs4; have HB4 := Lib.hid hb4; clear hs4 hb4))
    all_goals
      go_wp2
      go_ret2
      refine ⟨L.length + 1, L ++ [letE b], letE b, rfl, HS4.out, Ext.snoc L _, by simp, by omega, by simp, rfl, ?_⟩
      have h5 : Below w.heap.size w w3 := bthen (bthen HB.out HB2.out) HB3.out
      exact (BK.of_below h5 HBB.out.1).trans HB4.out

end Go.Proofs.Ytflgmodofemifaa

/- the store: Pair. -/
namespace Go.Proofs.Ytflgmodofemifaa
open Go.RowKit Go.Maps
set_option linter.unusedVariables false
set_option linter.unusedSimpArgs false

theorem en_val (e : En) : (.agg (enC e).toArray : Value) = .agg #[.int .i64 (e.ru.kind : Nat), .int .u8 (e.ru.letter : Nat), .int .i64 (e.ru.left : Nat), .int .i64 (e.ru.right : Nat), .int .i64 (e.ru.times : Nat), .int .i64 (e.we.len : Nat), .int .i64 (e.we.lines : Nat), .int .i64 (e.we.head : Nat), .int .i64 (e.we.tail : Nat), .int .u64 (e.we.dv : Nat), .int .u64 (e.we.ds : Nat), .int .i64 (e.depth : Nat), .bool e.even] := rfl
theorem en_cells (e : En) : (enC e).toArray = #[.int .i64 (e.ru.kind : Nat), .int .u8 (e.ru.letter : Nat), .int .i64 (e.ru.left : Nat), .int .i64 (e.ru.right : Nat), .int .i64 (e.ru.times : Nat), .int .i64 (e.we.len : Nat), .int .i64 (e.we.lines : Nat), .int .i64 (e.we.head : Nat), .int .i64 (e.we.tail : Nat), .int .u64 (e.we.dv : Nat), .int .u64 (e.we.ds : Nat), .int .i64 (e.depth : Nat), .bool e.even] := rfl
theorem BX.enW {w : World} {b : Nat} {e : En} (h : BX w b (enC e)) : WC w b 5 e.we := ⟨h.cell rfl, h.cell rfl, h.cell rfl, h.cell rfl, h.cell rfl, h.cell rfl⟩

/-- the entry of a pair -/
def pairE (el er : En) (l r v s : Nat) (ev : Bool) : En := ⟨⟨2, 0, l, r, 0⟩, joinW el.we er.we v s, 1 + max el.depth er.depth, ev⟩
theorem pairE_good {L : List En} (h : Good L) {l r : Nat} {el er : En} (hl0 : 0 < l) (hr0 : 0 < r) (hl : L[l - 1]? = some el) (hr : L[r - 1]? = some er) {v s : Nat} (hw : WVal (joinW el.we er.we v s)) (ev : Bool) (hn : (⟨2, 0, l, r, 0⟩ : Ru) ∉ L.map (·.ru)) : Good (L ++ [pairE el er l r v s ev]) := by
  have l1 := (List.getElem?_eq_some_iff.1 hl).1
  have r1 := (List.getElem?_eq_some_iff.1 hr).1
  refine h.snoc hw (.inr (.inl ⟨rfl, rfl, rfl, hl0, by show l ≤ _; omega, hr0, by show r ≤ _; omega⟩)) ?_ ?_ hn
  · have d1 := h.depth _ _ hl
    have d2 := h.depth _ _ hr
    show 1 + max el.depth er.depth ≤ L.length
    omega
  · show el.we.len + er.we.len = _
    have e1 := h.len _ _ hl
    have e2 := h.len _ _ hr
    rw [show l - 1 + 1 = l by omega] at e1
    rw [show r - 1 + 1 = r by omega] at e2
    show _ = (txt1 (texts L) ⟨2, 0, l, r, 0⟩).length
    unfold txt1
    simp only [Nat.reduceEqDiff, if_false, if_true, List.length_append]
    rw [e1, e2]; rfl

set_option maxRecDepth 100000 in
set_option maxHeartbeats 4000000 in
theorem pair_any {B bs most : Nat} {L : List En} {w : World} (h : SI B w bs most L) (l r : Nat) (el er : En) (hl0 : 0 < l) (hr0 : 0 < r) (hl : L[l - 1]? = some el) (hr : L[r - 1]? = some er) (hlen : el.we.len + er.we.len ≤ ML) (hro : L.length < most) (hB : B ≤ w.heap.size) :
    Calls Try.prog 10 #[.pointer (some ⟨bs, 0, none⟩), .int .i64 (l : Nat), .int .i64 (r : Nat)] w (StPost B bs most L w ⟨2, 0, l, r, 0⟩) := by
  have HSI := Lib.hid h
  have l1 := (List.getElem?_eq_some_iff.1 hl).1
  have r1 := (List.getElem?_eq_some_iff.1 hr).1
  have HLR := Lib.hid (And.intro l1 r1)
  have HHL := Lib.hid hl
  have HHR := Lib.hid hr
  have HBB := Lib.hid hB
  have HRO := Lib.hid (And.intro hro h.room.2)
  have HP := Lib.hid (And.intro hl0 hr0)
  have HLEN := Lib.hid hlen
  have hne : ∀ w, (binOp .neq 34 .nilIface .nilIface).run Try.prog w = .ok (.bool false) w := fun w => by kernel_rfl
  have hl1 : ((l : Int) == 0) = false := by rw [beq_eq_false_iff_ne]; omega
  have hr1 : ((r : Int) == 0) = false := by rw [beq_eq_false_iff_ne]; omega
  have hkl : l - 1 + 1 = l := by omega
  have hkr : r - 1 + 1 = r := by omega
  have HAL := Lib.hid (fun (wx : World) (hb : Below w.heap.size w wx) => at_any (h.below hb) _ _ hl)
  have HAR := Lib.hid (fun (wx : World) (hb : Below w.heap.size w wx) => at_any (h.below hb) _ _ hr)
  rw [hkl] at HAL
  rw [hkr] at HAR
  have HAD := Lib.hid (fun wx => lenAdd_any el.we.len er.we.len hlen wx)
  have HWJ := Lib.hid (fun wx => weJoin_any el.we er.we (h.good.we _ _ hl) (h.good.we _ _ hr) hlen wx)
  unfold weV at HWJ
  obtain ⟨tot, htot⟩ : ∃ tot, tot = el.we.len + er.we.len := ⟨_, rfl⟩
  rw [← htot] at HAD
  have hwf : RuWf ⟨2, 0, l, r, 0⟩ := ⟨by simp, by simp, by show l < _; have := h.room; omega, by show r < _; have := h.room; omega, by simp⟩
  have HWF := Lib.hid hwf
  rw [show ∀ e : En, (.agg (enC e).toArray : Value) = .agg #[.int .i64 (e.ru.kind : Nat), .int .u8 (e.ru.letter : Nat), .int .i64 (e.ru.left : Nat), .int .i64 (e.ru.right : Nat), .int .i64 (e.ru.times : Nat), .int .i64 (e.we.len : Nat), .int .i64 (e.we.lines : Nat), .int .i64 (e.we.head : Nat), .int .i64 (e.we.tail : Nat), .int .u64 (e.we.dv : Nat), .int .u64 (e.we.ds : Nat), .int .i64 (e.depth : Nat), .bool e.even] from fun e => rfl] at HAL HAR
  clear h hl hr hl0 hr0 l1 r1 hB hro hlen hkl hkr htot hwf
  go_enter Try.func10, Try.ntmps10
  go_wp2_with fail
  refine (known_any HSI.out l (by have := HLR.out; have := HP.out; omega)).mono ?_
  rintro e w1 ⟨rfl, rfl⟩
  go_wp2_with fail
  refine (known_any HSI.out r (by have := HLR.out; have := HP.out; omega)).mono ?_
  rintro e w1 ⟨rfl, rfl⟩
  go_wp2_with fail
  refine (HAL.out w1 (Below.refl _ _)).mono ?_
  rintro e w2 ⟨rfl, hb2⟩
  have HB2 := Lib.hid hb2
  clear hb2
  go_wp2_with fail
  refine (HAR.out w2 HB2.out).mono ?_
  rintro e w3 ⟨rfl, hb3⟩
  have HB3 := Lib.hid (bthen HB2.out hb3)
  clear hb3
  go_upto_region 10 with fail
  obtain ⟨w4, hw4⟩ : ∃ w4, w4 = (w3.alloc (.cells (enC el).toArray 74)).alloc (.cells (enC er).toArray 74) := ⟨_, rfl⟩
  obtain ⟨b8, hb8⟩ : ∃ b8, b8 = w3.heap.size := ⟨_, rfl⟩
  have HX4 := Lib.hid (show BX w4 b8 (enC el) by rw [hw4, hb8]; exact BX.alloc2 _ _ _ _)
  have HY4 := Lib.hid (show BX w4 (b8 + 1) (enC er) by rw [hw4, hb8]; exact BX.allocAt (by simp) _ _)
  have HB4 : Hid (Below w1.heap.size w1 w4) := Lib.hid (by rw [hw4]; exact (HB3.out.alloc HB3.out.size _).alloc (by have := HB3.out.size; simp; omega) _)
  rw [en_cells, en_cells] at hw4
  rw [← hw4, ← hb8]
  clear hw4 hb8
  have x5 := HX4.out.cell (j := 5) rfl
  have y5 := HY4.out.cell (j := 5) rfl
  go_wp2_with fail
  refine (HAD.out _).mono ?_
  rintro e w5 ⟨rfl, rfl⟩
  go_upto_region 14 with fail
  obtain ⟨w6, hw6⟩ : ∃ w6, w6 = w5.alloc (.cells (ruC ⟨2, 0, l, r, 0⟩).toArray 67) := ⟨_, rfl⟩
  obtain ⟨b12, hb12⟩ : ∃ b12, b12 = w5.heap.size := ⟨_, rfl⟩
  have HZ6 := Lib.hid (show BX w6 b12 (ruC ⟨2, 0, l, r, 0⟩) by rw [hw6, hb12]; exact BX.alloc _ _ _)
  have hb56 : Below w5.heap.size w5 w6 := by rw [hw6]; exact below_alloc _ _
  have HX6 := Lib.hid (HX4.out.below hb56)
  have HY6 := Lib.hid (HY4.out.below hb56)
  have HB6 := Lib.hid (bthen HB4.out hb56)
  rw [show (ruC ⟨2, 0, l, r, 0⟩).toArray = #[.int .i64 2, .int .u8 0, .int .i64 (l : Nat), .int .i64 (r : Nat), .int .i64 0] from rfl] at hw6
  rw [← hw6, ← hb12]
  clear hw6 hb12 hb56 x5 y5
  have hfa := fun id hid => find_any (HSI.out.below HB6.out) ⟨2, 0, l, r, 0⟩ HWF.out id hid
  rw [show ruV ⟨2, 0, l, r, 0⟩ = .agg #[.int .i64 2, .int .u8 0, .int .i64 (l : Nat), .int .i64 (r : Nat), .int .i64 0] from rfl] at hfa
  have z0 := HZ6.out.cell (j := 0) rfl
  have z1 := HZ6.out.cell (j := 1) rfl
  have z2 := HZ6.out.cell (j := 2) rfl
  have z3 := HZ6.out.cell (j := 3) rfl
  have z4 := HZ6.out.cell (j := 4) rfl
  rcases find_cases (L := L) ⟨2, 0, l, r, 0⟩ with ⟨i, e, hi, he⟩ | hno
  · have HF := Lib.hid (hfa (i + 1) (.inl ⟨e, by omega, hi, he⟩))
    have HI := Lib.hid (And.intro hi he)
    obtain ⟨id, hid⟩ : ∃ id, id = i + 1 := ⟨_, rfl⟩
    have HID := Lib.hid hid
    rw [← hid] at HF
    have hi0 : ((id : Int) != 0) = true := by simp; omega
    clear hfa hi he hid
    go_wp2_with fail
    refine HF.out.mono ?_
    rintro e2 w7 ⟨rfl, hb7⟩
    have HB7 := Lib.hid (bthen HB6.out hb7)
    clear hb7 z0 z1 z2 z3 z4
    go_wp2
    go_ret2
    exact ⟨id, L, e, rfl, HSI.out.below HB7.out, Ext.refl L, by omega, by have := HID.out; omega, by rw [HID.out]; exact HI.out.1, HI.out.2, BK.of_below HB7.out HBB.out⟩
  · have HF := Lib.hid (hfa 0 (.inr ⟨rfl, hno, HRO.out.1⟩))
    have HNO := Lib.hid hno
    clear hfa hno
    go_wp2_with fail
    refine HF.out.mono ?_
    rintro e2 w7 ⟨rfl, hb7⟩
    have HB7 := Lib.hid (bthen HB6.out hb7)
    have HX7 := Lib.hid (HX6.out.below hb7)
    have HY7 := Lib.hid (HY6.out.below hb7)
    have HZ7 := Lib.hid (HZ6.out.below hb7)
    clear hb7 z0 z1 z2 z3 z4
    have x5 := HX7.out.cell (j := 5) rfl
    have x6 := HX7.out.cell (j := 6) rfl
    have x7 := HX7.out.cell (j := 7) rfl
    have x8 := HX7.out.cell (j := 8) rfl
    have x9 := HX7.out.cell (j := 9) rfl
    have x10 := HX7.out.cell (j := 10) rfl
    have y5 := HY7.out.cell (j := 5) rfl
    have y6 := HY7.out.cell (j := 6) rfl
    have y7 := HY7.out.cell (j := 7) rfl
    have y8 := HY7.out.cell (j := 8) rfl
    have y9 := HY7.out.cell (j := 9) rfl
    have y10 := HY7.out.cell (j := 10) rfl
    go_wp2_with fail
    refine (HWJ.out _).mono ?_
    rintro e3 w8 ⟨v, s, rfl, hval, hb8⟩
    have HB8 := Lib.hid (bthen HB7.out hb8)
    have HX8 := Lib.hid (HX7.out.below hb8)
    have HY8 := Lib.hid (HY7.out.below hb8)
    have HZ8 := Lib.hid (HZ7.out.below hb8)
    have HVAL := Lib.hid hval
    clear hval hb8 x5 x6 x7 x8 x9 x10 y5 y6 y7 y8 y9 y10
    obtain ⟨wj, hwj⟩ : ∃ wj, wj = joinW el.we er.we v s := ⟨_, rfl⟩
    rw [← hwj]
    have HWJ2 := Lib.hid hwj
    clear hwj
    go_upto_region 20 with fail
    obtain ⟨w9, hw9⟩ : ∃ w9, w9 = w8.alloc (.cells (weCs wj).toArray 72) := ⟨_, rfl⟩
    obtain ⟨b15, hb15⟩ : ∃ b15, b15 = w8.heap.size := ⟨_, rfl⟩
    have HQ9 := Lib.hid (show BX w9 b15 (weCs wj) by rw [hw9, hb15]; exact BX.alloc _ _ _)
    have hb89 : Below w8.heap.size w8 w9 := by rw [hw9]; exact below_alloc _ _
    have HX9 := Lib.hid (HX8.out.below hb89)
    have HY9 := Lib.hid (HY8.out.below hb89)
    have HZ9 := Lib.hid (HZ8.out.below hb89)
    have HB9 := Lib.hid (bthen HB8.out hb89)
    rw [show (weCs wj).toArray = #[.int .i64 (wj.len : Nat), .int .i64 (wj.lines : Nat), .int .i64 (wj.head : Nat), .int .i64 (wj.tail : Nat), .int .u64 (wj.dv : Nat), .int .u64 (wj.ds : Nat)] from rfl] at hw9
    rw [← hw9, ← hb15]
    clear hw9 hb15 hb89
    have x11 := HX9.out.cell (j := 11) rfl
    have x12 := HX9.out.cell (j := 12) rfl
    have y11 := HY9.out.cell (j := 11) rfl
    have y12 := HY9.out.cell (j := 12) rfl
    have z0 := HZ9.out.cell (j := 0) rfl
    have z1 := HZ9.out.cell (j := 1) rfl
    have z2 := HZ9.out.cell (j := 2) rfl
    have z3 := HZ9.out.cell (j := 3) rfl
    have z4 := HZ9.out.cell (j := 4) rfl
    have q0 := HQ9.out.cell (j := 0) rfl
    have q1 := HQ9.out.cell (j := 1) rfl
    have q2 := HQ9.out.cell (j := 2) rfl
    have q3 := HQ9.out.cell (j := 3) rfl
    have q4 := HQ9.out.cell (j := 4) rfl
    have q5 := HQ9.out.cell (j := 5) rfl
    obtain ⟨dl, hdl⟩ : ∃ d, d = el.depth := ⟨_, rfl⟩
    obtain ⟨dr, hdr⟩ : ∃ d, d = er.depth := ⟨_, rfl⟩
    rw [← hdl] at x11
    rw [← hdr] at y11
    obtain ⟨p, hp⟩ : ∃ p, p = el.even := ⟨_, rfl⟩
    obtain ⟨q, hq⟩ : ∃ q, q = er.even := ⟨_, rfl⟩
    rw [← hp] at x12
    rw [← hq] at y12
    have hdb : dl ≤ 1048576 ∧ dr ≤ 1048576 := by
      have h1 := HSI.out.good.depth _ _ HHL.out
      have h2 := HSI.out.good.depth _ _ HHR.out
      have h3 := HLR.out
      have h4 := HRO.out
      omega
    obtain ⟨ap, hap⟩ : ∃ ap : Int, ap = (dl : Int) - (dr : Int) := ⟨_, rfl⟩
    have hsub : (dl : Int) - (dr : Int) = ap := hap.symm
    have hwa : IntKind.i64.wrap ap = ap := IntWalk.i64_in _ (by omega)
    obtain ⟨D, hD⟩ : ∃ D, D = 1 + max dl dr := ⟨_, rfl⟩
    have HDD := Lib.hid (show D = 1 + max el.depth er.depth by rw [hD, hdl, hdr])
    have hmax : (1 : Int) + max (dl : Int) (dr : Int) = (D : Int) := by omega
    have hwD : wrap64 (D : Int) = (D : Int) := by unfold wrap64; omega
    have hwD2 : IntKind.i64.wrap (D : Int) = (D : Int) := IntWalk.i64_in _ (by omega)
    have HG : Hid (∀ ev, Good (L ++ [⟨⟨2, 0, l, r, 0⟩, wj, D, ev⟩])) := Lib.hid (fun ev => by
      rw [HWJ2.out, HDD.out]
      exact pairE_good HSI.out.good HP.out.1 HP.out.2 HHL.out HHR.out HVAL.out ev HNO.out)
    have HADD : Hid (∀ ev : Bool, Calls Try.prog 24 #[.pointer (some ⟨bs, 0, none⟩), .agg #[.int .i64 2, .int .u8 0, .int .i64 (l : Nat), .int .i64 (r : Nat), .int .i64 0, .int .i64 (wj.len : Nat), .int .i64 (wj.lines : Nat), .int .i64 (wj.head : Nat), .int .i64 (wj.tail : Nat), .int .u64 (wj.dv : Nat), .int .u64 (wj.ds : Nat), .int .i64 (D : Nat), .bool ev]] w9 fun r' w' => r' = .returned (.int .i64 ((L.length + 1 : Nat) : Int)) ∧ SI B w' bs most (L ++ [⟨⟨2, 0, l, r, 0⟩, wj, D, ev⟩]) ∧ BK B w9 w') := Lib.hid (fun ev => add_any' (HSI.out.below HB9.out) ⟨⟨2, 0, l, r, 0⟩, wj, D, ev⟩ HRO.out.1 (HG.out ev) HNO.out (Nat.le_trans HBB.out HB9.out.size))
    have hpick : (p = false) ∨ (p = true ∧ q = false) ∨ (p = true ∧ q = true ∧ decide (-1 ≤ ap) = false) ∨ (p = true ∧ q = true ∧ decide (-1 ≤ ap) = true ∧ decide (ap ≤ 1) = false) ∨ (p = true ∧ q = true ∧ decide (-1 ≤ ap) = true ∧ decide (ap ≤ 1) = true) := by
      cases p <;> cases q <;> cases (decide (-1 ≤ ap)) <;> cases (decide (ap ≤ 1)) <;> simp
    clear hap hdl hdr hp hq hdb hD
    rcases hpick with rfl | ⟨rfl, rfl⟩ | ⟨rfl, rfl, ha⟩ | ⟨rfl, rfl, ha, ha2⟩ | ⟨rfl, rfl, ha, ha2⟩
    all_goals
      go_wp2_with fail
      refine (HADD.out _).mono ?_
      rintro e4 wz ⟨rfl, hsz, hbz⟩
      have HSZ := Lib.hid hsz
      have HBZ := Lib.hid hbz
      clear hsz hbz
      go_wp2
      go_ret2
      exact ⟨L.length + 1, _, _, rfl, HSZ.out, Ext.snoc L _, by simp, by omega, by rw [Nat.add_sub_cancel, List.getElem?_append_right (Nat.le_refl _)]; simp; rfl, rfl, (BK.of_below HB9.out HBB.out).trans HBZ.out⟩

end Go.Proofs.Ytflgmodofemifaa

/- the store: Power. -/
namespace Go.Proofs.Ytflgmodofemifaa
open Go.RowKit Go.Maps
set_option linter.unusedVariables false
set_option linter.unusedSimpArgs false

/-- the entry of a power -/
def powE (ex : En) (x k v s : Nat) : En := ⟨⟨3, 0, x, 0, k⟩, repW ex.we k v s, 1 + ex.depth, false⟩
theorem powE_good {L : List En} (h : Good L) {x k : Nat} {ex : En} (hx0 : 0 < x) (hx : L[x - 1]? = some ex) (hk : 2 ≤ k) (hk9 : k < 9223372036854775808) {v s : Nat} (hw : WVal (repW ex.we k v s)) (hn : (⟨3, 0, x, 0, k⟩ : Ru) ∉ L.map (·.ru)) : Good (L ++ [powE ex x k v s]) := by
  have l1 := (List.getElem?_eq_some_iff.1 hx).1
  refine h.snoc hw (.inr (.inr ⟨rfl, rfl, rfl, hx0, by show x ≤ _; omega, hk, hk9⟩)) ?_ ?_ hn
  · have d1 := h.depth _ _ hx
    show 1 + ex.depth ≤ L.length
    omega
  · show ex.we.len * k = _
    have e1 := h.len _ _ hx
    rw [show x - 1 + 1 = x by omega] at e1
    show _ = (txt1 (texts L) ⟨3, 0, x, 0, k⟩).length
    unfold txt1
    simp only [Nat.reduceEqDiff, if_false]
    rw [rep_len, e1, Nat.mul_comm]; rfl

set_option maxRecDepth 100000 in
theorem power_one {B bs most : Nat} {L : List En} {w : World} (h : SI B w bs most L) (x : Nat) (hx0 : 0 < x) (hx : x ≤ L.length) :
    Calls Try.prog 9 #[.pointer (some ⟨bs, 0, none⟩), .int .i64 (x : Nat), .int .i64 1] w fun e w' => e = .returned (.tuple #[.int .i64 (x : Nat), .nilIface]) ∧ w' = w := by
  have HSI := Lib.hid h
  have HX := Lib.hid hx
  have hx1 : ((x : Int) == 0) = false := by rw [beq_eq_false_iff_ne]; omega
  clear h hx hx0
  go_enter Try.func9, Try.ntmps9
  go_wp2_with fail
  refine (known_any HSI.out x HX.out).mono ?_
  rintro e w1 ⟨rfl, rfl⟩
  go_wp2
  go_ret2
  exact ⟨rfl, rfl⟩

set_option maxRecDepth 100000 in
set_option maxHeartbeats 4000000 in
theorem power_any {B bs most : Nat} {L : List En} {w : World} (h : SI B w bs most L) (x k : Nat) (ex : En) (hx0 : 0 < x) (hx : L[x - 1]? = some ex) (hk : 2 ≤ k) (hlen : ex.we.len * k ≤ ML) (hro : L.length < most) (hB : B ≤ w.heap.size) :
    Calls Try.prog 9 #[.pointer (some ⟨bs, 0, none⟩), .int .i64 (x : Nat), .int .i64 (k : Nat)] w (StPost B bs most L w ⟨3, 0, x, 0, k⟩) := by
  have HSI := Lib.hid h
  have l1 := (List.getElem?_eq_some_iff.1 hx).1
  have hpos := (h.good.we _ _ hx).pos
  have hk9 : k ≤ ML := Nat.le_trans (Nat.le_mul_of_pos_left k hpos) hlen
  rw [ML_val] at hk9
  have HL1 := Lib.hid l1
  have HHX := Lib.hid hx
  have HBB := Lib.hid hB
  have HRO := Lib.hid (And.intro hro h.room.2)
  have HP := Lib.hid hx0
  have HK := Lib.hid (And.intro hk (show k < 9223372036854775808 by omega))
  have hne : ∀ w, (binOp .neq 34 .nilIface .nilIface).run Try.prog w = .ok (.bool false) w := fun w => by kernel_rfl
  have hx1 : ((x : Int) == 0) = false := by rw [beq_eq_false_iff_ne]; omega
  have hk0 : ((k : Int) == 0) = false := by rw [beq_eq_false_iff_ne]; omega
  have hk1 : ((k : Int) == 1) = false := by rw [beq_eq_false_iff_ne]; omega
  have hkx : x - 1 + 1 = x := by omega
  have HAL := Lib.hid (fun (wx : World) (hb : Below w.heap.size w wx) => at_any (h.below hb) _ _ hx)
  rw [hkx] at HAL
  have HAD := Lib.hid (fun wx => lenMul_any ex.we.len k hpos (by omega) hlen wx)
  have HWJ := Lib.hid (fun wx => weRepeat_any ex.we (h.good.we _ _ hx) k hk hlen wx)
  unfold weV at HWJ
  obtain ⟨tot, htot⟩ : ∃ tot, tot = ex.we.len * k := ⟨_, rfl⟩
  rw [← htot] at HAD
  have hwf : RuWf ⟨3, 0, x, 0, k⟩ := ⟨by simp, by simp, by show x < _; have := h.room; omega, by simp, by show k < _; omega⟩
  have HWF := Lib.hid hwf
  rw [show ∀ e : En, (.agg (enC e).toArray : Value) = .agg #[.int .i64 (e.ru.kind : Nat), .int .u8 (e.ru.letter : Nat), .int .i64 (e.ru.left : Nat), .int .i64 (e.ru.right : Nat), .int .i64 (e.ru.times : Nat), .int .i64 (e.we.len : Nat), .int .i64 (e.we.lines : Nat), .int .i64 (e.we.head : Nat), .int .i64 (e.we.tail : Nat), .int .u64 (e.we.dv : Nat), .int .u64 (e.we.ds : Nat), .int .i64 (e.depth : Nat), .bool e.even] from fun e => rfl] at HAL
  clear h hx hx0 l1 hB hro hlen hkx htot hwf hk hk9 hpos
  go_enter Try.func9, Try.ntmps9
  go_wp2_with fail
  refine (known_any HSI.out x (by have := HL1.out; have := HP.out; omega)).mono ?_
  rintro e w1 ⟨rfl, rfl⟩
  go_wp2_with fail
  refine (HAL.out w1 (Below.refl _ _)).mono ?_
  rintro e w3 ⟨rfl, hb2⟩
  have HB3 := Lib.hid hb2
  clear hb2
  go_upto_region 10 with fail
  obtain ⟨w4, hw4⟩ : ∃ w4, w4 = w3.alloc (.cells (enC ex).toArray 74) := ⟨_, rfl⟩
  obtain ⟨b8, hb8⟩ : ∃ b8, b8 = w3.heap.size := ⟨_, rfl⟩
  have HX4 := Lib.hid (show BX w4 b8 (enC ex) by rw [hw4, hb8]; exact BX.alloc _ _ _)
  have HB4 : Hid (Below w1.heap.size w1 w4) := Lib.hid (by rw [hw4]; exact (HB3.out.alloc HB3.out.size _))
  rw [en_cells] at hw4
  rw [← hw4, ← hb8]
  clear hw4 hb8
  have x5 := HX4.out.cell (j := 5) rfl
  go_wp2_with fail
  refine (HAD.out _).mono ?_
  rintro e w5 ⟨rfl, rfl⟩
  go_upto_region 14 with fail
  obtain ⟨w6, hw6⟩ : ∃ w6, w6 = w5.alloc (.cells (ruC ⟨3, 0, x, 0, k⟩).toArray 67) := ⟨_, rfl⟩
  obtain ⟨b12, hb12⟩ : ∃ b12, b12 = w5.heap.size := ⟨_, rfl⟩
  have HZ6 := Lib.hid (show BX w6 b12 (ruC ⟨3, 0, x, 0, k⟩) by rw [hw6, hb12]; exact BX.alloc _ _ _)
  have hb56 : Below w5.heap.size w5 w6 := by rw [hw6]; exact below_alloc _ _
  have HX6 := Lib.hid (HX4.out.below hb56)
  have HB6 := Lib.hid (bthen HB4.out hb56)
  rw [show (ruC ⟨3, 0, x, 0, k⟩).toArray = #[.int .i64 3, .int .u8 0, .int .i64 (x : Nat), .int .i64 0, .int .i64 (k : Nat)] from rfl] at hw6
  rw [← hw6, ← hb12]
  clear hw6 hb12 hb56 x5
  have hfa := fun id hid => find_any (HSI.out.below HB6.out) ⟨3, 0, x, 0, k⟩ HWF.out id hid
  rw [show ruV ⟨3, 0, x, 0, k⟩ = .agg #[.int .i64 3, .int .u8 0, .int .i64 (x : Nat), .int .i64 0, .int .i64 (k : Nat)] from rfl] at hfa
  have z0 := HZ6.out.cell (j := 0) rfl
  have z1 := HZ6.out.cell (j := 1) rfl
  have z2 := HZ6.out.cell (j := 2) rfl
  have z3 := HZ6.out.cell (j := 3) rfl
  have z4 := HZ6.out.cell (j := 4) rfl
  rcases find_cases (L := L) ⟨3, 0, x, 0, k⟩ with ⟨i, e, hi, he⟩ | hno
  · have HF := Lib.hid (hfa (i + 1) (.inl ⟨e, by omega, hi, he⟩))
    have HI := Lib.hid (And.intro hi he)
    obtain ⟨id, hid⟩ : ∃ id, id = i + 1 := ⟨_, rfl⟩
    have HID := Lib.hid hid
    rw [← hid] at HF
    have hi0 : ((id : Int) != 0) = true := by simp; omega
    clear hfa hi he hid
    go_wp2_with fail
    refine HF.out.mono ?_
    rintro e2 w7 ⟨rfl, hb7⟩
    have HB7 := Lib.hid (bthen HB6.out hb7)
    clear hb7 z0 z1 z2 z3 z4
    go_wp2
    go_ret2
    exact ⟨id, L, e, rfl, HSI.out.below HB7.out, Ext.refl L, by omega, by have := HID.out; omega, by rw [HID.out]; exact HI.out.1, HI.out.2, BK.of_below HB7.out HBB.out⟩
  · have HF := Lib.hid (hfa 0 (.inr ⟨rfl, hno, HRO.out.1⟩))
    have HNO := Lib.hid hno
    clear hfa hno
    go_wp2_with fail
    refine HF.out.mono ?_
    rintro e2 w7 ⟨rfl, hb7⟩
    have HB7 := Lib.hid (bthen HB6.out hb7)
    have HX7 := Lib.hid (HX6.out.below hb7)
    have HZ7 := Lib.hid (HZ6.out.below hb7)
    clear hb7 z0 z1 z2 z3 z4
    have x5 := HX7.out.cell (j := 5) rfl
    have x6 := HX7.out.cell (j := 6) rfl
    have x7 := HX7.out.cell (j := 7) rfl
    have x8 := HX7.out.cell (j := 8) rfl
    have x9 := HX7.out.cell (j := 9) rfl
    have x10 := HX7.out.cell (j := 10) rfl
    go_wp2_with fail
    refine (HWJ.out _).mono ?_
    rintro e3 w8 ⟨v, s, rfl, hval, hb8⟩
    have HB8 := Lib.hid (bthen HB7.out hb8)
    have HX8 := Lib.hid (HX7.out.below hb8)
    have HZ8 := Lib.hid (HZ7.out.below hb8)
    have HVAL := Lib.hid hval
    clear hval hb8 x5 x6 x7 x8 x9 x10
    obtain ⟨wj, hwj⟩ : ∃ wj, wj = repW ex.we k v s := ⟨_, rfl⟩
    rw [← hwj]
    have HWJ2 := Lib.hid hwj
    clear hwj
    go_upto_region 20 with fail
    obtain ⟨w9, hw9⟩ : ∃ w9, w9 = w8.alloc (.cells (weCs wj).toArray 72) := ⟨_, rfl⟩
    obtain ⟨b15, hb15⟩ : ∃ b15, b15 = w8.heap.size := ⟨_, rfl⟩
    have HQ9 := Lib.hid (show BX w9 b15 (weCs wj) by rw [hw9, hb15]; exact BX.alloc _ _ _)
    have hb89 : Below w8.heap.size w8 w9 := by rw [hw9]; exact below_alloc _ _
    have HX9 := Lib.hid (HX8.out.below hb89)
    have HZ9 := Lib.hid (HZ8.out.below hb89)
    have HB9 := Lib.hid (bthen HB8.out hb89)
    rw [show (weCs wj).toArray = #[.int .i64 (wj.len : Nat), .int .i64 (wj.lines : Nat), .int .i64 (wj.head : Nat), .int .i64 (wj.tail : Nat), .int .u64 (wj.dv : Nat), .int .u64 (wj.ds : Nat)] from rfl] at hw9
    rw [← hw9, ← hb15]
    clear hw9 hb15 hb89
    have x11 := HX9.out.cell (j := 11) rfl
    have z0 := HZ9.out.cell (j := 0) rfl
    have z1 := HZ9.out.cell (j := 1) rfl
    have z2 := HZ9.out.cell (j := 2) rfl
    have z3 := HZ9.out.cell (j := 3) rfl
    have z4 := HZ9.out.cell (j := 4) rfl
    have q0 := HQ9.out.cell (j := 0) rfl
    have q1 := HQ9.out.cell (j := 1) rfl
    have q2 := HQ9.out.cell (j := 2) rfl
    have q3 := HQ9.out.cell (j := 3) rfl
    have q4 := HQ9.out.cell (j := 4) rfl
    have q5 := HQ9.out.cell (j := 5) rfl
    obtain ⟨dx, hdx⟩ : ∃ d, d = ex.depth := ⟨_, rfl⟩
    rw [← hdx] at x11
    have hdb : dx ≤ 1048576 := by
      have h1 := HSI.out.good.depth _ _ HHX.out
      have h3 := HL1.out
      have h4 := HRO.out
      omega
    obtain ⟨D, hD⟩ : ∃ D, D = 1 + dx := ⟨_, rfl⟩
    have HDD := Lib.hid (show D = 1 + ex.depth by rw [hD, hdx])
    have hsum : (1 : Int) + (dx : Int) = (D : Int) := by omega
    have hwD : wrap64 (D : Int) = (D : Int) := by unfold wrap64; omega
    have hwD2 : IntKind.i64.wrap (D : Int) = (D : Int) := IntWalk.i64_in _ (by omega)
    have HG : Hid (Good (L ++ [⟨⟨3, 0, x, 0, k⟩, wj, D, false⟩])) := Lib.hid (by
      rw [HWJ2.out, HDD.out]
      exact powE_good HSI.out.good HP.out HHX.out HK.out.1 HK.out.2 HVAL.out HNO.out)
    have HADD : Hid (Calls Try.prog 24 #[.pointer (some ⟨bs, 0, none⟩), .agg #[.int .i64 3, .int .u8 0, .int .i64 (x : Nat), .int .i64 0, .int .i64 (k : Nat), .int .i64 (wj.len : Nat), .int .i64 (wj.lines : Nat), .int .i64 (wj.head : Nat), .int .i64 (wj.tail : Nat), .int .u64 (wj.dv : Nat), .int .u64 (wj.ds : Nat), .int .i64 (D : Nat), .bool false]] w9 fun r' w' => r' = .returned (.int .i64 ((L.length + 1 : Nat) : Int)) ∧ SI B w' bs most (L ++ [⟨⟨3, 0, x, 0, k⟩, wj, D, false⟩]) ∧ BK B w9 w') := Lib.hid (add_any' (HSI.out.below HB9.out) ⟨⟨3, 0, x, 0, k⟩, wj, D, false⟩ HRO.out.1 HG.out HNO.out (Nat.le_trans HBB.out HB9.out.size))
    clear hdx hdb hD
    go_wp2_with fail
    refine HADD.out.mono ?_
    rintro e4 wz ⟨rfl, hsz, hbz⟩
    have HSZ := Lib.hid hsz
    have HBZ := Lib.hid hbz
    clear hsz hbz
    go_wp2
    go_ret2
    exact ⟨L.length + 1, _, _, rfl, HSZ.out, Ext.snoc L _, by simp, by omega, by rw [Nat.add_sub_cancel, List.getElem?_append_right (Nat.le_refl _)]; simp; rfl, rfl, (BK.of_below HB9.out HBB.out).trans HBZ.out⟩

end Go.Proofs.Ytflgmodofemifaa

/- the store: New, Rule, Weight, Len. -/
namespace Go.Proofs.Ytflgmodofemifaa
open Go.RowKit Go.Maps
set_option linter.unusedVariables false
set_option linter.unusedSimpArgs false

set_option maxRecDepth 100000 in
theorem storeNew_any (most : Nat) (hm : most ≤ 1048576) (w : World) : Calls Try.prog 7 #[.int .i64 (most : Nat)] w fun e w' => ∃ bs, e = .returned (.pointer (some ⟨bs, 0, none⟩)) ∧ SI w.heap.size w' bs most [] ∧ Below w.heap.size w w' := by
  have HC := Lib.hid (fun wx => lenClip_any most hm wx)
  have HM := Lib.hid hm
  have hmm := @run_makeMap Try.prog
  clear hm
  go_enter Try.func7, Try.ntmps7
  go_wp2_with fail
  refine (HC.out _).mono ?_
  rintro e w1 ⟨rfl, rfl⟩
  go_wp2
  go_ret
  obtain ⟨w2, hw2⟩ : ∃ w2, w2 = (w1.alloc (.map #[] 0)).alloc (.cells [.int .i64 (most : Nat), .slice none 0 0, .map (some w1.heap.size)].toArray 64) := ⟨_, rfl⟩
  refine ⟨w1.heap.size + 1, by simp, ?_, (below_alloc _ _).alloc (by simp) _⟩
  refine ⟨⟨none, 0, w1.heap.size, ?_, World.ownsRow_nil _ _ _ _, ⟨.map [], ?_, mapR_nil⟩, (fun g hg => by cases hg), by omega, Nat.le_refl _, by simp; omega⟩, by omega, Good.nil, ⟨Nat.zero_le _, HM.out⟩⟩
  · exact BX.allocAt (w := w1.alloc (.map #[] 0)) (b := w1.heap.size + 1) (by simp) [.int .i64 (most : Nat), .slice none 0 0, .map (some w1.heap.size)] 64
  · exact (World.ownsMap_made w1 Try.prog 67 (plainElem (H := Unit) Try.prog 39)).alloc _

set_option maxRecDepth 100000 in
theorem storeLen_any {B bs most : Nat} {L : List En} {w : World} (h : SI B w bs most L) : Calls Try.prog 49 #[.pointer (some ⟨bs, 0, none⟩)] w fun e w' => e = .returned (.int .i64 (L.length : Nat)) ∧ w' = w := by
  obtain ⟨⟨a, c, bm, h1, -⟩, -, -, hr⟩ := h
  have c1 := h1.cell (j := 1) rfl
  obtain ⟨n, hn⟩ : ∃ n, n = L.length := ⟨_, rfl⟩
  rw [← hn] at c1 ⊢
  clear hr h1 hn
  go_enter Try.func49, Try.ntmps49
  go_wp2
  go_ret
  exact ⟨rfl, rfl⟩

set_option maxRecDepth 100000 in
set_option maxHeartbeats 1000000 in
theorem storeRule_any {B bs most : Nat} {L : List En} {w : World} (h : SI B w bs most L) (id : Nat) (e : En) (h0 : 0 < id) (hi : L[id - 1]? = some e) : Calls Try.prog 61 #[.pointer (some ⟨bs, 0, none⟩), .int .i64 (id : Nat)] w fun r w' => r = .returned (.tuple #[ruV e.ru, .nilIface]) ∧ Below w.heap.size w w' := by
  obtain ⟨w1, hw1⟩ : ∃ w1, w1 = w.alloc (.cells [.int .i64 0, .int .u8 0, .int .i64 0, .int .i64 0, .int .i64 0].toArray 67) := ⟨_, rfl⟩
  have HB := Lib.hid (show Below w.heap.size w w1 by rw [hw1]; exact below_alloc _ _)
  have HZ := Lib.hid (show BX w1 w.heap.size [.int .i64 0, .int .u8 0, .int .i64 0, .int .i64 0, .int .i64 0] by rw [hw1]; exact BX.alloc _ _ _)
  have h9 := h.below HB.out
  have HSI := Lib.hid h9
  obtain ⟨⟨a, c, bm, h1, h2, -⟩, -, -, hr⟩ := h9
  have hil := (List.getElem?_eq_some_iff.1 hi).1
  obtain ⟨g, rfl⟩ := row_addr h2 (by omega)
  have hrg0 := row_range h2 hi
  have hrg : w1.rangeAt g ((id - 1) * 13) (ruC e.ru) := fun j v hv => hrg0 j v (by
    unfold enC
    rw [List.append_assoc, List.getElem?_append_left (List.getElem?_eq_some_iff.1 hv).1]; exact hv)
  have c1 := h1.cell (j := 1) rfl
  obtain ⟨n, hn⟩ : ∃ n, n = L.length := ⟨_, rfl⟩
  rw [← hn] at c1 hil
  obtain ⟨i, hi'⟩ : ∃ i, i = id - 1 := ⟨_, rfl⟩
  rw [← hi'] at hrg hil
  have hsub : (id : Int) - 1 = (i : Int) := by omega
  have hin : (i : Int) < (n : Int) := by omega
  have hk0 : ((id : Int) == 0) = false := by rw [beq_eq_false_iff_ne]; omega
  have hwk : IntKind.i64.wrap (i : Int) = (i : Int) := IntWalk.i64_in _ (by have := hr.1; have := hr.2; omega)
  have HRG := Lib.hid hrg
  have HTH := Lib.hid (HZ.out.there 0 5 (by simp))
  have HW1 := Lib.hid hw1
  have HKN := Lib.hid (show id ≤ L.length by omega)
  have hone : ((ruC e.ru).toArray).all (·.oneCell') = true := by simp [ruC, Value.oneCell']
  clear hr h1 h2 hn hi' hrg hrg0 hw1 hi h
  go_enter Try.func61, Try.ntmps61
  go_upto_region 1 with fail
  rw [← HW1.out]
  go_wp2_with fail
  refine (known_any HSI.out id HKN.out).mono ?_
  rintro e2 w2 ⟨rfl, rfl⟩
  have hrg := HRG.out
  go_wp2_with (first | (refine wpList_load_mid rfl 67 _ rfl g (i * 13) rfl _ _ hrg Try.underlying67 rfl ru_info ?_; clear hrg) | (refine wpList_store_mid rfl 67 _ _ rfl w.heap.size 0 (ruC e.ru).toArray rfl rfl HTH.out ru_info hone ?_))
  have hx8 := HZ.out.putAll (ruC e.ru) rfl
  have hb9 := belowSetCells HB.out (Nat.le_refl _) 0 (ruC e.ru) HB.out.size
  refine bodyPost_ret (res_cell_tmp rfl _ _ w.heap.size _ _ rfl hx8.rng Try.underlying67 rfl ru_info) rfl ?_
  exact ⟨rfl, hb9⟩

set_option maxRecDepth 100000 in
set_option maxHeartbeats 1000000 in
theorem storeWeight_any {B bs most : Nat} {L : List En} {w : World} (h : SI B w bs most L) (id : Nat) (e : En) (h0 : 0 < id) (hi : L[id - 1]? = some e) : Calls Try.prog 50 #[.pointer (some ⟨bs, 0, none⟩), .int .i64 (id : Nat)] w fun r w' => r = .returned (.tuple #[weV e.we, .nilIface]) ∧ Below w.heap.size w w' := by
  obtain ⟨w1, hw1⟩ : ∃ w1, w1 = w.alloc (.cells weZ.toArray 72) := ⟨_, rfl⟩
  have HB := Lib.hid (show Below w.heap.size w w1 by rw [hw1]; exact below_alloc _ _)
  have HZ := Lib.hid (show BX w1 w.heap.size weZ by rw [hw1]; exact BX.alloc _ _ _)
  have HSI := Lib.hid (h.below HB.out)
  have hil := (List.getElem?_eq_some_iff.1 hi).1
  have hk0 : ((id : Int) == 0) = false := by rw [beq_eq_false_iff_ne]; omega
  have HAT := Lib.hid (at_any HSI.out _ _ hi)
  rw [show id - 1 + 1 = id by omega] at HAT
  have HW1 := Lib.hid hw1
  unfold weZ at HW1
  have HKN := Lib.hid (show id ≤ L.length by omega)
  have hfl : ∀ w, (Instr.field 74 (.agg (enC e).toArray) 1).run Try.prog w = .ok (.agg (weCs e.we).toArray) w := fun w => by kernel_rfl
  have hone : ((weCs e.we).toArray).all (·.oneCell') = true := by simp [weCs, Value.oneCell']
  clear hw1 hi h hil
  go_enter Try.func50, Try.ntmps50
  go_upto_region 1 with fail
  rw [← HW1.out]
  go_wp2_with fail
  refine (known_any HSI.out id HKN.out).mono ?_
  rintro e2 w2 ⟨rfl, rfl⟩
  go_wp2_with fail
  refine HAT.out.mono ?_
  rintro e2 w3 ⟨rfl, hb3⟩
  have HB3 := Lib.hid (bthen HB.out hb3)
  have HZ3 := Lib.hid (HZ.out.below hb3)
  clear hb3
  have HTH := Lib.hid (HZ3.out.there 0 6 (by simp [weZ]))
  go_wp2_with (refine wpList_store_mid rfl 72 _ _ rfl w.heap.size 0 (weCs e.we).toArray rfl rfl HTH.out we_info hone ?_)
  have hx8 := HZ3.out.putAll (weCs e.we) rfl
  have hb9 := belowSetCells HB3.out (Nat.le_refl _) 0 (weCs e.we) HB3.out.size
  refine bodyPost_ret (res_cell_tmp rfl _ _ w.heap.size _ _ rfl hx8.rng Try.underlying72 rfl we_info) rfl ?_
  exact ⟨rfl, hb9⟩

end Go.Proofs.Ytflgmodofemifaa
