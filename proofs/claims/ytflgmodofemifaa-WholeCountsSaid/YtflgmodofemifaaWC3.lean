/-
  Joined texts: weights: Valid, Unit, Letter, Join, Repeat. · structs in a block of their own: what its cells hold, and that they may be written; results that are read out of such a block. · weights: Letter, Join. · weights: Join.
-/
import Derived.Test.YtflgmodofemifaaWC2
import Derived.Deep.MidRow
import Derived.Laws.ResultCell
import Derived.Deep.LoopGhost
import Derived.Deep.Cut
import Derived.Deep.CutRange
import Derived.Deep.DeepCutAuto
import Derived.Deep.RegionLaw
import Derived.Deep.RegionHeld3

/- weights: Valid, Unit, Letter, Join, Repeat. -/
namespace Go.Proofs.Ytflgmodofemifaa
open Go.RowKit
set_option linter.unusedVariables false
set_option linter.unusedSimpArgs false

/-- a weight -/
structure We where
  len : Nat
  lines : Nat
  head : Nat
  tail : Nat
  dv : Nat
  ds : Nat
/-- as a value -/
def weV (x : We) : Value := .agg #[.int .i64 (x.len : Nat), .int .i64 (x.lines : Nat), .int .i64 (x.head : Nat), .int .i64 (x.tail : Nat), .int .u64 (x.dv : Nat), .int .u64 (x.ds : Nat)]
/-- as cells -/
def weC (x : We) : List Value := [.int .i64 (x.len : Nat), .int .i64 (x.lines : Nat), .int .i64 (x.head : Nat), .int .i64 (x.tail : Nat), .int .u64 (x.dv : Nat), .int .u64 (x.ds : Nat)]
/-- valid, and of a text that is not empty -/
structure WVal (x : We) : Prop where
  pos : 0 < x.len
  max : x.len ≤ ML
  none : x.lines = 0 → x.head = x.len ∧ x.tail = x.len
  some : 0 < x.lines → x.head + x.tail + x.lines ≤ x.len ∧ (x.lines = 1 → x.head + x.tail + 1 = x.len)
  dv : x.dv < PP
  ds : x.ds = 1103515245 ^ x.len % PP

/-- a weight in memory -/
structure WC (w : World) (b o : Nat) (x : We) : Prop where
  c0 : w.cell? ⟨b, o, Option.none⟩ = Option.some (.int .i64 (x.len : Nat))
  c1 : w.cell? ⟨b, o + 1, Option.none⟩ = Option.some (.int .i64 (x.lines : Nat))
  c2 : w.cell? ⟨b, o + 2, Option.none⟩ = Option.some (.int .i64 (x.head : Nat))
  c3 : w.cell? ⟨b, o + 3, Option.none⟩ = Option.some (.int .i64 (x.tail : Nat))
  c4 : w.cell? ⟨b, o + 4, Option.none⟩ = Option.some (.int .u64 (x.dv : Nat))
  c5 : w.cell? ⟨b, o + 5, Option.none⟩ = Option.some (.int .u64 (x.ds : Nat))
theorem WC.below {w w' : World} {b o x} (h : WC w b o x) (hb : Below w.heap.size w w') : WC w' b o x :=
  ⟨below_cell hb h.c0, below_cell hb h.c1, below_cell hb h.c2, below_cell hb h.c3, below_cell hb h.c4, below_cell hb h.c5⟩
theorem WC.fr {w w' : World} {b o x} {S : Nat → Prop} (h : WC w b o x) (hf : Fr S w w') (hn : ¬ S b) : WC w' b o x :=
  ⟨hf.cell h.c0 hn, hf.cell h.c1 hn, hf.cell h.c2 hn, hf.cell h.c3 hn, hf.cell h.c4 hn, hf.cell h.c5 hn⟩
theorem alloc_wc (w : World) (x : We) (t : TypeId) : WC (w.alloc (.cells (weC x).toArray t)) w.heap.size 0 x :=
  ⟨by simp [weC], by simp [weC], by simp [weC], by simp [weC], by simp [weC], by simp [weC]⟩
theorem WC.lt {w : World} {b o x} (h : WC w b o x) : b < w.heap.size := World.block_lt_of_cell? w ⟨b, o, Option.none⟩ h.c0

set_option maxRecDepth 100000 in
set_option maxHeartbeats 1000000 in
theorem weValid_any (x : We) (hx : WVal x) (w : World) : Calls Try.prog 41 #[weV x] w fun e w' => e = .returned (.bool true) ∧ Below w.heap.size w w' := by
  obtain ⟨w1, hw1⟩ : ∃ w1, w1 = w.alloc (.cells (weC x).toArray 72) := ⟨_, rfl⟩
  have HB := Lib.hid (show Below w.heap.size w w1 by rw [hw1]; exact below_alloc _ _)
  have hwc : WC w1 w.heap.size 0 x := by rw [hw1]; exact alloc_wc _ _ _
  have HW1 := Lib.hid hw1
  unfold weC at HW1
  obtain ⟨x0, x1, x2, x3, x4, x5⟩ := hwc
  unfold weV
  cases x with
  | mk len lines head tail dv ds =>
    obtain ⟨hpos, hmax, hno, hso, hdv, hds⟩ := hx
    simp only at *
    have HM := Lib.hid hmax
    have HDS := Lib.hid hds
    have hl0 : ((len : Int) == 0) = false := by rw [beq_eq_false_iff_ne]; omega
    have hdp : decide ((2305843009213693951 : Int) ≤ (dv : Int)) = false := by rw [PP_val] at hdv; rw [decide_eq_false_iff_not]; omega
    rw [ML_val] at hmax
    have hcv : IntKind.u64.wrap (len : Int) = (len : Int) := by rw [IntKind.wrap_u64]; omega
    have HL64 : Hid (len < 18446744073709551616) := Lib.hid (by omega)
    clear hw1 hds hdv
    by_cases hz : lines = 0
    · obtain ⟨h1, h2⟩ := hno hz
      have hzl : ((lines : Int) == 0) = true := by rw [beq_iff_eq]; omega
      have hh : ((head : Int) != (len : Int)) = false := by rw [bne_eq_false_iff_eq]; omega
      have ht : ((tail : Int) != (len : Int)) = false := by rw [bne_eq_false_iff_eq]; omega
      clear hno hso h1 h2 hz hmax hpos
      go_enter Try.func41, Try.ntmps41
      go_upto_region 1 with fail
      rw [← HW1.out]
      go_wp2_with fail
      refine (lenValid_any len HM.out _).mono ?_
      rintro e w2 ⟨rfl, rfl⟩
      go_wp2
      go_region_held3 (fun wx => wx.cell? ⟨w.heap.size, 0, none⟩ = some (.int .i64 (len : Nat)) ∧ wx.cell? ⟨w.heap.size, 5, none⟩ = some (.int .u64 (ds : Nat))) (first | exact ⟨x0, x5⟩ | go_keep) (first
        | (go_at_call 58; refine (powm_any 1103515245 len (by decide) HL64.out _).mono ?_; rintro e w3 ⟨r, hr, rfl, rfl⟩; obtain rfl : r = ds := by rw [hr, HDS.out]))
      go_wp2
      go_ret
      exact ⟨ret_eq (by simp), HB.out.drew⟩
    · have hzl : ((lines : Int) == 0) = false := by rw [beq_eq_false_iff_ne]; omega
      obtain ⟨h1, h2⟩ := hso (by omega)
      obtain ⟨d1, hd1⟩ : ∃ d, d = len - head := ⟨_, rfl⟩
      obtain ⟨d2, hd2⟩ : ∃ d, d = len - head - tail := ⟨_, rfl⟩
      have hs1 : (len : Int) - (head : Int) = (d1 : Int) := by omega
      have hs2 : (d1 : Int) - (tail : Int) = (d2 : Int) := by omega
      have hw1 : IntKind.i64.wrap (d1 : Int) = (d1 : Int) := IntWalk.i64_in _ (by omega)
      have hw2 : IntKind.i64.wrap (d2 : Int) = (d2 : Int) := IntWalk.i64_in _ (by omega)
      have ht1 : decide (len < head) = false := by rw [decide_eq_false_iff_not]; omega
      have ht2 : decide (d1 < tail) = false := by rw [decide_eq_false_iff_not]; omega
      have ht3 : decide (d2 < lines) = false := by rw [decide_eq_false_iff_not]; omega
      have hone : ((lines : Int) == 1) = true ∧ ((d2 : Int) != 1) = false ∨ ((lines : Int) == 1) = false := by
        by_cases e : lines = 1
        · exact .inl ⟨by rw [beq_iff_eq]; omega, by rw [bne_eq_false_iff_eq]; have := h2 e; omega⟩
        · exact .inr (by rw [beq_eq_false_iff_ne]; omega)
      clear hno hso h1 h2 hz hmax hpos hd1 hd2
      rcases hone with ⟨ho1, ho2⟩ | ho1
      all_goals
        go_enter Try.func41, Try.ntmps41
        go_upto_region 1 with fail
        rw [← HW1.out]
        go_wp2_with fail
        refine (lenValid_any len HM.out _).mono ?_
        rintro e w2 ⟨rfl, rfl⟩
        go_wp2
        go_region_held3 (fun wx => wx.cell? ⟨w.heap.size, 0, none⟩ = some (.int .i64 (len : Nat)) ∧ wx.cell? ⟨w.heap.size, 5, none⟩ = some (.int .u64 (ds : Nat))) (first | exact ⟨x0, x5⟩ | go_keep) (first
          | (go_at_call 58; refine (powm_any 1103515245 len (by decide) HL64.out _).mono ?_; rintro e w3 ⟨r, hr, rfl, rfl⟩; obtain rfl : r = ds := by rw [hr, HDS.out]))
        go_wp2
        go_ret
        exact ⟨ret_eq (by simp), HB.out.drew⟩

end Go.Proofs.Ytflgmodofemifaa

/- structs in a block of their own: what its cells hold, and that they may be written; results that are read out of such a block. -/
namespace Go.Proofs.Ytflgmodofemifaa
open Go.RowKit
set_option linter.unusedVariables false
set_option linter.unusedSimpArgs false

/-- block b holds the values cs, and may be written -/
structure BX (w : World) (b : Nat) (cs : List Value) : Prop where
  rng : w.rangeAt b 0 cs
  fz : ∀ j, w.frozen? ⟨b, j, none⟩ = false
  lt : b < w.heap.size

theorem BX.cell {w : World} {b : Nat} {cs : List Value} (h : BX w b cs) {j : Nat} {v : Value} (hj : cs[j]? = some v) : w.cell? ⟨b, j, none⟩ = some v := by
  have := h.rng j v hj
  rwa [Nat.zero_add] at this
theorem BX.fr {w w' : World} {b : Nat} {cs : List Value} {S : Nat → Prop} (h : BX w b cs) (hf : Fr S w w') (hn : ¬ S b) : BX w' b cs :=
  ⟨fun j v hj => hf.cell (h.rng j v hj) hn, fun j => (hf.frozen (x := ⟨b, j, none⟩) h.lt hn).trans (h.fz j), Nat.lt_of_lt_of_le h.lt hf.size⟩
theorem BX.below {w w' : World} {b : Nat} {cs : List Value} (h : BX w b cs) (hb : Below w.heap.size w w') : BX w' b cs :=
  h.fr (S := fun _ => False) (.of_below hb) (fun h => h)
theorem BX.drew {w : World} {b : Nat} {cs : List Value} (h : BX w b cs) : BX w.drew b cs := ⟨h.rng, h.fz, h.lt⟩
theorem BX.alloc (w : World) (cs : List Value) (t : TypeId) : BX (w.alloc (.cells cs.toArray t)) w.heap.size cs :=
  ⟨fun j v hj => by
    rw [Nat.zero_add]
    simp only [World.cell?, heap_new_at rfl]
    simpa using hj, fun j => by simp only [World.frozen?, heap_new_at rfl]; simp, by simp⟩
theorem BX.alloc2 (w : World) (cs : List Value) (t : TypeId) (o : Obj) : BX ((w.alloc (.cells cs.toArray t)).alloc o) w.heap.size cs := (BX.alloc w cs t).below (below_alloc _ _)
theorem BX.allocAt {w : World} {b : Nat} (hb : b = w.heap.size) (cs : List Value) (t : TypeId) : BX (w.alloc (.cells cs.toArray t)) b cs := by subst hb; exact BX.alloc w cs t
theorem BX.there {w : World} {b : Nat} {cs : List Value} (h : BX w b cs) (o n : Nat) (hn : o + n ≤ cs.length) : w.there b o n := fun j hj => by
  obtain ⟨v, hv⟩ : ∃ v, cs[o + j]? = some v := ⟨_, List.getElem?_eq_getElem (by omega)⟩
  exact ⟨by rw [h.cell hv]; rfl, h.fz _⟩
/-- a part of it -/
theorem BX.sub {w : World} {b : Nat} {cs : List Value} (h : BX w b cs) (p q r : List Value) (hc : cs = p ++ q ++ r) : w.rangeAt b p.length q := fun j v hj => by
  have hjl : j < q.length := (List.getElem?_eq_some_iff.1 hj).1
  refine h.cell ?_
  rw [hc, List.append_assoc, List.getElem?_append_right (by omega), List.getElem?_append_left (by omega)]
  rw [← hj]; congr 1; omega
theorem BX.all {w : World} {b : Nat} {cs : List Value} (h : BX w b cs) : w.rangeAt b 0 cs := h.rng

theorem frSetCells (b : Nat) : ∀ (vs : List Value) (o : Nat) (w : World), Fr (fun i => i = b) w (w.setCells b o vs)
  | [], _, w => Fr.refl _ w
  | v :: vs, o, w => by
    show Fr _ w ((w.setCell ⟨b, o, none⟩ v).setCells b (o + 1) vs)
    exact (Fr.setCell (S := fun i => i = b) (Fr.refl _ w) (p := ⟨b, o, none⟩) rfl v).trans (frSetCells b vs (o + 1) _)
theorem frozen_setCells (b : Nat) : ∀ (vs : List Value) (o : Nat) (w : World) (a : Addr), (w.setCells b o vs).frozen? a = w.frozen? a
  | [], _, w, a => rfl
  | v :: vs, o, w, a => by
    show ((w.setCell ⟨b, o, none⟩ v).setCells b (o + 1) vs).frozen? a = _
    rw [frozen_setCells b vs (o + 1) _ a, World.frozen?_setCell]
theorem cell_setCells_out (b : Nat) : ∀ (vs : List Value) (o : Nat) (w : World) (j : Nat), j < o ∨ o + vs.length ≤ j → (w.setCells b o vs).cell? ⟨b, j, none⟩ = w.cell? ⟨b, j, none⟩
  | [], _, w, j, _ => rfl
  | v :: vs, o, w, j, h => by
    show ((w.setCell ⟨b, o, none⟩ v).setCells b (o + 1) vs).cell? ⟨b, j, none⟩ = _
    rw [cell_setCells_out b vs (o + 1) _ j (by simp only [List.length_cons] at h; omega)]
    exact World.cell?_setCell_other _ _ _ _ (fun e => by have := (Addr.mk.inj e).2.1; simp only [List.length_cons] at h; omega)
/-- a part of it is written -/
theorem BX.put {w : World} {b : Nat} {p q r : List Value} (h : BX w b (p ++ q ++ r)) (q' : List Value) (hl : q'.length = q.length) : BX (w.setCells b p.length q') b (p ++ q' ++ r) := by
  refine ⟨fun j v hj => ?_, fun j => by rw [frozen_setCells]; exact h.fz j, Nat.lt_of_lt_of_le h.lt (frSetCells b q' p.length w).size⟩
  rw [Nat.zero_add]
  by_cases h1 : j < p.length
  · rw [cell_setCells_out _ _ _ _ _ (.inl h1)]
    refine h.cell ?_
    rw [List.append_assoc, List.getElem?_append_left h1] at hj ⊢
    exact hj
  · by_cases h2 : j < p.length + q'.length
    · rw [List.append_assoc, List.getElem?_append_right (by omega), List.getElem?_append_left (by omega)] at hj
      have := World.rangeAt_setCells_same w b p.length q' (h.there _ _ (by simp; omega)) (j - p.length) v hj
      rwa [show p.length + (j - p.length) = j by omega] at this
    · rw [cell_setCells_out _ _ _ _ _ (.inr (by omega))]
      refine h.cell ?_
      rw [List.append_assoc, List.getElem?_append_right (by omega), List.getElem?_append_right (by omega)] at hj ⊢
      rw [← hj, hl]
theorem BX.putAll {w : World} {b : Nat} {q : List Value} (h : BX w b q) (q' : List Value) (hl : q'.length = q.length) : BX (w.setCells b 0 q') b q' := by
  have := BX.put (p := []) (q := q) (r := []) (by simpa using h) q' hl
  simpa using this
theorem BX.set1 {w : World} {b : Nat} {cs : List Value} (h : BX w b cs) {j : Nat} (hj : j < cs.length) (v : Value) : BX (w.setCell ⟨b, j, none⟩ v) b (cs.set j v) := by
  refine ⟨fun i u hi => ?_, fun i => by rw [World.frozen?_setCell]; exact h.fz i, Nat.lt_of_lt_of_le h.lt (Fr.setCell (S := fun i => i = b) (Fr.refl _ w) (p := ⟨b, j, none⟩) rfl v).size⟩
  rw [Nat.zero_add]
  obtain ⟨x, hx⟩ : ∃ x, cs[j]? = some x := ⟨_, List.getElem?_eq_getElem hj⟩
  by_cases e : i = j
  · subst e
    rw [List.getElem?_set_self hj] at hi
    rw [set_same (h.cell hx), ← hi]
  · rw [List.getElem?_set_ne (Ne.symm e)] at hi
    exact set_other (fun h => e ((Addr.mk.inj h).2.1).symm) (h.cell hi)
theorem belowSetCells {B : Nat} {a w : World} {b : Nat} (h : Below B a w) (hb : B ≤ b) (o : Nat) (vs : List Value) (hB : B ≤ w.heap.size) : Below B a (w.setCells b o vs) :=
  h.trans ((frSetCells b vs o w).below (fun i hi => by rw [hi]; exact hb) hB)

/-- a result that is a struct in a block -/
theorem res_cell {P : Program} {fn : Func} {p : Tmp} {ty : TypeId} (h : fn.results = #[.cell p ty]) (tmps : Array Value) (w : World) (b : Nat) (cs : List Value) (d : TypeDesc) (hp : tmps.getD p undef = .pointer (some ⟨b, 0, none⟩)) (hr : w.rangeAt b 0 cs)
    (hu : P.underlying ty = some d) (hd : d.isRow = true) (hi : (P.info? ty).map (·.size) = some cs.length) : (results fn tmps).run P w = .ok (.agg cs.toArray) w := by
  have hload := run_loadVar_mid (P := P) w b 0 ty cs d hr hu hd hi
  have h2 : (results fn tmps).run P w = ((asAddr (tmps.getD p undef)).run P w).andThen fun a w₁ => (loadVar ty a).run P w₁ := by
    simp only [results, h]
    simp [Sem.run_bind, Result.andThen]
  rw [h2, hp]
  simp [asAddr, Result.andThen, hload]
theorem res_cell_tmp {P : Program} {fn : Func} {p u : Tmp} {ty : TypeId} (h : fn.results = #[.cell p ty, .tmp u]) (tmps : Array Value) (w : World) (b : Nat) (cs : List Value) (d : TypeDesc) (hp : tmps.getD p undef = .pointer (some ⟨b, 0, none⟩)) (hr : w.rangeAt b 0 cs)
    (hu : P.underlying ty = some d) (hd : d.isRow = true) (hi : (P.info? ty).map (·.size) = some cs.length) : (results fn tmps).run P w = .ok (.tuple #[.agg cs.toArray, tmps.getD u undef]) w := by
  have hload := run_loadVar_mid (P := P) w b 0 ty cs d hr hu hd hi
  rw [results_cell_tmp h, hp]
  simp [asAddr, Result.andThen, hload]

end Go.Proofs.Ytflgmodofemifaa

/- weights: Letter, Join. -/
namespace Go.Proofs.Ytflgmodofemifaa
open Go.RowKit
set_option linter.unusedVariables false
set_option linter.unusedSimpArgs false

/-- the weight of a letter -/
def letW (b : Nat) : We := if b = 10 then ⟨1, 1, 0, 0, b + 1, 1103515245⟩ else ⟨1, 0, 1, 1, b + 1, 1103515245⟩
theorem letW_val {b : Nat} (hb : b < 256) : WVal (letW b) := by
  unfold letW
  by_cases h : b = 10
  · rw [if_pos h]
    exact ⟨by simp, by simp [ML], by simp, by simp, by simp [PP]; omega, by simp [PP]⟩
  · rw [if_neg h]
    exact ⟨by simp, by simp [ML], by simp, by simp, by simp [PP]; omega, by simp [PP]⟩
theorem letW_len (b : Nat) : (letW b).len = 1 := by unfold letW; split <;> rfl

/-- no weight -/
def weZ : List Value := [.int .i64 0, .int .i64 0, .int .i64 0, .int .i64 0, .int .u64 0, .int .u64 0]
theorem we_info : (Try.prog.info? 72).map (·.size) = some 6 := by kernel_rfl

set_option maxRecDepth 100000 in
theorem weLetter_any (b : Nat) (hb : b < 256) (w : World) : Calls Try.prog 56 #[.int .u8 (b : Nat)] w fun e w' => e = .returned (weV (letW b)) ∧ Below w.heap.size w w' := by
  obtain ⟨w1, hw1⟩ : ∃ w1, w1 = w.alloc (.cells weZ.toArray 72) := ⟨_, rfl⟩
  have HB := Lib.hid (show Below w.heap.size w w1 by rw [hw1]; exact below_alloc _ _)
  have HBX := Lib.hid (show BX w1 w.heap.size weZ by rw [hw1]; exact BX.alloc _ _ _)
  have HW1 := Lib.hid hw1
  unfold weZ at HW1
  have HC := Lib.hid (fun wx => digLetter_any b hb wx)
  obtain ⟨c, hc⟩ : ∃ c, c = b + 1 := ⟨_, rfl⟩
  rw [← hc] at HC
  unfold dgV at HC
  unfold letW weV
  rw [← hc]
  by_cases h : b = 10
  · rw [if_pos h]
    have hbe : ((b : Int) == 10) = true := by rw [beq_iff_eq]; omega
    clear hw1 hb h hc
    go_enter Try.func56, Try.ntmps56
    go_upto_region 1 with fail
    rw [← HW1.out]
    go_wp2_with fail
    refine (HC.out _).mono ?_
    rintro e w2 ⟨rfl, hb2⟩
    have HB2 := Lib.hid (bthen HB.out hb2)
    have HX2 := Lib.hid (HBX.out.below hb2)
    clear hb2
    have hth := HX2.out.there 0 6 (by simp [weZ])
    go_wp2_with (refine wpList_store_mid rfl 72 _ _ rfl w.heap.size 0 #[.int .i64 1, .int .i64 1, .int .i64 0, .int .i64 0, .int .u64 (c : Nat), .int .u64 1103515245] rfl rfl hth we_info (by simp [Value.oneCell']) ?_)
    have hx3 := HX2.out.putAll [.int .i64 1, .int .i64 1, .int .i64 0, .int .i64 0, .int .u64 (c : Nat), .int .u64 1103515245] rfl
    have hb3 := belowSetCells HB2.out (Nat.le_refl _) 0 [.int .i64 1, .int .i64 1, .int .i64 0, .int .i64 0, .int .u64 (c : Nat), .int .u64 1103515245] HB2.out.size
    refine bodyPost_ret (res_cell rfl _ _ w.heap.size _ _ rfl hx3.rng Try.underlying72 rfl we_info) rfl ?_
    exact ⟨ret_eq (by simp), hb3⟩
  · rw [if_neg h]
    have hbe : ((b : Int) == 10) = false := by rw [beq_eq_false_iff_ne]; omega
    clear hw1 hb h hc
    go_enter Try.func56, Try.ntmps56
    go_upto_region 1 with fail
    rw [← HW1.out]
    go_wp2_with fail
    refine (HC.out _).mono ?_
    rintro e w2 ⟨rfl, hb2⟩
    have HB2 := Lib.hid (bthen HB.out hb2)
    have HX2 := Lib.hid (HBX.out.below hb2)
    clear hb2
    have hth := HX2.out.there 0 6 (by simp [weZ])
    go_wp2_with (refine wpList_store_mid rfl 72 _ _ rfl w.heap.size 0 #[.int .i64 1, .int .i64 0, .int .i64 1, .int .i64 1, .int .u64 (c : Nat), .int .u64 1103515245] rfl rfl hth we_info (by simp [Value.oneCell']) ?_)
    have hx3 := HX2.out.putAll [.int .i64 1, .int .i64 0, .int .i64 1, .int .i64 1, .int .u64 (c : Nat), .int .u64 1103515245] rfl
    have hb3 := belowSetCells HB2.out (Nat.le_refl _) 0 [.int .i64 1, .int .i64 0, .int .i64 1, .int .i64 1, .int .u64 (c : Nat), .int .u64 1103515245] HB2.out.size
    refine bodyPost_ret (res_cell rfl _ _ w.heap.size _ _ rfl hx3.rng Try.underlying72 rfl we_info) rfl ?_
    exact ⟨ret_eq (by simp), hb3⟩

end Go.Proofs.Ytflgmodofemifaa

/- weights: Join. -/
namespace Go.Proofs.Ytflgmodofemifaa
open Go.RowKit
set_option linter.unusedVariables false
set_option linter.unusedSimpArgs false

/-- the weight of two texts, one after the other, but for its digest -/
def joinW (a b : We) (v s : Nat) : We := ⟨a.len + b.len, a.lines + b.lines, if a.lines = 0 then a.len + b.head else a.head, if b.lines = 0 then b.len + a.tail else b.tail, v, s⟩
theorem joinW_val {a b : We} (ha : WVal a) (hb : WVal b) (h : a.len + b.len ≤ ML) {v s : Nat} (hv : v < PP) (hs : s = a.ds * b.ds % PP) : WVal (joinW a b v s) := by
  have a1 := ha.pos; have b1 := hb.pos
  have a2 := ha.none; have b2 := hb.none
  have a3 := ha.some; have b3 := hb.some
  refine ⟨by simp only [joinW]; omega, h, ?_, ?_, hv, ?_⟩
  · simp only [joinW]
    intro h0
    have e1 : a.lines = 0 := by omega
    have e2 : b.lines = 0 := by omega
    rw [if_pos e1, if_pos e2, (b2 e2).1, (a2 e1).2]
    omega
  · simp only [joinW]
    intro h0
    by_cases e1 : a.lines = 0
    · rw [if_pos e1, if_neg (by omega)]
      have := b3 (by omega)
      omega
    · rw [if_neg e1]
      have := a3 (by omega)
      by_cases e2 : b.lines = 0
      · rw [if_pos e2]; omega
      · rw [if_neg e2]
        have := b3 (by omega)
        omega
  · show s = 1103515245 ^ (a.len + b.len) % PP
    rw [hs, ha.ds, hb.ds, ← Nat.mul_mod, ← Nat.pow_add]

/-- its cells -/
def weCs (x : We) : List Value := [.int .i64 (x.len : Nat), .int .i64 (x.lines : Nat), .int .i64 (x.head : Nat), .int .i64 (x.tail : Nat), .int .u64 (x.dv : Nat), .int .u64 (x.ds : Nat)]
theorem BX.we {w : World} {b : Nat} {x : We} (h : BX w b (weCs x)) : WC w b 0 x := ⟨h.cell rfl, h.cell rfl, h.cell rfl, h.cell rfl, h.cell rfl, h.cell rfl⟩

theorem BX.zc {w : World} {b : Nat} (h : BX w b weZ) : w.cell? ⟨b, 0, none⟩ = some (.int .i64 0) ∧ w.cell? ⟨b, 1, none⟩ = some (.int .i64 0) ∧ w.cell? ⟨b, 2, none⟩ = some (.int .i64 0) ∧ w.cell? ⟨b, 3, none⟩ = some (.int .i64 0) ∧ w.cell? ⟨b, 4, none⟩ = some (.int .u64 0) ∧ w.cell? ⟨b, 5, none⟩ = some (.int .u64 0) := ⟨h.cell rfl, h.cell rfl, h.cell rfl, h.cell rfl, h.cell rfl, h.cell rfl⟩

set_option maxRecDepth 100000 in
set_option maxHeartbeats 4000000 in
theorem weJoin_any (a b : We) (ha : WVal a) (hb : WVal b) (h : a.len + b.len ≤ ML) (w : World) : Calls Try.prog 26 #[weV a, weV b] w fun e w' => ∃ v s : Nat, e = .returned (.tuple #[weV (joinW a b v s), .nilIface]) ∧ WVal (joinW a b v s) ∧ Below w.heap.size w w' := by
  obtain ⟨w1, hw1⟩ : ∃ w1, w1 = ((w.alloc (.cells (weCs a).toArray 72)).alloc (.cells (weCs b).toArray 72)).alloc (.cells weZ.toArray 72) := ⟨_, rfl⟩
  have HB := Lib.hid (show Below w.heap.size w w1 by rw [hw1]; exact ((below_alloc _ _).alloc (by simp) _).alloc (by simp; try omega) _)
  have HX := Lib.hid (show BX w1 w.heap.size (weCs a) by rw [hw1]; exact (BX.alloc2 _ _ _ _).below (below_alloc _ _))
  have HY := Lib.hid (show BX w1 (w.heap.size + 1) (weCs b) by rw [hw1]; exact (BX.allocAt (by simp) _ _).below (below_alloc _ _))
  have HZ := Lib.hid (show BX w1 (w.heap.size + 1 + 1) weZ by rw [hw1]; exact BX.allocAt (by simp) _ _)
  have HW1 := Lib.hid hw1
  unfold weCs weZ at HW1
  have HVA := Lib.hid (fun wx => weValid_any a ha wx)
  have HVB := Lib.hid (fun wx => weValid_any b hb wx)
  have HFIN := Lib.hid (fun v s => joinW_val ha hb h (v := v) (s := s))
  have HAD := Lib.hid (fun wx => lenAdd_any a.len b.len h wx)
  have hpv : a.dv < 18446744073709551616 ∧ a.ds < 18446744073709551616 ∧ b.dv < 18446744073709551616 ∧ b.ds < 18446744073709551616 := ⟨Nat.lt_trans ha.dv (by decide), Nat.lt_trans (lt_PP ha.ds) (by decide), Nat.lt_trans hb.dv (by decide), Nat.lt_trans (lt_PP hb.ds) (by decide)⟩
  have HDJ := Lib.hid (fun wx => digJoin_any a.dv a.ds b.dv b.ds hpv.1 hpv.2.1 hpv.2.2.1 hpv.2.2.2 wx)
  unfold dgV at HDJ
  have hal := ha.some
  have hbl := hb.some
  have hmx := h
  rw [ML_val] at hmx
  have ha0 := ha.none
  have hb0 := hb.none
  cases a with
  | mk l1 n1 h1 t1 v1 s1 =>
  cases b with
  | mk l2 n2 h2 t2 v2 s2 =>
    simp only at *
    unfold weV at HVA HVB
    rw [show weV ⟨l1, n1, h1, t1, v1, s1⟩ = .agg #[.int .i64 (l1 : Nat), .int .i64 (n1 : Nat), .int .i64 (h1 : Nat), .int .i64 (t1 : Nat), .int .u64 (v1 : Nat), .int .u64 (s1 : Nat)] from rfl, show weV ⟨l2, n2, h2, t2, v2, s2⟩ = .agg #[.int .i64 (l2 : Nat), .int .i64 (n2 : Nat), .int .i64 (h2 : Nat), .int .i64 (t2 : Nat), .int .u64 (v2 : Nat), .int .u64 (s2 : Nat)] from rfl]
    have HN0 := Lib.hid (And.intro ha0 hb0)
    have hnb : n1 + n2 ≤ l1 + l2 := by
      rcases Nat.eq_zero_or_pos n1 with e1 | e1 <;> rcases Nat.eq_zero_or_pos n2 with e2 | e2
      · omega
      · have := hbl e2; omega
      · have := hal e1; omega
      · have := hal e1; have := hbl e2; omega
    have hhb : h1 ≤ l1 ∧ t1 ≤ l1 ∧ h2 ≤ l2 ∧ t2 ≤ l2 := by
      have q1 : h1 ≤ l1 ∧ t1 ≤ l1 := by
        rcases Nat.eq_zero_or_pos n1 with e1 | e1
        · have := ha0 e1; omega
        · have := hal e1; omega
      have q2 : h2 ≤ l2 ∧ t2 ≤ l2 := by
        rcases Nat.eq_zero_or_pos n2 with e1 | e1
        · have := hb0 e1; omega
        · have := hbl e1; omega
      exact ⟨q1.1, q1.2, q2.1, q2.2⟩
    obtain ⟨L, hL⟩ : ∃ L, L = l1 + l2 := ⟨_, rfl⟩
    obtain ⟨N, hN⟩ : ∃ N, N = n1 + n2 := ⟨_, rfl⟩
    obtain ⟨H, hH⟩ : ∃ H, H = l1 + h2 := ⟨_, rfl⟩
    obtain ⟨T, hT⟩ : ∃ T, T = l2 + t1 := ⟨_, rfl⟩
    have hsN : (n1 : Int) + (n2 : Int) = (N : Int) := by omega
    have hsH : (l1 : Int) + (h2 : Int) = (H : Int) := by omega
    have hsT : (l2 : Int) + (t1 : Int) = (T : Int) := by omega
    have hwN : IntKind.i64.wrap (N : Int) = (N : Int) := IntWalk.i64_in _ (by omega)
    have hwH : IntKind.i64.wrap (H : Int) = (H : Int) := IntWalk.i64_in _ (by omega)
    have hwT : IntKind.i64.wrap (T : Int) = (T : Int) := IntWalk.i64_in _ (by omega)
    rw [← hL] at HAD
    have HLN := Lib.hid (And.intro hL (And.intro hN (And.intro hH hT)))
    have HJ : Hid (∀ v s : Nat, (weV (joinW ⟨l1, n1, h1, t1, v1, s1⟩ ⟨l2, n2, h2, t2, v2, s2⟩ v s)) = .agg #[.int .i64 (L : Nat), .int .i64 (N : Nat), .int .i64 ((if n1 = 0 then H else h1 : Nat) : Int), .int .i64 ((if n2 = 0 then T else t2 : Nat) : Int), .int .u64 (v : Nat), .int .u64 (s : Nat)]) := Lib.hid (fun v s => by rw [hL, hN, hH, hT]; rfl)
    obtain ⟨x0, x1, x2, x3, x4, x5⟩ := HX.out.we
    simp only at *
    clear ha hb h hpv hw1 hnb hhb hL hN hH hT hmx hal hbl ha0 hb0
    go_enter Try.func26, Try.ntmps26
    go_upto_region 1 with fail
    rw [← HW1.out]
    go_wp2_with fail
    refine (HVA.out _).mono ?_
    rintro e w2 ⟨rfl, hb2⟩
    have HX2 := Lib.hid (HX.out.below hb2)
    have HY2 := Lib.hid (HY.out.below hb2)
    have HZ2 := Lib.hid (HZ.out.below hb2)
    have HB2 := Lib.hid (bthen HB.out hb2)
    clear hb2 x0 x1 x2 x3 x4 x5
    obtain ⟨y0, y1, y2, y3, y4, y5⟩ := HY2.out.we
    go_wp2_with fail
    refine (HVB.out _).mono ?_
    rintro e w3 ⟨rfl, hb3⟩
    have HX3 := Lib.hid (HX2.out.below hb3)
    have HY3 := Lib.hid (HY2.out.below hb3)
    have HZ3 := Lib.hid (HZ2.out.below hb3)
    have HB3 := Lib.hid (bthen HB2.out hb3)
    clear hb3 y0 y1 y2 y3 y4 y5
    obtain ⟨x0, x1, x2, x3, x4, x5⟩ := HX3.out.we
    obtain ⟨y0, y1, y2, y3, y4, y5⟩ := HY3.out.we
    go_wp2_with fail
    refine (HAD.out _).mono ?_
    rintro e w4 ⟨rfl, rfl⟩
    have hn0 : ¬ w4.heap.size = w.heap.size := by have := HX3.out.lt; have := HB3.out.size; have h3 := HZ3.out.lt; omega
    have hn1 : ¬ w4.heap.size = w.heap.size + 1 := by have h3 := HZ3.out.lt; omega
    go_wp2
    go_region_held3 (fun wx => wx.cell? ⟨w.heap.size, 1, none⟩ = some (.int .i64 (n1 : Nat)) ∧ wx.cell? ⟨w.heap.size, 2, none⟩ = some (.int .i64 (h1 : Nat)) ∧ wx.cell? ⟨w.heap.size, 4, none⟩ = some (.int .u64 (v1 : Nat)) ∧ wx.cell? ⟨w.heap.size, 5, none⟩ = some (.int .u64 (s1 : Nat)) ∧ wx.cell? ⟨w.heap.size + 1, 1, none⟩ = some (.int .i64 (n2 : Nat)) ∧ wx.cell? ⟨w.heap.size + 1, 3, none⟩ = some (.int .i64 (t2 : Nat)) ∧ wx.cell? ⟨w.heap.size + 1, 4, none⟩ = some (.int .u64 (v2 : Nat)) ∧ wx.cell? ⟨w.heap.size + 1, 5, none⟩ = some (.int .u64 (s2 : Nat))) (first | (simp only [World.cell?_setCell_far, ne_eq, hn0, hn1, not_false_eq_true]; exact ⟨x1', x2', x4', x5', y1', y3', y4', y5'⟩) | exact ⟨x1, x2, x4, x5, y1, y3, y4, y5⟩ | exact ⟨x1', x2', x4', x5', y1', y3', y4', y5'⟩ | exact ⟨below_cell (below_alloc _ _) x1', below_cell (below_alloc _ _) x2', below_cell (below_alloc _ _) x4', below_cell (below_alloc _ _) x5', below_cell (below_alloc _ _) y1', below_cell (below_alloc _ _) y3', below_cell (below_alloc _ _) y4', below_cell (below_alloc _ _) y5'⟩ | go_keep) (first
      | (go_at_call 43; refine (HDJ.out _).mono ?_; rintro e w5 ⟨v, s, hv, hs, rfl, hb5⟩; have HVS := Lib.hid (And.intro hv hs); have HB45 : Hid (Below w4.heap.size w4 w5) := Lib.hid (by first | exact (Below.refl _ _).drew.trans hb5 | exact ((Below.refl _ _).drew.alloc (Nat.le_refl _) _).trans (hb5.mono (by simp))); have HX5 := Lib.hid (HX3.out.below HB45.out); have HY5 := Lib.hid (HY3.out.below HB45.out); have HZ5 := Lib.hid (HZ3.out.below HB45.out); have HB5 := Lib.hid (bthen HB3.out HB45.out); (try (have HT5 := Lib.hid ((BX.allocAt (w := w4.drew) (b := w4.heap.size) rfl weZ 72).below hb5); obtain ⟨z0, z1, z2, z3, z4, z5⟩ := HT5.out.zc; have zf0 := HT5.out.fz 0; have zf1 := HT5.out.fz 1; have zf2 := HT5.out.fz 2; have zf3 := HT5.out.fz 3; have zf4 := HT5.out.fz 4; have zf5 := HT5.out.fz 5)); clear hv hs hb5; have x1' := HX5.out.we.c1; have x2' := HX5.out.we.c2; have x4' := HX5.out.we.c4; have x5' := HX5.out.we.c5; have y1' := HY5.out.we.c1; have y3' := HY5.out.we.c3; have y4' := HY5.out.we.c4; have y5' := HY5.out.we.c5))
    · obtain ⟨w6, hw6⟩ : ∃ w6, w6 = w5.alloc (.cells #[.int .i64 (L : Nat), .int .i64 (N : Nat), .int .i64 (h1 : Nat), .int .i64 (t2 : Nat), .int .u64 (v : Nat), .int .u64 (s : Nat)] 72) := ⟨_, rfl⟩
      obtain ⟨b8, hb8⟩ : ∃ b8, b8 = w5.heap.size := ⟨_, rfl⟩
      have HQ : Hid (BX w6 b8 [.int .i64 (L : Nat), .int .i64 (N : Nat), .int .i64 (h1 : Nat), .int .i64 (t2 : Nat), .int .u64 (v : Nat), .int .u64 (s : Nat)]) := Lib.hid (by rw [hw6, hb8]; exact BX.alloc _ _ _)
      have hb56 : Below w5.heap.size w5 w6 := by rw [hw6]; exact below_alloc _ _
      have HX6 := Lib.hid (HX5.out.below hb56)
      have HY6 := Lib.hid (HY5.out.below hb56)
      have HZ6 := Lib.hid (HZ5.out.below hb56)
      have HB6 := Lib.hid (bthen HB5.out hb56)
      have HB8 : Hid (w.heap.size ≤ b8 ∧ w.heap.size + 1 + 1 < b8) := Lib.hid (by have h3 := HZ5.out.lt; omega)
      rw [← hw6, ← hb8]
      clear hw6 hb8 hb56
      clear hn0 hn1 x1 x2 x4 x5 y1 y3 y4 y5 x1' x2' x4' x5' y1' y3' y4' y5'
      have x0 := HX6.out.we.c0
      have x1 := HX6.out.we.c1
      have x3 := HX6.out.we.c3
      have y0 := HY6.out.we.c0
      have y1 := HY6.out.we.c1
      have y2 := HY6.out.we.c2
      simp only [Nat.zero_add] at x0 x1 x3 y0 y1 y2
      have q2 := HQ.out.cell (j := 2) rfl
      have q3 := HQ.out.cell (j := 3) rfl
      have qf2 := HQ.out.fz 2
      have qf3 := HQ.out.fz 3
      by_cases e1 : n1 = 0
      · by_cases e2 : n2 = 0
        · have hc1 : ((n1 : Int) == 0) = true := by rw [beq_iff_eq]; omega
          have hc2 : ((n2 : Int) == 0) = true := by rw [beq_iff_eq]; omega
          have HC := Lib.hid (And.intro e1 e2)
          clear e1 e2
          go_upto_region 11 with fail
          obtain ⟨w7, hw7⟩ : ∃ w7, w7 = ((w6.setCell ⟨b8, 2, none⟩ (.int .i64 (H : Nat))).setCell ⟨b8, 3, none⟩ (.int .i64 (T : Nat))) := ⟨_, rfl⟩
          have HQ7 : Hid (BX w7 b8 [.int .i64 (L : Nat), .int .i64 (N : Nat), .int .i64 (H : Nat), .int .i64 (T : Nat), .int .u64 (v : Nat), .int .u64 (s : Nat)]) := Lib.hid (by rw [hw7]; exact ((HQ.out.set1 (j := 2) (by simp) (.int .i64 (H : Nat))).set1 (j := 3) (by simp) (.int .i64 (T : Nat))))
          have HB7 : Hid (Below w.heap.size w w7) := Lib.hid (by have hbb := HB8.out.1; rw [hw7]; exact ((HB6.out.setCell hbb _).setCell hbb _))
          have HZ7 : Hid (BX w7 (w.heap.size + 1 + 1) weZ) := Lib.hid (by have hbb := HB8.out.2; rw [hw7]; exact HZ6.out.fr (Fr.setCell (S := fun i => i = b8) (Fr.setCell (S := fun i => i = b8) (Fr.refl _ w6) (p := ⟨b8, 2, none⟩) rfl _) (p := ⟨b8, 3, none⟩) rfl _) (fun e => by omega))
          rw [← hw7]
          clear hw7 x0 x1 x3 y0 y1 y2 q2 q3 qf2 qf3
          have HT7 := Lib.hid (HZ7.out.there 0 6 (by simp [weZ]))
          have hrg := HQ7.out.rng
          go_wp2_with (first | (refine wpList_load_mid rfl 72 _ rfl b8 0 rfl _ _ hrg Try.underlying72 rfl we_info ?_; clear hrg) | (refine wpList_store_mid rfl 72 _ _ rfl (w.heap.size + 1 + 1) 0 #[.int .i64 (L : Nat), .int .i64 (N : Nat), .int .i64 (H : Nat), .int .i64 (T : Nat), .int .u64 (v : Nat), .int .u64 (s : Nat)] rfl rfl HT7.out we_info (by simp [Value.oneCell']) ?_))
          have hx8 := HZ7.out.putAll [.int .i64 (L : Nat), .int .i64 (N : Nat), .int .i64 (H : Nat), .int .i64 (T : Nat), .int .u64 (v : Nat), .int .u64 (s : Nat)] rfl
          have hb9 := belowSetCells HB7.out (show w.heap.size ≤ w.heap.size + 1 + 1 by omega) 0 [.int .i64 (L : Nat), .int .i64 (N : Nat), .int .i64 (H : Nat), .int .i64 (T : Nat), .int .u64 (v : Nat), .int .u64 (s : Nat)] HB7.out.size
          refine bodyPost_ret (res_cell_tmp rfl _ _ (w.heap.size + 1 + 1) _ _ rfl hx8.rng Try.underlying72 rfl we_info) rfl ?_
          refine ⟨v, s, ?_, HFIN.out v s HVS.out.1 HVS.out.2, hb9⟩
          rw [HJ.out, if_pos HC.out.1, if_pos HC.out.2]
          rfl
        · have hc1 : ((n1 : Int) == 0) = true := by rw [beq_iff_eq]; omega
          have hc2 : ((n2 : Int) == 0) = false := by rw [beq_eq_false_iff_ne]; omega
          have HC := Lib.hid (And.intro e1 e2)
          clear e1 e2
          go_upto_region 11 with fail
          obtain ⟨w7, hw7⟩ : ∃ w7, w7 = (w6.setCell ⟨b8, 2, none⟩ (.int .i64 (H : Nat))) := ⟨_, rfl⟩
          have HQ7 : Hid (BX w7 b8 [.int .i64 (L : Nat), .int .i64 (N : Nat), .int .i64 (H : Nat), .int .i64 (t2 : Nat), .int .u64 (v : Nat), .int .u64 (s : Nat)]) := Lib.hid (by rw [hw7]; exact (HQ.out.set1 (j := 2) (by simp) (.int .i64 (H : Nat))))
          have HB7 : Hid (Below w.heap.size w w7) := Lib.hid (by have hbb := HB8.out.1; rw [hw7]; exact (HB6.out.setCell hbb _))
          have HZ7 : Hid (BX w7 (w.heap.size + 1 + 1) weZ) := Lib.hid (by have hbb := HB8.out.2; rw [hw7]; exact HZ6.out.fr (Fr.setCell (S := fun i => i = b8) (Fr.refl _ w6) (p := ⟨b8, 2, none⟩) rfl _) (fun e => by omega))
          rw [← hw7]
          clear hw7 x0 x1 x3 y0 y1 y2 q2 q3 qf2 qf3
          have HT7 := Lib.hid (HZ7.out.there 0 6 (by simp [weZ]))
          have hrg := HQ7.out.rng
          go_wp2_with (first | (refine wpList_load_mid rfl 72 _ rfl b8 0 rfl _ _ hrg Try.underlying72 rfl we_info ?_; clear hrg) | (refine wpList_store_mid rfl 72 _ _ rfl (w.heap.size + 1 + 1) 0 #[.int .i64 (L : Nat), .int .i64 (N : Nat), .int .i64 (H : Nat), .int .i64 (t2 : Nat), .int .u64 (v : Nat), .int .u64 (s : Nat)] rfl rfl HT7.out we_info (by simp [Value.oneCell']) ?_))
          have hx8 := HZ7.out.putAll [.int .i64 (L : Nat), .int .i64 (N : Nat), .int .i64 (H : Nat), .int .i64 (t2 : Nat), .int .u64 (v : Nat), .int .u64 (s : Nat)] rfl
          have hb9 := belowSetCells HB7.out (show w.heap.size ≤ w.heap.size + 1 + 1 by omega) 0 [.int .i64 (L : Nat), .int .i64 (N : Nat), .int .i64 (H : Nat), .int .i64 (t2 : Nat), .int .u64 (v : Nat), .int .u64 (s : Nat)] HB7.out.size
          refine bodyPost_ret (res_cell_tmp rfl _ _ (w.heap.size + 1 + 1) _ _ rfl hx8.rng Try.underlying72 rfl we_info) rfl ?_
          refine ⟨v, s, ?_, HFIN.out v s HVS.out.1 HVS.out.2, hb9⟩
          rw [HJ.out, if_pos HC.out.1, if_neg HC.out.2]
          rfl
      · by_cases e2 : n2 = 0
        · have hc1 : ((n1 : Int) == 0) = false := by rw [beq_eq_false_iff_ne]; omega
          have hc2 : ((n2 : Int) == 0) = true := by rw [beq_iff_eq]; omega
          have HC := Lib.hid (And.intro e1 e2)
          clear e1 e2
          go_upto_region 11 with fail
          obtain ⟨w7, hw7⟩ : ∃ w7, w7 = (w6.setCell ⟨b8, 3, none⟩ (.int .i64 (T : Nat))) := ⟨_, rfl⟩
          have HQ7 : Hid (BX w7 b8 [.int .i64 (L : Nat), .int .i64 (N : Nat), .int .i64 (h1 : Nat), .int .i64 (T : Nat), .int .u64 (v : Nat), .int .u64 (s : Nat)]) := Lib.hid (by rw [hw7]; exact (HQ.out.set1 (j := 3) (by simp) (.int .i64 (T : Nat))))
          have HB7 : Hid (Below w.heap.size w w7) := Lib.hid (by have hbb := HB8.out.1; rw [hw7]; exact (HB6.out.setCell hbb _))
          have HZ7 : Hid (BX w7 (w.heap.size + 1 + 1) weZ) := Lib.hid (by have hbb := HB8.out.2; rw [hw7]; exact HZ6.out.fr (Fr.setCell (S := fun i => i = b8) (Fr.refl _ w6) (p := ⟨b8, 3, none⟩) rfl _) (fun e => by omega))
          rw [← hw7]
          clear hw7 x0 x1 x3 y0 y1 y2 q2 q3 qf2 qf3
          have HT7 := Lib.hid (HZ7.out.there 0 6 (by simp [weZ]))
          have hrg := HQ7.out.rng
          go_wp2_with (first | (refine wpList_load_mid rfl 72 _ rfl b8 0 rfl _ _ hrg Try.underlying72 rfl we_info ?_; clear hrg) | (refine wpList_store_mid rfl 72 _ _ rfl (w.heap.size + 1 + 1) 0 #[.int .i64 (L : Nat), .int .i64 (N : Nat), .int .i64 (h1 : Nat), .int .i64 (T : Nat), .int .u64 (v : Nat), .int .u64 (s : Nat)] rfl rfl HT7.out we_info (by simp [Value.oneCell']) ?_))
          have hx8 := HZ7.out.putAll [.int .i64 (L : Nat), .int .i64 (N : Nat), .int .i64 (h1 : Nat), .int .i64 (T : Nat), .int .u64 (v : Nat), .int .u64 (s : Nat)] rfl
          have hb9 := belowSetCells HB7.out (show w.heap.size ≤ w.heap.size + 1 + 1 by omega) 0 [.int .i64 (L : Nat), .int .i64 (N : Nat), .int .i64 (h1 : Nat), .int .i64 (T : Nat), .int .u64 (v : Nat), .int .u64 (s : Nat)] HB7.out.size
          refine bodyPost_ret (res_cell_tmp rfl _ _ (w.heap.size + 1 + 1) _ _ rfl hx8.rng Try.underlying72 rfl we_info) rfl ?_
          refine ⟨v, s, ?_, HFIN.out v s HVS.out.1 HVS.out.2, hb9⟩
          rw [HJ.out, if_neg HC.out.1, if_pos HC.out.2]
          rfl
        · have hc1 : ((n1 : Int) == 0) = false := by rw [beq_eq_false_iff_ne]; omega
          have hc2 : ((n2 : Int) == 0) = false := by rw [beq_eq_false_iff_ne]; omega
          have HC := Lib.hid (And.intro e1 e2)
          clear e1 e2
          go_upto_region 11 with fail
          obtain ⟨w7, hw7⟩ : ∃ w7, w7 = w6 := ⟨_, rfl⟩
          have HQ7 : Hid (BX w7 b8 [.int .i64 (L : Nat), .int .i64 (N : Nat), .int .i64 (h1 : Nat), .int .i64 (t2 : Nat), .int .u64 (v : Nat), .int .u64 (s : Nat)]) := Lib.hid (by rw [hw7]; exact HQ.out)
          have HB7 : Hid (Below w.heap.size w w7) := Lib.hid (by have hbb := HB8.out.1; rw [hw7]; exact HB6.out)
          have HZ7 : Hid (BX w7 (w.heap.size + 1 + 1) weZ) := Lib.hid (by have hbb := HB8.out.2; rw [hw7]; exact HZ6.out.fr (Fr.refl (fun i => i = b8) w6) (fun e => by omega))
          rw [← hw7]
          clear hw7 x0 x1 x3 y0 y1 y2 q2 q3 qf2 qf3
          have HT7 := Lib.hid (HZ7.out.there 0 6 (by simp [weZ]))
          have hrg := HQ7.out.rng
          go_wp2_with (first | (refine wpList_load_mid rfl 72 _ rfl b8 0 rfl _ _ hrg Try.underlying72 rfl we_info ?_; clear hrg) | (refine wpList_store_mid rfl 72 _ _ rfl (w.heap.size + 1 + 1) 0 #[.int .i64 (L : Nat), .int .i64 (N : Nat), .int .i64 (h1 : Nat), .int .i64 (t2 : Nat), .int .u64 (v : Nat), .int .u64 (s : Nat)] rfl rfl HT7.out we_info (by simp [Value.oneCell']) ?_))
          have hx8 := HZ7.out.putAll [.int .i64 (L : Nat), .int .i64 (N : Nat), .int .i64 (h1 : Nat), .int .i64 (t2 : Nat), .int .u64 (v : Nat), .int .u64 (s : Nat)] rfl
          have hb9 := belowSetCells HB7.out (show w.heap.size ≤ w.heap.size + 1 + 1 by omega) 0 [.int .i64 (L : Nat), .int .i64 (N : Nat), .int .i64 (h1 : Nat), .int .i64 (t2 : Nat), .int .u64 (v : Nat), .int .u64 (s : Nat)] HB7.out.size
          refine bodyPost_ret (res_cell_tmp rfl _ _ (w.heap.size + 1 + 1) _ _ rfl hx8.rng Try.underlying72 rfl we_info) rfl ?_
          refine ⟨v, s, ?_, HFIN.out v s HVS.out.1 HVS.out.2, hb9⟩
          rw [HJ.out, if_neg HC.out.1, if_neg HC.out.2]
          rfl
    · obtain ⟨w6, hw6⟩ : ∃ w6, w6 = w5.setCells w4.heap.size 0 [.int .i64 (L : Nat), .int .i64 (N : Nat), .int .i64 (h1 : Nat), .int .i64 (t2 : Nat), .int .u64 (v : Nat), .int .u64 (s : Nat)] := ⟨_, rfl⟩
      obtain ⟨b8, hb8⟩ : ∃ b8, b8 = w4.heap.size := ⟨_, rfl⟩
      have HQ : Hid (BX w6 b8 [.int .i64 (L : Nat), .int .i64 (N : Nat), .int .i64 (h1 : Nat), .int .i64 (t2 : Nat), .int .u64 (v : Nat), .int .u64 (s : Nat)]) := Lib.hid (by rw [hw6, hb8]; exact HT5.out.putAll _ rfl)
      have hf6 : Fr (fun i => i = b8) w5 w6 := by rw [hw6, hb8]; exact frSetCells _ _ _ _
      have HB8 : Hid (w.heap.size ≤ b8 ∧ w.heap.size + 1 + 1 < b8) := Lib.hid (by have h3 := HZ3.out.lt; omega)
      have HX6 := Lib.hid (HX5.out.fr hf6 (fun e => by have := HB8.out; omega))
      have HY6 := Lib.hid (HY5.out.fr hf6 (fun e => by have := HB8.out; omega))
      have HZ6 := Lib.hid (HZ5.out.fr hf6 (fun e => by have := HB8.out; omega))
      have HB6 : Hid (Below w.heap.size w w6) := Lib.hid (HB5.out.trans (hf6.below (fun i hi => by rw [hi]; exact HB8.out.1) HB5.out.size))
      rw [show ((((((w5.setCell ⟨w4.heap.size, 0, none⟩ (.int .i64 (L : Nat))).setCell ⟨w4.heap.size, 1, none⟩ (.int .i64 (N : Nat))).setCell ⟨w4.heap.size, 2, none⟩ (.int .i64 (h1 : Nat))).setCell ⟨w4.heap.size, 3, none⟩ (.int .i64 (t2 : Nat))).setCell ⟨w4.heap.size, 4, none⟩ (.int .u64 (v : Nat))).setCell ⟨w4.heap.size, 5, none⟩ (.int .u64 (s : Nat))) = w6 from hw6.symm, ← hb8]
      clear hw6 hb8 hf6
      clear hn0 hn1 z0 z1 z2 z3 z4 z5 zf0 zf1 zf2 zf3 zf4 zf5 x1 x2 x4 x5 y1 y3 y4 y5 x1' x2' x4' x5' y1' y3' y4' y5'
      have x0 := HX6.out.we.c0
      have x1 := HX6.out.we.c1
      have x3 := HX6.out.we.c3
      have y0 := HY6.out.we.c0
      have y1 := HY6.out.we.c1
      have y2 := HY6.out.we.c2
      simp only [Nat.zero_add] at x0 x1 x3 y0 y1 y2
      have q2 := HQ.out.cell (j := 2) rfl
      have q3 := HQ.out.cell (j := 3) rfl
      have qf2 := HQ.out.fz 2
      have qf3 := HQ.out.fz 3
      by_cases e1 : n1 = 0
      · by_cases e2 : n2 = 0
        · have hc1 : ((n1 : Int) == 0) = true := by rw [beq_iff_eq]; omega
          have hc2 : ((n2 : Int) == 0) = true := by rw [beq_iff_eq]; omega
          have HC := Lib.hid (And.intro e1 e2)
          clear e1 e2
          go_upto_region 11 with fail
          obtain ⟨w7, hw7⟩ : ∃ w7, w7 = ((w6.setCell ⟨b8, 2, none⟩ (.int .i64 (H : Nat))).setCell ⟨b8, 3, none⟩ (.int .i64 (T : Nat))) := ⟨_, rfl⟩
          have HQ7 : Hid (BX w7 b8 [.int .i64 (L : Nat), .int .i64 (N : Nat), .int .i64 (H : Nat), .int .i64 (T : Nat), .int .u64 (v : Nat), .int .u64 (s : Nat)]) := Lib.hid (by rw [hw7]; exact ((HQ.out.set1 (j := 2) (by simp) (.int .i64 (H : Nat))).set1 (j := 3) (by simp) (.int .i64 (T : Nat))))
          have HB7 : Hid (Below w.heap.size w w7) := Lib.hid (by have hbb := HB8.out.1; rw [hw7]; exact ((HB6.out.setCell hbb _).setCell hbb _))
          have HZ7 : Hid (BX w7 (w.heap.size + 1 + 1) weZ) := Lib.hid (by have hbb := HB8.out.2; rw [hw7]; exact HZ6.out.fr (Fr.setCell (S := fun i => i = b8) (Fr.setCell (S := fun i => i = b8) (Fr.refl _ w6) (p := ⟨b8, 2, none⟩) rfl _) (p := ⟨b8, 3, none⟩) rfl _) (fun e => by omega))
          rw [← hw7]
          clear hw7 x0 x1 x3 y0 y1 y2 q2 q3 qf2 qf3
          have HT7 := Lib.hid (HZ7.out.there 0 6 (by simp [weZ]))
          have hrg := HQ7.out.rng
          go_wp2_with (first | (refine wpList_load_mid rfl 72 _ rfl b8 0 rfl _ _ hrg Try.underlying72 rfl we_info ?_; clear hrg) | (refine wpList_store_mid rfl 72 _ _ rfl (w.heap.size + 1 + 1) 0 #[.int .i64 (L : Nat), .int .i64 (N : Nat), .int .i64 (H : Nat), .int .i64 (T : Nat), .int .u64 (v : Nat), .int .u64 (s : Nat)] rfl rfl HT7.out we_info (by simp [Value.oneCell']) ?_))
          have hx8 := HZ7.out.putAll [.int .i64 (L : Nat), .int .i64 (N : Nat), .int .i64 (H : Nat), .int .i64 (T : Nat), .int .u64 (v : Nat), .int .u64 (s : Nat)] rfl
          have hb9 := belowSetCells HB7.out (show w.heap.size ≤ w.heap.size + 1 + 1 by omega) 0 [.int .i64 (L : Nat), .int .i64 (N : Nat), .int .i64 (H : Nat), .int .i64 (T : Nat), .int .u64 (v : Nat), .int .u64 (s : Nat)] HB7.out.size
          refine bodyPost_ret (res_cell_tmp rfl _ _ (w.heap.size + 1 + 1) _ _ rfl hx8.rng Try.underlying72 rfl we_info) rfl ?_
          refine ⟨v, s, ?_, HFIN.out v s HVS.out.1 HVS.out.2, hb9⟩
          rw [HJ.out, if_pos HC.out.1, if_pos HC.out.2]
          rfl
        · have hc1 : ((n1 : Int) == 0) = true := by rw [beq_iff_eq]; omega
          have hc2 : ((n2 : Int) == 0) = false := by rw [beq_eq_false_iff_ne]; omega
          have HC := Lib.hid (And.intro e1 e2)
          clear e1 e2
          go_upto_region 11 with fail
          obtain ⟨w7, hw7⟩ : ∃ w7, w7 = (w6.setCell ⟨b8, 2, none⟩ (.int .i64 (H : Nat))) := ⟨_, rfl⟩
          have HQ7 : Hid (BX w7 b8 [.int .i64 (L : Nat), .int .i64 (N : Nat), .int .i64 (H : Nat), .int .i64 (t2 : Nat), .int .u64 (v : Nat), .int .u64 (s : Nat)]) := Lib.hid (by rw [hw7]; exact (HQ.out.set1 (j := 2) (by simp) (.int .i64 (H : Nat))))
          have HB7 : Hid (Below w.heap.size w w7) := Lib.hid (by have hbb := HB8.out.1; rw [hw7]; exact (HB6.out.setCell hbb _))
          have HZ7 : Hid (BX w7 (w.heap.size + 1 + 1) weZ) := Lib.hid (by have hbb := HB8.out.2; rw [hw7]; exact HZ6.out.fr (Fr.setCell (S := fun i => i = b8) (Fr.refl _ w6) (p := ⟨b8, 2, none⟩) rfl _) (fun e => by omega))
          rw [← hw7]
          clear hw7 x0 x1 x3 y0 y1 y2 q2 q3 qf2 qf3
          have HT7 := Lib.hid (HZ7.out.there 0 6 (by simp [weZ]))
          have hrg := HQ7.out.rng
          go_wp2_with (first | (refine wpList_load_mid rfl 72 _ rfl b8 0 rfl _ _ hrg Try.underlying72 rfl we_info ?_; clear hrg) | (refine wpList_store_mid rfl 72 _ _ rfl (w.heap.size + 1 + 1) 0 #[.int .i64 (L : Nat), .int .i64 (N : Nat), .int .i64 (H : Nat), .int .i64 (t2 : Nat), .int .u64 (v : Nat), .int .u64 (s : Nat)] rfl rfl HT7.out we_info (by simp [Value.oneCell']) ?_))
          have hx8 := HZ7.out.putAll [.int .i64 (L : Nat), .int .i64 (N : Nat), .int .i64 (H : Nat), .int .i64 (t2 : Nat), .int .u64 (v : Nat), .int .u64 (s : Nat)] rfl
          have hb9 := belowSetCells HB7.out (show w.heap.size ≤ w.heap.size + 1 + 1 by omega) 0 [.int .i64 (L : Nat), .int .i64 (N : Nat), .int .i64 (H : Nat), .int .i64 (t2 : Nat), .int .u64 (v : Nat), .int .u64 (s : Nat)] HB7.out.size
          refine bodyPost_ret (res_cell_tmp rfl _ _ (w.heap.size + 1 + 1) _ _ rfl hx8.rng Try.underlying72 rfl we_info) rfl ?_
          refine ⟨v, s, ?_, HFIN.out v s HVS.out.1 HVS.out.2, hb9⟩
          rw [HJ.out, if_pos HC.out.1, if_neg HC.out.2]
          rfl
      · by_cases e2 : n2 = 0
        · have hc1 : ((n1 : Int) == 0) = false := by rw [beq_eq_false_iff_ne]; omega
          have hc2 : ((n2 : Int) == 0) = true := by rw [beq_iff_eq]; omega
          have HC := Lib.hid (And.intro e1 e2)
          clear e1 e2
          go_upto_region 11 with fail
          obtain ⟨w7, hw7⟩ : ∃ w7, w7 = (w6.setCell ⟨b8, 3, none⟩ (.int .i64 (T : Nat))) := ⟨_, rfl⟩
          have HQ7 : Hid (BX w7 b8 [.int .i64 (L : Nat), .int .i64 (N : Nat), .int .i64 (h1 : Nat), .int .i64 (T : Nat), .int .u64 (v : Nat), .int .u64 (s : Nat)]) := Lib.hid (by rw [hw7]; exact (HQ.out.set1 (j := 3) (by simp) (.int .i64 (T : Nat))))
          have HB7 : Hid (Below w.heap.size w w7) := Lib.hid (by have hbb := HB8.out.1; rw [hw7]; exact (HB6.out.setCell hbb _))
          have HZ7 : Hid (BX w7 (w.heap.size + 1 + 1) weZ) := Lib.hid (by have hbb := HB8.out.2; rw [hw7]; exact HZ6.out.fr (Fr.setCell (S := fun i => i = b8) (Fr.refl _ w6) (p := ⟨b8, 3, none⟩) rfl _) (fun e => by omega))
          rw [← hw7]
          clear hw7 x0 x1 x3 y0 y1 y2 q2 q3 qf2 qf3
          have HT7 := Lib.hid (HZ7.out.there 0 6 (by simp [weZ]))
          have hrg := HQ7.out.rng
          go_wp2_with (first | (refine wpList_load_mid rfl 72 _ rfl b8 0 rfl _ _ hrg Try.underlying72 rfl we_info ?_; clear hrg) | (refine wpList_store_mid rfl 72 _ _ rfl (w.heap.size + 1 + 1) 0 #[.int .i64 (L : Nat), .int .i64 (N : Nat), .int .i64 (h1 : Nat), .int .i64 (T : Nat), .int .u64 (v : Nat), .int .u64 (s : Nat)] rfl rfl HT7.out we_info (by simp [Value.oneCell']) ?_))
          have hx8 := HZ7.out.putAll [.int .i64 (L : Nat), .int .i64 (N : Nat), .int .i64 (h1 : Nat), .int .i64 (T : Nat), .int .u64 (v : Nat), .int .u64 (s : Nat)] rfl
          have hb9 := belowSetCells HB7.out (show w.heap.size ≤ w.heap.size + 1 + 1 by omega) 0 [.int .i64 (L : Nat), .int .i64 (N : Nat), .int .i64 (h1 : Nat), .int .i64 (T : Nat), .int .u64 (v : Nat), .int .u64 (s : Nat)] HB7.out.size
          refine bodyPost_ret (res_cell_tmp rfl _ _ (w.heap.size + 1 + 1) _ _ rfl hx8.rng Try.underlying72 rfl we_info) rfl ?_
          refine ⟨v, s, ?_, HFIN.out v s HVS.out.1 HVS.out.2, hb9⟩
          rw [HJ.out, if_neg HC.out.1, if_pos HC.out.2]
          rfl
        · have hc1 : ((n1 : Int) == 0) = false := by rw [beq_eq_false_iff_ne]; omega
          have hc2 : ((n2 : Int) == 0) = false := by rw [beq_eq_false_iff_ne]; omega
          have HC := Lib.hid (And.intro e1 e2)
          clear e1 e2
          go_upto_region 11 with fail
          obtain ⟨w7, hw7⟩ : ∃ w7, w7 = w6 := ⟨_, rfl⟩
          have HQ7 : Hid (BX w7 b8 [.int .i64 (L : Nat), .int .i64 (N : Nat), .int .i64 (h1 : Nat), .int .i64 (t2 : Nat), .int .u64 (v : Nat), .int .u64 (s : Nat)]) := Lib.hid (by rw [hw7]; exact HQ.out)
          have HB7 : Hid (Below w.heap.size w w7) := Lib.hid (by have hbb := HB8.out.1; rw [hw7]; exact HB6.out)
          have HZ7 : Hid (BX w7 (w.heap.size + 1 + 1) weZ) := Lib.hid (by have hbb := HB8.out.2; rw [hw7]; exact HZ6.out.fr (Fr.refl (fun i => i = b8) w6) (fun e => by omega))
          rw [← hw7]
          clear hw7 x0 x1 x3 y0 y1 y2 q2 q3 qf2 qf3
          have HT7 := Lib.hid (HZ7.out.there 0 6 (by simp [weZ]))
          have hrg := HQ7.out.rng
          go_wp2_with (first | (refine wpList_load_mid rfl 72 _ rfl b8 0 rfl _ _ hrg Try.underlying72 rfl we_info ?_; clear hrg) | (refine wpList_store_mid rfl 72 _ _ rfl (w.heap.size + 1 + 1) 0 #[.int .i64 (L : Nat), .int .i64 (N : Nat), .int .i64 (h1 : Nat), .int .i64 (t2 : Nat), .int .u64 (v : Nat), .int .u64 (s : Nat)] rfl rfl HT7.out we_info (by simp [Value.oneCell']) ?_))
          have hx8 := HZ7.out.putAll [.int .i64 (L : Nat), .int .i64 (N : Nat), .int .i64 (h1 : Nat), .int .i64 (t2 : Nat), .int .u64 (v : Nat), .int .u64 (s : Nat)] rfl
          have hb9 := belowSetCells HB7.out (show w.heap.size ≤ w.heap.size + 1 + 1 by omega) 0 [.int .i64 (L : Nat), .int .i64 (N : Nat), .int .i64 (h1 : Nat), .int .i64 (t2 : Nat), .int .u64 (v : Nat), .int .u64 (s : Nat)] HB7.out.size
          refine bodyPost_ret (res_cell_tmp rfl _ _ (w.heap.size + 1 + 1) _ _ rfl hx8.rng Try.underlying72 rfl we_info) rfl ?_
          refine ⟨v, s, ?_, HFIN.out v s HVS.out.1 HVS.out.2, hb9⟩
          rw [HJ.out, if_neg HC.out.1, if_neg HC.out.2]
          rfl

end Go.Proofs.Ytflgmodofemifaa
