/-
  Joined texts: weights: Repeat. · PLAIN LAW of the store: rules, their texts, what makes a list of entries good. · PLAIN LAW of the effects of texts: from each state the state behind a text, and the hits on the way. · GENERIC LAWS, over any program: a family of rows of the call's own (each of one-cell elements), no two in one block, none in the blocks N; append, store, make, copy at the operation.
-/
import Derived.Test.YtflgmodofemifaaWC3
import Derived.Test.YtflgmodofemifaaWC2
import Derived.Laws.CopyOwn
import Derived.Laws.ResultCell
import Derived.Deep.MidRow

/- weights: Repeat. -/
namespace Go.Proofs.Ytflgmodofemifaa
open Go.RowKit
set_option linter.unusedVariables false
set_option linter.unusedSimpArgs false

/-- the weight of a text, k times, but for its digest -/
def repW (a : We) (k v s : Nat) : We := ⟨a.len * k, a.lines * k, if a.lines = 0 then a.len * k else a.head, if a.lines = 0 then a.len * k else a.tail, v, s⟩
theorem repW_val {a : We} (ha : WVal a) {k : Nat} (hk : 2 ≤ k) (h : a.len * k ≤ ML) {v s : Nat} (hv : v < PP) (hs : s = a.ds ^ k % PP) : WVal (repW a k v s) := by
  have a1 := ha.pos
  have a3 := ha.some
  refine ⟨Nat.mul_pos a1 (by omega), h, ?_, ?_, hv, ?_⟩
  · simp only [repW]
    intro h0
    have e1 : a.lines = 0 := by
      rcases Nat.mul_eq_zero.1 h0 with e | e
      · exact e
      · omega
    rw [if_pos e1, if_pos e1]
    exact ⟨rfl, rfl⟩
  · simp only [repW]
    intro h0
    have hl : 0 < a.lines := Nat.pos_of_mul_pos_right h0
    rw [if_neg (by omega), if_neg (by omega)]
    obtain ⟨b1, b2⟩ := a3 hl
    obtain ⟨j, rfl⟩ : ∃ j, k = j + 1 := ⟨k - 1, by omega⟩
    have e1 : a.lines * (j + 1) = a.lines * j + a.lines := Nat.mul_succ _ _
    have e2 : a.len * (j + 1) = a.len * j + a.len := Nat.mul_succ _ _
    have e3 : a.lines * j ≤ a.len * j := Nat.mul_le_mul_right j (by omega)
    have e4 : 1 * 1 ≤ a.lines * j := Nat.mul_le_mul hl (by omega)
    omega
  · show s = 1103515245 ^ (a.len * k) % PP
    rw [hs, ha.ds, ← Nat.pow_mod, ← Nat.pow_mul]

set_option maxRecDepth 100000 in
set_option maxHeartbeats 4000000 in
theorem weRepeat_any (a : We) (ha : WVal a) (k : Nat) (hk : 2 ≤ k) (h : a.len * k ≤ ML) (w : World) : Calls Try.prog 23 #[weV a, .int .i64 (k : Nat)] w fun e w' => ∃ v s : Nat, e = .returned (.tuple #[weV (repW a k v s), .nilIface]) ∧ WVal (repW a k v s) ∧ Below w.heap.size w w' := by
  obtain ⟨w1, hw1⟩ : ∃ w1, w1 = (w.alloc (.cells (weCs a).toArray 72)).alloc (.cells weZ.toArray 72) := ⟨_, rfl⟩
  have HB := Lib.hid (show Below w.heap.size w w1 by rw [hw1]; exact (below_alloc _ _).alloc (by simp) _)
  have HX := Lib.hid (show BX w1 w.heap.size (weCs a) by rw [hw1]; exact BX.alloc2 _ _ _ _)
  have HZ := Lib.hid (show BX w1 (w.heap.size + 1) weZ by rw [hw1]; exact BX.allocAt (by simp) _ _)
  have HW1 := Lib.hid hw1
  unfold weCs weZ at HW1
  have HVA := Lib.hid (fun wx => weValid_any a ha wx)
  have HFIN := Lib.hid (fun v s => repW_val ha hk h (v := v) (s := s))
  have HAD := Lib.hid (fun wx => lenMul_any a.len k ha.pos (by omega) h wx)
  have hkm : k ≤ 1152921504606846976 := Nat.le_trans (Nat.le_mul_of_pos_left k ha.pos) h
  have HDJ := Lib.hid (fun wx => digRepeat_any a.dv a.ds k (Nat.lt_trans ha.dv (by decide)) (Nat.lt_trans (lt_PP ha.ds) (by decide)) (by omega) wx)
  unfold dgV at HDJ
  have hal := ha.some
  have hmx := h
  rw [ML_val] at hmx
  have hpos := ha.pos
  cases a with
  | mk l1 n1 h1 t1 v1 s1 =>
    simp only at *
    unfold weV at HVA
    rw [show weV ⟨l1, n1, h1, t1, v1, s1⟩ = .agg #[.int .i64 (l1 : Nat), .int .i64 (n1 : Nat), .int .i64 (h1 : Nat), .int .i64 (t1 : Nat), .int .u64 (v1 : Nat), .int .u64 (s1 : Nat)] from rfl]
    have hnk : n1 * k ≤ l1 * k := Nat.mul_le_mul_right k (by
      rcases Nat.eq_zero_or_pos n1 with e1 | e1
      · omega
      · have := hal e1; omega)
    obtain ⟨L, hL⟩ : ∃ L, L = l1 * k := ⟨_, rfl⟩
    obtain ⟨N, hN⟩ : ∃ N, N = n1 * k := ⟨_, rfl⟩
    have hL0 : ((L : Int) == 0) = false := by rw [beq_eq_false_iff_ne]; have : 0 < L := by { rw [hL]; exact Nat.mul_pos hpos (by omega) }; omega
    have hsN : (n1 : Int) * (k : Int) = (N : Int) := by rw [hN]; push_cast; rfl
    have hwN : IntKind.i64.wrap (N : Int) = (N : Int) := IntWalk.i64_in _ (by rw [← hN, ← hL] at hnk; rw [← hL] at hmx; omega)
    have HJ : Hid (∀ v s : Nat, (weV (repW ⟨l1, n1, h1, t1, v1, s1⟩ k v s)) = .agg #[.int .i64 (L : Nat), .int .i64 (N : Nat), .int .i64 ((if n1 = 0 then L else h1 : Nat) : Int), .int .i64 ((if n1 = 0 then L else t1 : Nat) : Int), .int .u64 (v : Nat), .int .u64 (s : Nat)]) := Lib.hid (fun v s => by rw [hL, hN]; rfl)
    rw [← hL] at HAD
    obtain ⟨x0, x1, x2, x3, x4, x5⟩ := HX.out.we
    simp only at *
    clear ha hk h hw1 hnk hL hN hmx hal hkm hpos
    go_enter Try.func23, Try.ntmps23
    go_upto_region 1 with fail
    rw [← HW1.out]
    go_wp2_with fail
    refine (HVA.out _).mono ?_
    rintro e w3 ⟨rfl, hb2⟩
    have HX3 := Lib.hid (HX.out.below hb2)
    have HZ3 := Lib.hid (HZ.out.below hb2)
    have HB3 := Lib.hid (bthen HB.out hb2)
    clear hb2 x0 x1 x2 x3 x4 x5
    obtain ⟨x0, x1, x2, x3, x4, x5⟩ := HX3.out.we
    go_wp2_with fail
    refine (HAD.out _).mono ?_
    rintro e w4 ⟨rfl, rfl⟩
    have hn0 : ¬ w4.heap.size = w.heap.size := by have := HX3.out.lt; have := HB3.out.size; have h3 := HZ3.out.lt; omega
    go_wp2
    go_region_held3 (fun wx => wx.cell? ⟨w.heap.size, 1, none⟩ = some (.int .i64 (n1 : Nat)) ∧ wx.cell? ⟨w.heap.size, 2, none⟩ = some (.int .i64 (h1 : Nat)) ∧ wx.cell? ⟨w.heap.size, 3, none⟩ = some (.int .i64 (t1 : Nat)) ∧ wx.cell? ⟨w.heap.size, 4, none⟩ = some (.int .u64 (v1 : Nat)) ∧ wx.cell? ⟨w.heap.size, 5, none⟩ = some (.int .u64 (s1 : Nat))) (first | (simp only [World.cell?_setCell_far, ne_eq, hn0, not_false_eq_true]; exact ⟨x1', x2', x3', x4', x5'⟩) | exact ⟨x1, x2, x3, x4, x5⟩ | exact ⟨x1', x2', x3', x4', x5'⟩ | exact ⟨below_cell (below_alloc _ _) x1', below_cell (below_alloc _ _) x2', below_cell (below_alloc _ _) x3', below_cell (below_alloc _ _) x4', below_cell (below_alloc _ _) x5'⟩ | go_keep) (first
      | (go_at_call 42; refine (HDJ.out _).mono ?_; rintro e w5 ⟨v, s, hv, hs, rfl, hb5⟩; have HVS := Lib.hid (And.intro hv hs); have HB45 : Hid (Below w4.heap.size w4 w5) := Lib.hid (by first | exact (Below.refl _ _).drew.trans hb5 | exact ((Below.refl _ _).drew.alloc (Nat.le_refl _) _).trans (hb5.mono (by simp))); have HX5 := Lib.hid (HX3.out.below HB45.out); have HZ5 := Lib.hid (HZ3.out.below HB45.out); have HB5 := Lib.hid (bthen HB3.out HB45.out); (try (have HT5 := Lib.hid ((BX.allocAt (w := w4.drew) (b := w4.heap.size) rfl weZ 72).below hb5); obtain ⟨z0, z1, z2, z3, z4, z5⟩ := HT5.out.zc; have zf0 := HT5.out.fz 0; have zf1 := HT5.out.fz 1; have zf2 := HT5.out.fz 2; have zf3 := HT5.out.fz 3; have zf4 := HT5.out.fz 4; have zf5 := HT5.out.fz 5)); clear hv hs hb5; have x1' := HX5.out.we.c1; have x2' := HX5.out.we.c2; have x3' := HX5.out.we.c3; have x4' := HX5.out.we.c4; have x5' := HX5.out.we.c5))
    · obtain ⟨w6, hw6⟩ : ∃ w6, w6 = w5.alloc (.cells #[.int .i64 (L : Nat), .int .i64 (N : Nat), .int .i64 (h1 : Nat), .int .i64 (t1 : Nat), .int .u64 (v : Nat), .int .u64 (s : Nat)] 72) := ⟨_, rfl⟩
      obtain ⟨b8, hb8⟩ : ∃ b8, b8 = w5.heap.size := ⟨_, rfl⟩
      have HQ : Hid (BX w6 b8 [.int .i64 (L : Nat), .int .i64 (N : Nat), .int .i64 (h1 : Nat), .int .i64 (t1 : Nat), .int .u64 (v : Nat), .int .u64 (s : Nat)]) := Lib.hid (by rw [hw6, hb8]; exact BX.alloc _ _ _)
      have hb56 : Below w5.heap.size w5 w6 := by rw [hw6]; exact below_alloc _ _
      have HX6 := Lib.hid (HX5.out.below hb56)
      have HZ6 := Lib.hid (HZ5.out.below hb56)
      have HB6 := Lib.hid (bthen HB5.out hb56)
      have HB8 : Hid (w.heap.size ≤ b8 ∧ w.heap.size + 1 < b8) := Lib.hid (by have h3 := HZ5.out.lt; omega)
      rw [← hw6, ← hb8]
      clear hw6 hb8 hb56
      clear hn0 x1 x2 x3 x4 x5 x1' x2' x3' x4' x5'
      have x1 := HX6.out.we.c1
      simp only [Nat.zero_add] at x1
      have q2 := HQ.out.cell (j := 2) rfl
      have q3 := HQ.out.cell (j := 3) rfl
      have qf2 := HQ.out.fz 2
      have qf3 := HQ.out.fz 3
      by_cases e1 : n1 = 0
      · have hc1 : ((n1 : Int) == 0) = true := by rw [beq_iff_eq]; omega
        have HC := Lib.hid e1
        clear e1
        go_upto_region 13 with fail
        obtain ⟨w7, hw7⟩ : ∃ w7, w7 = (w6.setCell ⟨b8, 2, none⟩ (.int .i64 (L : Nat))).setCell ⟨b8, 3, none⟩ (.int .i64 (L : Nat)) := ⟨_, rfl⟩
        have HQ7 : Hid (BX w7 b8 [.int .i64 (L : Nat), .int .i64 (N : Nat), .int .i64 (L : Nat), .int .i64 (L : Nat), .int .u64 (v : Nat), .int .u64 (s : Nat)]) := Lib.hid (by rw [hw7]; exact ((HQ.out.set1 (j := 2) (by simp) (.int .i64 (L : Nat))).set1 (j := 3) (by simp) (.int .i64 (L : Nat))))
        have HB7 : Hid (Below w.heap.size w w7) := Lib.hid (by have hbb := HB8.out.1; rw [hw7]; exact ((HB6.out.setCell hbb _).setCell hbb _))
        have HZ7 : Hid (BX w7 (w.heap.size + 1) weZ) := Lib.hid (by have hbb := HB8.out.2; rw [hw7]; exact HZ6.out.fr (Fr.setCell (S := fun i => i = b8) (Fr.setCell (S := fun i => i = b8) (Fr.refl _ w6) (p := ⟨b8, 2, none⟩) rfl _) (p := ⟨b8, 3, none⟩) rfl _) (fun e => by omega))
        rw [← hw7]
        clear hw7 x1 q2 q3 qf2 qf3
        have HT7 := Lib.hid (HZ7.out.there 0 6 (by simp [weZ]))
        have hrg := HQ7.out.rng
        go_wp2_with (first | (refine wpList_load_mid rfl 72 _ rfl b8 0 rfl _ _ hrg Try.underlying72 rfl we_info ?_; clear hrg) | (refine wpList_store_mid rfl 72 _ _ rfl (w.heap.size + 1) 0 #[.int .i64 (L : Nat), .int .i64 (N : Nat), .int .i64 (L : Nat), .int .i64 (L : Nat), .int .u64 (v : Nat), .int .u64 (s : Nat)] rfl rfl HT7.out we_info (by simp [Value.oneCell']) ?_))
        have hx8 := HZ7.out.putAll [.int .i64 (L : Nat), .int .i64 (N : Nat), .int .i64 (L : Nat), .int .i64 (L : Nat), .int .u64 (v : Nat), .int .u64 (s : Nat)] rfl
        have hb9 := belowSetCells HB7.out (show w.heap.size ≤ w.heap.size + 1 by omega) 0 [.int .i64 (L : Nat), .int .i64 (N : Nat), .int .i64 (L : Nat), .int .i64 (L : Nat), .int .u64 (v : Nat), .int .u64 (s : Nat)] HB7.out.size
        refine bodyPost_ret (res_cell_tmp rfl _ _ (w.heap.size + 1) _ _ rfl hx8.rng Try.underlying72 rfl we_info) rfl ?_
        refine ⟨v, s, ?_, HFIN.out v s HVS.out.1 HVS.out.2, hb9⟩
        rw [HJ.out, if_pos HC.out, if_pos HC.out]
        rfl

      · have hc1 : ((n1 : Int) == 0) = false := by rw [beq_eq_false_iff_ne]; omega
        have HC := Lib.hid e1
        clear e1
        go_upto_region 13 with fail
        obtain ⟨w7, hw7⟩ : ∃ w7, w7 = w6 := ⟨_, rfl⟩
        have HQ7 : Hid (BX w7 b8 [.int .i64 (L : Nat), .int .i64 (N : Nat), .int .i64 (h1 : Nat), .int .i64 (t1 : Nat), .int .u64 (v : Nat), .int .u64 (s : Nat)]) := Lib.hid (by rw [hw7]; exact HQ.out)
        have HB7 : Hid (Below w.heap.size w w7) := Lib.hid (by have hbb := HB8.out.1; rw [hw7]; exact HB6.out)
        have HZ7 : Hid (BX w7 (w.heap.size + 1) weZ) := Lib.hid (by have hbb := HB8.out.2; rw [hw7]; exact HZ6.out.fr (Fr.refl (fun i => i = b8) w6) (fun e => by omega))
        rw [← hw7]
        clear hw7 x1 q2 q3 qf2 qf3
        have HT7 := Lib.hid (HZ7.out.there 0 6 (by simp [weZ]))
        have hrg := HQ7.out.rng
        go_wp2_with (first | (refine wpList_load_mid rfl 72 _ rfl b8 0 rfl _ _ hrg Try.underlying72 rfl we_info ?_; clear hrg) | (refine wpList_store_mid rfl 72 _ _ rfl (w.heap.size + 1) 0 #[.int .i64 (L : Nat), .int .i64 (N : Nat), .int .i64 (h1 : Nat), .int .i64 (t1 : Nat), .int .u64 (v : Nat), .int .u64 (s : Nat)] rfl rfl HT7.out we_info (by simp [Value.oneCell']) ?_))
        have hx8 := HZ7.out.putAll [.int .i64 (L : Nat), .int .i64 (N : Nat), .int .i64 (h1 : Nat), .int .i64 (t1 : Nat), .int .u64 (v : Nat), .int .u64 (s : Nat)] rfl
        have hb9 := belowSetCells HB7.out (show w.heap.size ≤ w.heap.size + 1 by omega) 0 [.int .i64 (L : Nat), .int .i64 (N : Nat), .int .i64 (h1 : Nat), .int .i64 (t1 : Nat), .int .u64 (v : Nat), .int .u64 (s : Nat)] HB7.out.size
        refine bodyPost_ret (res_cell_tmp rfl _ _ (w.heap.size + 1) _ _ rfl hx8.rng Try.underlying72 rfl we_info) rfl ?_
        refine ⟨v, s, ?_, HFIN.out v s HVS.out.1 HVS.out.2, hb9⟩
        rw [HJ.out, if_neg HC.out, if_neg HC.out]
        rfl

    · obtain ⟨w6, hw6⟩ : ∃ w6, w6 = w5.setCells w4.heap.size 0 [.int .i64 (L : Nat), .int .i64 (N : Nat), .int .i64 (h1 : Nat), .int .i64 (t1 : Nat), .int .u64 (v : Nat), .int .u64 (s : Nat)] := ⟨_, rfl⟩
      obtain ⟨b8, hb8⟩ : ∃ b8, b8 = w4.heap.size := ⟨_, rfl⟩
      have HQ : Hid (BX w6 b8 [.int .i64 (L : Nat), .int .i64 (N : Nat), .int .i64 (h1 : Nat), .int .i64 (t1 : Nat), .int .u64 (v : Nat), .int .u64 (s : Nat)]) := Lib.hid (by rw [hw6, hb8]; exact HT5.out.putAll _ rfl)
      have hf6 : Fr (fun i => i = b8) w5 w6 := by rw [hw6, hb8]; exact frSetCells _ _ _ _
      have HB8 : Hid (w.heap.size ≤ b8 ∧ w.heap.size + 1 < b8) := Lib.hid (by have h3 := HZ3.out.lt; omega)
      have HX6 := Lib.hid (HX5.out.fr hf6 (fun e => by have := HB8.out; omega))
      have HZ6 := Lib.hid (HZ5.out.fr hf6 (fun e => by have := HB8.out; omega))
      have HB6 : Hid (Below w.heap.size w w6) := Lib.hid (HB5.out.trans (hf6.below (fun i hi => by rw [hi]; exact HB8.out.1) HB5.out.size))
      rw [show ((((((w5.setCell ⟨w4.heap.size, 0, none⟩ (.int .i64 (L : Nat))).setCell ⟨w4.heap.size, 1, none⟩ (.int .i64 (N : Nat))).setCell ⟨w4.heap.size, 2, none⟩ (.int .i64 (h1 : Nat))).setCell ⟨w4.heap.size, 3, none⟩ (.int .i64 (t1 : Nat))).setCell ⟨w4.heap.size, 4, none⟩ (.int .u64 (v : Nat))).setCell ⟨w4.heap.size, 5, none⟩ (.int .u64 (s : Nat))) = w6 from hw6.symm, ← hb8]
      clear hw6 hb8 hf6
      clear hn0 z0 z1 z2 z3 z4 z5 zf0 zf1 zf2 zf3 zf4 zf5 x1 x2 x3 x4 x5 x1' x2' x3' x4' x5'
      have x1 := HX6.out.we.c1
      simp only [Nat.zero_add] at x1
      have q2 := HQ.out.cell (j := 2) rfl
      have q3 := HQ.out.cell (j := 3) rfl
      have qf2 := HQ.out.fz 2
      have qf3 := HQ.out.fz 3
      by_cases e1 : n1 = 0
      · have hc1 : ((n1 : Int) == 0) = true := by rw [beq_iff_eq]; omega
        have HC := Lib.hid e1
        clear e1
        go_upto_region 13 with fail
        obtain ⟨w7, hw7⟩ : ∃ w7, w7 = (w6.setCell ⟨b8, 2, none⟩ (.int .i64 (L : Nat))).setCell ⟨b8, 3, none⟩ (.int .i64 (L : Nat)) := ⟨_, rfl⟩
        have HQ7 : Hid (BX w7 b8 [.int .i64 (L : Nat), .int .i64 (N : Nat), .int .i64 (L : Nat), .int .i64 (L : Nat), .int .u64 (v : Nat), .int .u64 (s : Nat)]) := Lib.hid (by rw [hw7]; exact ((HQ.out.set1 (j := 2) (by simp) (.int .i64 (L : Nat))).set1 (j := 3) (by simp) (.int .i64 (L : Nat))))
        have HB7 : Hid (Below w.heap.size w w7) := Lib.hid (by have hbb := HB8.out.1; rw [hw7]; exact ((HB6.out.setCell hbb _).setCell hbb _))
        have HZ7 : Hid (BX w7 (w.heap.size + 1) weZ) := Lib.hid (by have hbb := HB8.out.2; rw [hw7]; exact HZ6.out.fr (Fr.setCell (S := fun i => i = b8) (Fr.setCell (S := fun i => i = b8) (Fr.refl _ w6) (p := ⟨b8, 2, none⟩) rfl _) (p := ⟨b8, 3, none⟩) rfl _) (fun e => by omega))
        rw [← hw7]
        clear hw7 x1 q2 q3 qf2 qf3
        have HT7 := Lib.hid (HZ7.out.there 0 6 (by simp [weZ]))
        have hrg := HQ7.out.rng
        go_wp2_with (first | (refine wpList_load_mid rfl 72 _ rfl b8 0 rfl _ _ hrg Try.underlying72 rfl we_info ?_; clear hrg) | (refine wpList_store_mid rfl 72 _ _ rfl (w.heap.size + 1) 0 #[.int .i64 (L : Nat), .int .i64 (N : Nat), .int .i64 (L : Nat), .int .i64 (L : Nat), .int .u64 (v : Nat), .int .u64 (s : Nat)] rfl rfl HT7.out we_info (by simp [Value.oneCell']) ?_))
        have hx8 := HZ7.out.putAll [.int .i64 (L : Nat), .int .i64 (N : Nat), .int .i64 (L : Nat), .int .i64 (L : Nat), .int .u64 (v : Nat), .int .u64 (s : Nat)] rfl
        have hb9 := belowSetCells HB7.out (show w.heap.size ≤ w.heap.size + 1 by omega) 0 [.int .i64 (L : Nat), .int .i64 (N : Nat), .int .i64 (L : Nat), .int .i64 (L : Nat), .int .u64 (v : Nat), .int .u64 (s : Nat)] HB7.out.size
        refine bodyPost_ret (res_cell_tmp rfl _ _ (w.heap.size + 1) _ _ rfl hx8.rng Try.underlying72 rfl we_info) rfl ?_
        refine ⟨v, s, ?_, HFIN.out v s HVS.out.1 HVS.out.2, hb9⟩
        rw [HJ.out, if_pos HC.out, if_pos HC.out]
        rfl

      · have hc1 : ((n1 : Int) == 0) = false := by rw [beq_eq_false_iff_ne]; omega
        have HC := Lib.hid e1
        clear e1
        go_upto_region 13 with fail
        obtain ⟨w7, hw7⟩ : ∃ w7, w7 = w6 := ⟨_, rfl⟩
        have HQ7 : Hid (BX w7 b8 [.int .i64 (L : Nat), .int .i64 (N : Nat), .int .i64 (h1 : Nat), .int .i64 (t1 : Nat), .int .u64 (v : Nat), .int .u64 (s : Nat)]) := Lib.hid (by rw [hw7]; exact HQ.out)
        have HB7 : Hid (Below w.heap.size w w7) := Lib.hid (by have hbb := HB8.out.1; rw [hw7]; exact HB6.out)
        have HZ7 : Hid (BX w7 (w.heap.size + 1) weZ) := Lib.hid (by have hbb := HB8.out.2; rw [hw7]; exact HZ6.out.fr (Fr.refl (fun i => i = b8) w6) (fun e => by omega))
        rw [← hw7]
        clear hw7 x1 q2 q3 qf2 qf3
        have HT7 := Lib.hid (HZ7.out.there 0 6 (by simp [weZ]))
        have hrg := HQ7.out.rng
        go_wp2_with (first | (refine wpList_load_mid rfl 72 _ rfl b8 0 rfl _ _ hrg Try.underlying72 rfl we_info ?_; clear hrg) | (refine wpList_store_mid rfl 72 _ _ rfl (w.heap.size + 1) 0 #[.int .i64 (L : Nat), .int .i64 (N : Nat), .int .i64 (h1 : Nat), .int .i64 (t1 : Nat), .int .u64 (v : Nat), .int .u64 (s : Nat)] rfl rfl HT7.out we_info (by simp [Value.oneCell']) ?_))
        have hx8 := HZ7.out.putAll [.int .i64 (L : Nat), .int .i64 (N : Nat), .int .i64 (h1 : Nat), .int .i64 (t1 : Nat), .int .u64 (v : Nat), .int .u64 (s : Nat)] rfl
        have hb9 := belowSetCells HB7.out (show w.heap.size ≤ w.heap.size + 1 by omega) 0 [.int .i64 (L : Nat), .int .i64 (N : Nat), .int .i64 (h1 : Nat), .int .i64 (t1 : Nat), .int .u64 (v : Nat), .int .u64 (s : Nat)] HB7.out.size
        refine bodyPost_ret (res_cell_tmp rfl _ _ (w.heap.size + 1) _ _ rfl hx8.rng Try.underlying72 rfl we_info) rfl ?_
        refine ⟨v, s, ?_, HFIN.out v s HVS.out.1 HVS.out.2, hb9⟩
        rw [HJ.out, if_neg HC.out, if_neg HC.out]
        rfl


end Go.Proofs.Ytflgmodofemifaa

/- PLAIN LAW of the store: rules, their texts, what makes a list of entries good. -/
namespace Go.Proofs.Ytflgmodofemifaa
set_option linter.unusedVariables false
set_option linter.unusedSimpArgs false

/-- a rule -/
structure Ru where
  kind : Nat
  letter : Nat
  left : Nat
  right : Nat
  times : Nat
/-- an entry -/
structure En where
  ru : Ru
  we : We
  depth : Nat
  even : Bool

/-- a text, k times -/
def rep (k : Nat) (t : List Nat) : List Nat := (List.replicate k t).flatten
theorem rep_zero (t : List Nat) : rep 0 t = [] := rfl
theorem rep_succ (k : Nat) (t : List Nat) : rep (k + 1) t = t ++ rep k t := by simp [rep, List.replicate_succ]
theorem rep_one (t : List Nat) : rep 1 t = t := by simp [rep]
theorem rep_add (j k : Nat) (t : List Nat) : rep (j + k) t = rep j t ++ rep k t := by simp [rep, ← List.replicate_append_replicate]
theorem rep_len (k : Nat) (t : List Nat) : (rep k t).length = k * t.length := by simp [rep]
theorem rep_mul (j k : Nat) (t : List Nat) : rep (j * k) t = rep j (rep k t) := by
  induction j with
  | zero => simp [rep]
  | succ j ih => rw [Nat.succ_mul, Nat.add_comm, rep_add, ih, rep_succ]

/-- the text of a rule, by those of the rules ahead of it -/
def txt1 (T : List (List Nat)) (r : Ru) : List Nat :=
  if r.kind = 1 then [r.letter] else if r.kind = 2 then T.getD (r.left - 1) [] ++ T.getD (r.right - 1) [] else rep r.times (T.getD (r.left - 1) [])
def texts (L : List En) : List (List Nat) := L.foldl (fun T e => T ++ [txt1 T e.ru]) []
/-- the text of a number of a rule -/
def tx (L : List En) (id : Nat) : List Nat := (texts L).getD (id - 1) []

theorem snoc_ind {α : Type} {p : List α → Prop} (h0 : p []) (h1 : ∀ l a, p l → p (l ++ [a])) (l : List α) : p l := by
  have : ∀ r : List α, p r.reverse := by
    intro r
    induction r with
    | nil => exact h0
    | cons a r ih => rw [List.reverse_cons]; exact h1 _ _ ih
  have h := this l.reverse
  rwa [List.reverse_reverse] at h
theorem texts_snoc (L : List En) (e : En) : texts (L ++ [e]) = texts L ++ [txt1 (texts L) e.ru] := by simp [texts]
theorem texts_len (L : List En) : (texts L).length = L.length := by
  refine snoc_ind (p := fun L => (texts L).length = L.length) rfl (fun L e ih => ?_) L
  rw [texts_snoc]; simp [ih]
theorem tx_snoc {L : List En} {e : En} {id : Nat} (h0 : 0 < id) (h : id ≤ L.length) : tx (L ++ [e]) id = tx L id := by
  unfold tx
  rw [texts_snoc]
  simp only [List.getD]
  rw [List.getElem?_append_left (by rw [texts_len]; omega)]
theorem tx_new (L : List En) (e : En) : tx (L ++ [e]) (L.length + 1) = txt1 (texts L) e.ru := by
  unfold tx
  rw [texts_snoc]
  simp [List.getD, texts_len]

/-- what makes an entry good, i entries being ahead of it -/
def RuOk (L : List En) (i : Nat) (e : En) : Prop :=
  (e.ru.kind = 1 ∧ e.ru.letter < 256 ∧ e.ru.left = 0 ∧ e.ru.right = 0 ∧ e.ru.times = 0) ∨
  (e.ru.kind = 2 ∧ e.ru.letter = 0 ∧ e.ru.times = 0 ∧ 0 < e.ru.left ∧ e.ru.left ≤ i ∧ 0 < e.ru.right ∧ e.ru.right ≤ i) ∨
  (e.ru.kind = 3 ∧ e.ru.letter = 0 ∧ e.ru.right = 0 ∧ 0 < e.ru.left ∧ e.ru.left ≤ i ∧ 2 ≤ e.ru.times ∧ e.ru.times < 9223372036854775808)

/-- a good list of entries -/
structure Good (L : List En) : Prop where
  we : ∀ (i : Nat) (e : En), L[i]? = some e → WVal e.we
  ru : ∀ (i : Nat) (e : En), L[i]? = some e → RuOk L i e
  depth : ∀ (i : Nat) (e : En), L[i]? = some e → e.depth ≤ i
  len : ∀ (i : Nat) (e : En), L[i]? = some e → e.we.len = (tx L (i + 1)).length
  nodup : (L.map (·.ru)).Nodup

theorem Good.nil : Good [] := ⟨fun i e h => by simp at h, fun i e h => by simp at h, fun i e h => by simp at h, fun i e h => by simp at h, by simp⟩

theorem snoc_get {α : Type} {l : List α} {x y : α} {i : Nat} (h : (l ++ [x])[i]? = some y) : (i < l.length ∧ l[i]? = some y) ∨ (i = l.length ∧ y = x) := by
  rcases Nat.lt_trichotomy i l.length with hl | hl | hl
  · rw [List.getElem?_append_left hl] at h; exact .inl ⟨hl, h⟩
  · subst hl; simp at h; exact .inr ⟨rfl, h.symm⟩
  · rw [List.getElem?_append_right (by omega)] at h
    obtain ⟨k, hk⟩ : ∃ k, i - l.length = k + 1 := ⟨i - l.length - 1, by omega⟩
    rw [hk] at h; simp at h

theorem RuOk.mono {L L' : List En} {i : Nat} {e : En} (h : RuOk L i e) : RuOk L' i e := h

/-- an entry is added -/
theorem Good.snoc {L : List En} (h : Good L) {e : En} (hw : WVal e.we) (hr : RuOk L L.length e) (hd : e.depth ≤ L.length) (hl : e.we.len = (txt1 (texts L) e.ru).length) (hn : e.ru ∉ L.map (·.ru)) : Good (L ++ [e]) := by
  refine ⟨fun i x hx => ?_, fun i x hx => ?_, fun i x hx => ?_, fun i x hx => ?_, ?_⟩
  · rcases snoc_get hx with ⟨_, h1⟩ | ⟨_, rfl⟩
    · exact h.we i x h1
    · exact hw
  · rcases snoc_get hx with ⟨_, h1⟩ | ⟨rfl, rfl⟩
    · exact h.ru i x h1
    · exact hr
  · rcases snoc_get hx with ⟨_, h1⟩ | ⟨rfl, rfl⟩
    · exact h.depth i x h1
    · exact hd
  · rcases snoc_get hx with ⟨h0, h1⟩ | ⟨rfl, rfl⟩
    · rw [tx_snoc (by omega) (by omega)]; exact h.len i x h1
    · rw [tx_new]; exact hl
  · rw [List.map_append, List.nodup_append]
    refine ⟨h.nodup, by simp, fun a ha b hb => ?_⟩
    simp at hb
    rw [hb]
    intro e2
    rw [e2] at ha
    exact hn ha

/-- L2 has L ahead -/
def Ext (L L2 : List En) : Prop := ∃ M, L2 = L ++ M
theorem Ext.refl (L : List En) : Ext L L := ⟨[], by simp⟩
theorem Ext.snoc (L : List En) (e : En) : Ext L (L ++ [e]) := ⟨[e], rfl⟩
theorem Ext.trans {A B C : List En} (h : Ext A B) (k : Ext B C) : Ext A C := by
  obtain ⟨M, rfl⟩ := h
  obtain ⟨N, rfl⟩ := k
  exact ⟨M ++ N, by simp⟩
theorem Ext.len {A B : List En} (h : Ext A B) : A.length ≤ B.length := by obtain ⟨M, rfl⟩ := h; simp
theorem Ext.get {A B : List En} (h : Ext A B) {i : Nat} {e : En} (hi : A[i]? = some e) : B[i]? = some e := by
  obtain ⟨M, rfl⟩ := h
  rw [List.getElem?_append_left (List.getElem?_eq_some_iff.1 hi).1]; exact hi
theorem tx_app (L M : List En) {id : Nat} (h0 : 0 < id) (h : id ≤ L.length) : tx (L ++ M) id = tx L id := by
  refine snoc_ind (p := fun M => tx (L ++ M) id = tx L id) (by simp) (fun M e ih => ?_) M
  rw [← List.append_assoc, tx_snoc h0 (by simp; omega), ih]
theorem Ext.tx {A B : List En} (h : Ext A B) {id : Nat} (h0 : 0 < id) (hl : id ≤ A.length) : tx B id = tx A id := by
  obtain ⟨M, rfl⟩ := h
  exact tx_app A M h0 hl

/-- the text of a rule that is there -/
theorem tx_at {L : List En} (h : Good L) {i : Nat} {e : En} (hi : L[i]? = some e) : tx L (i + 1) = (if e.ru.kind = 1 then [e.ru.letter] else if e.ru.kind = 2 then tx L e.ru.left ++ tx L e.ru.right else rep e.ru.times (tx L e.ru.left)) := by
  have hil := (List.getElem?_eq_some_iff.1 hi).1
  have hL : L = (L.take i ++ [e]) ++ L.drop (i + 1) := by
    rw [List.append_assoc, List.singleton_append]
    conv => lhs; rw [← List.take_append_drop i L]
    congr 1
    rw [List.drop_eq_getElem_cons hil]
    congr 1
    exact (List.getElem?_eq_some_iff.1 hi).2
  have hti : (L.take i).length = i := by simp; omega
  have e1 : tx L (i + 1) = txt1 (texts (L.take i)) e.ru := by
    conv => lhs; rw [hL]
    rw [tx_app _ _ (by omega) (by simp; omega)]
    have := tx_new (L.take i) e
    rw [hti] at this
    exact this
  have e2 : ∀ id, 0 < id → id ≤ i → (texts (L.take i)).getD (id - 1) [] = tx L id := by
    intro id h0 h1
    show tx (L.take i) id = tx L id
    have := tx_app (L.take i) (L.drop i) h0 (by rw [hti]; exact h1)
    rw [List.take_append_drop] at this
    exact this.symm
  rw [e1]
  unfold txt1
  rcases h.ru i e hi with ⟨k1, _⟩ | ⟨k2, _, _, a1, a2, a3, a4⟩ | ⟨k3, _, _, a1, a2, _⟩
  · rw [if_pos k1, if_pos k1]
  · rw [if_neg (by omega), if_pos k2, if_neg (by omega), if_pos k2, e2 _ a1 a2, e2 _ a3 a4]
  · rw [if_neg (by omega), if_neg (by omega), if_neg (by omega), if_neg (by omega), e2 _ a1 a2]

end Go.Proofs.Ytflgmodofemifaa

/- PLAIN LAW of the effects of texts: from each state the state behind a text, and the hits on the way. -/
namespace Go.Proofs.Ytflgmodofemifaa
set_option linter.unusedVariables false
set_option linter.unusedSimpArgs false

/-- a machine with hits: its classes, its rows, its hits -/
structure Mc where
  cls : List Int
  next : List (List Int)
  hits : List Int
/-- one step -/
def Mc.go (m : Mc) (q b : Nat) : Nat := ((m.next.getD q []).getD (m.cls.getD b 0).toNat 0).toNat
def Mc.st (m : Mc) (q : Nat) (t : List Nat) : Nat := t.foldl m.go q
def Mc.hs (m : Mc) : Nat → List Nat → Nat
  | _, [] => 0
  | q, b :: t => (m.hits.getD (m.go q b) 0).toNat + m.hs (m.go q b) t
/-- what is asked of it: at most four hits a letter -/
structure McOk (m : Mc) : Prop where
  n0 : 0 < m.next.length
  n9 : m.next.length ≤ 256
  hl : m.hits.length = m.next.length
  h4 : ∀ x ∈ m.hits, 0 ≤ x ∧ x ≤ 4
  go : ∀ q b, q < m.next.length → b < 256 → m.go q b < m.next.length

theorem Mc.st_nil (m : Mc) (q : Nat) : m.st q [] = q := rfl
theorem Mc.st_app (m : Mc) (q : Nat) (s t : List Nat) : m.st q (s ++ t) = m.st (m.st q s) t := by simp [Mc.st]
theorem Mc.hs_app (m : Mc) : ∀ (s : List Nat) (q : Nat) (t : List Nat), m.hs q (s ++ t) = m.hs q s + m.hs (m.st q s) t
  | [], q, t => by simp [Mc.hs, Mc.st]
  | b :: s, q, t => by
    show _ + m.hs (m.go q b) (s ++ t) = (_ + m.hs (m.go q b) s) + m.hs (m.st (m.go q b) s) t
    rw [Mc.hs_app m s (m.go q b) t]; omega
/-- bytes -/
def Bts (t : List Nat) : Prop := ∀ b ∈ t, b < 256
theorem Bts.app {s t : List Nat} (h : Bts s) (k : Bts t) : Bts (s ++ t) := fun b hb => by
  rcases List.mem_append.1 hb with h1 | h1
  · exact h b h1
  · exact k b h1
theorem Bts.rep {t : List Nat} (h : Bts t) (k : Nat) : Bts (rep k t) := by
  induction k with
  | zero => intro b hb; simp [Go.Proofs.Ytflgmodofemifaa.rep] at hb
  | succ k ih => rw [rep_succ]; exact h.app ih
theorem McOk.st_lt {m : Mc} (h : McOk m) : ∀ (t : List Nat) (q : Nat), q < m.next.length → Bts t → m.st q t < m.next.length
  | [], q, hq, _ => hq
  | b :: t, q, hq, hb => by
    show m.st (m.go q b) t < _
    exact h.st_lt t _ (h.go q b hq (hb b (by simp))) (fun x hx => hb x (by simp [hx]))
theorem McOk.hs_le {m : Mc} (h : McOk m) : ∀ (t : List Nat) (q : Nat), m.hs q t ≤ 4 * t.length
  | [], q => by simp [Mc.hs]
  | b :: t, q => by
    show (m.hits.getD (m.go q b) 0).toNat + m.hs (m.go q b) t ≤ 4 * (t.length + 1)
    have h1 := h.hs_le t (m.go q b)
    have h2 : (m.hits.getD (m.go q b) 0).toNat ≤ 4 := by
      by_cases hlt : m.go q b < m.hits.length
      · have := h.h4 _ (getD_mem (d := 0) hlt)
        omega
      · simp [List.getD, List.getElem?_eq_none (Nat.le_of_not_lt hlt)]
    omega

/-- the rows of an effect -/
def Mc.endL (m : Mc) (t : List Nat) : List Int := (List.range m.next.length).map fun q => (m.st q t : Int)
def Mc.hitL (m : Mc) (t : List Nat) : List Int := (List.range m.next.length).map fun q => (m.hs q t : Int)
theorem Mc.endL_len (m : Mc) (t : List Nat) : (m.endL t).length = m.next.length := by simp [Mc.endL]
theorem Mc.hitL_len (m : Mc) (t : List Nat) : (m.hitL t).length = m.next.length := by simp [Mc.hitL]
theorem Mc.endL_get (m : Mc) (t : List Nat) {q : Nat} (h : q < m.next.length) : (m.endL t).getD q 0 = (m.st q t : Int) := by simp [Mc.endL, List.getD, h]
theorem Mc.hitL_get (m : Mc) (t : List Nat) {q : Nat} (h : q < m.next.length) : (m.hitL t).getD q 0 = (m.hs q t : Int) := by simp [Mc.hitL, List.getD, h]

/-- every text of a good list is of bytes -/
theorem tx_bts {L : List En} (h : Good L) : ∀ (N id : Nat), id ≤ N → 0 < id → id ≤ L.length → Bts (tx L id) := by
  intro N
  induction N with
  | zero => intro id h1 h0; omega
  | succ N ih =>
    intro id hN h0 hl
    obtain ⟨e, he⟩ : ∃ e, L[id - 1]? = some e := ⟨_, List.getElem?_eq_getElem (by omega)⟩
    have ht := tx_at h he
    rw [show id - 1 + 1 = id by omega] at ht
    rw [ht]
    rcases h.ru _ _ he with ⟨k1, hb, _⟩ | ⟨k2, _, _, a1, a2, a3, a4⟩ | ⟨k3, _, _, a1, a2, _⟩
    · rw [if_pos k1]; intro b hb2; simp at hb2; omega
    · rw [if_neg (by omega), if_pos k2]
      exact (ih _ (by omega) a1 (by omega)).app (ih _ (by omega) a3 (by omega))
    · rw [if_neg (by omega), if_neg (by omega)]
      exact (ih _ (by omega) a1 (by omega)).rep _

end Go.Proofs.Ytflgmodofemifaa

/- GENERIC LAWS, over any program: a family of rows of the call's own (each of one-cell elements), no two in one block, none in the blocks N; append, store, make, copy at the operation. -/
namespace Go.Proofs.Ytflgmodofemifaa
open Go.RowKit
set_option linter.unusedVariables false
set_option linter.unusedSimpArgs false

/-- a row: its elements' type, the slice value, the elements -/
abbrev Rw := TypeId × Value × List Value

abbrev AtR (l : List (Option Rw)) (i : Nat) (e : TypeId) (v : Value) (xs : List Value) : Prop := l[i]? = some (some (e, v, xs))

structure RF (B : Nat) (N : Nat → Prop) (w : World) (l : List (Option Rw)) : Prop where
  own : ∀ i e v xs, AtR l i e v xs → Row w B e 1 v xs.length xs
  ne : ∀ i j e v xs e' v' xs' g, i ≠ j → AtR l i e v xs → l[j]? = some (some (e', v', xs')) → v.ownBlock = some g → v'.ownBlock ≠ some g
  av : ∀ i e v xs g, AtR l i e v xs → v.ownBlock = some g → ¬ N g
  nl : ∀ b, N b → b < w.heap.size
  bw : B ≤ w.heap.size

theorem RF.lt {B N w l} (h : RF B N w l) {i e v xs g} (hi : AtR l i e v xs) (hg : v.ownBlock = some g) : g < w.heap.size ∧ B ≤ g := Row.block_lt (h.own i e v xs hi) hg

theorem RF.fr {B N w w' l} {S : Nat → Prop} (h : RF B N w l) (hf : Fr S w w') (hS : ∀ i e v xs g, AtR l i e v xs → v.ownBlock = some g → ¬ S g) : RF B N w' l :=
  ⟨fun i e v xs hi => Row.fr (h.own i e v xs hi) hf (fun g hg => hS i e v xs g hi hg), h.ne, h.av, fun b hb => Nat.lt_of_lt_of_le (h.nl b hb) hf.size, Nat.le_trans h.bw hf.size⟩
theorem RF.below {B N w w' l} (h : RF B N w l) (hb : Below w.heap.size w w') : RF B N w' l := h.fr (S := fun _ => False) (.of_below hb) (fun _ _ _ _ _ _ _ h => h)
/-- what is written lies in N -/
theorem RF.cells {B N w w' l} (h : RF B N w l) (hf : Fr N w w') : RF B N w' l := h.fr hf h.av

/-- a family of one row -/
theorem RF.one {B : Nat} {N : Nat → Prop} {w : World} {e v xs} (hr : Row w B e 1 v xs.length xs) (hav : ∀ g, v.ownBlock = some g → ¬ N g) (nl : ∀ b, N b → b < w.heap.size) (bw : B ≤ w.heap.size) : RF B N w [some (e, v, xs)] := by
  have get : ∀ {i e2 v2 xs2}, AtR [some (e, v, xs)] i e2 v2 xs2 → i = 0 ∧ e2 = e ∧ v2 = v ∧ xs2 = xs := by
    intro i e2 v2 xs2 hi
    rcases i with _ | i
    · have h := Option.some.inj (Option.some.inj hi)
      simp only [Prod.mk.injEq] at h
      exact ⟨rfl, h.1.symm, h.2.1.symm, h.2.2.symm⟩
    · cases hi
  refine ⟨fun i e2 v2 xs2 hi => ?_, fun i j e2 v2 xs2 e3 v3 xs3 g hne hi hj => ?_, fun i e2 v2 xs2 g hi hg => ?_, nl, bw⟩
  · obtain ⟨_, rfl, rfl, rfl⟩ := get hi; exact hr
  · have h1 := (get hi).1; have h2 := (get hj).1; omega
  · obtain ⟨_, rfl, rfl, rfl⟩ := get hi; exact hav g hg

/-- one block more of other things -/
theorem RF.addN {B N w l} (h : RF B N w l) (o : Obj) : RF B (fun b => N b ∨ b = w.heap.size) (w.alloc o) l := by
  have h' := h.below (below_alloc w o)
  refine ⟨h'.own, h.ne, fun i e v xs g hi hg hc => ?_, fun b hb => ?_, h'.bw⟩
  · rcases hc with hc | hc
    · exact h.av i e v xs g hi hg hc
    · have := (h.lt hi hg).1; omega
  · rcases hb with hb | hb
    · exact h'.nl b hb
    · rw [hb]; simp

theorem set_get {α : Type} {l : List α} {i j : Nat} {x y : α} (h : (l.set i x)[j]? = some y) : (j = i ∧ i < l.length ∧ y = x) ∨ (j ≠ i ∧ l[j]? = some y) := by
  rw [List.getElem?_set] at h
  by_cases e : i = j
  · rw [if_pos e] at h
    split at h
    · exact .inl ⟨e.symm, by omega, (Option.some.inj h).symm⟩
    · cases h
  · rw [if_neg e] at h
    exact .inr ⟨fun h => e h.symm, h⟩

/-- one row is another now: what else has been written lies in its old block or is new -/
theorem RF.turn {B N w w' l} (h : RF B N w l) {i e v xs} (hi : AtR l i e v xs) {v' xs'} (hr : Row w' B e 1 v' xs'.length xs') (hg : w.grownBy w' v.ownBlock) (hat : v'.ownBlock = v.ownBlock ∨ v'.ownBlock = some w.heap.size ∨ v'.ownBlock = none) : RF B N w' (l.set i (some (e, v', xs'))) := by
  have hf : Fr (fun g => v.ownBlock = some g) w w' := Fr.of_grown hg (fun k hk => hk)
  have hold : ∀ {j e2 v2 xs2}, j ≠ i → AtR l j e2 v2 xs2 → Row w' B e2 1 v2 xs2.length xs2 := fun {j e2 v2 xs2} hne hj =>
    Row.fr (h.own j e2 v2 xs2 hj) hf (fun g hg2 hg3 => h.ne j i _ _ _ _ _ _ g hne hj hi hg2 hg3)
  have hnb : ∀ {j e2 v2 xs2 g}, j ≠ i → AtR l j e2 v2 xs2 → v2.ownBlock = some g → v'.ownBlock ≠ some g := by
    intro j e2 v2 xs2 g hne hj hg2 hc
    rcases hat with e | e | e
    · rw [e] at hc; exact h.ne j i _ _ _ _ _ _ g hne hj hi hg2 hc
    · rw [e] at hc; cases hc
      exact absurd (h.lt hj hg2).1 (Nat.lt_irrefl _)
    · rw [e] at hc; cases hc
  refine ⟨fun j e2 v2 xs2 hj => ?_, fun j m e2 v2 xs2 e3 v3 xs3 g hne hj hm hg2 => ?_, fun j e2 v2 xs2 g hj hg2 => ?_, fun b hb => Nat.lt_of_lt_of_le (h.nl b hb) hf.size, Nat.le_trans h.bw hf.size⟩
  · rcases set_get hj with ⟨_, _, e4⟩ | ⟨h1, h2⟩
    · cases e4; exact hr
    · exact hold h1 h2
  · rcases set_get hj with ⟨a1, _, e4⟩ | ⟨h1, h2⟩ <;> rcases set_get hm with ⟨a2, _, e5⟩ | ⟨h3, h4⟩
    · omega
    · cases e4
      intro hc
      exact hnb h3 h4 hc hg2
    · cases e5; exact hnb h1 h2 hg2
    · exact h.ne j m _ _ _ _ _ _ g hne h2 h4 hg2
  · rcases set_get hj with ⟨_, _, e4⟩ | ⟨h1, h2⟩
    · cases e4
      rcases hat with e | e | e
      · rw [e] at hg2; exact h.av i _ _ _ g hi hg2
      · rw [e] at hg2; cases hg2
        intro hc; exact Nat.lt_irrefl _ (h.nl _ hc)
      · rw [e] at hg2; cases hg2
    · exact h.av j _ _ _ g h2 hg2

/-- a new row -/
theorem RF.new {B N w w' l} (h : RF B N w l) {e v xs} (hr : Row w' B e 1 v xs.length xs) (hb : Below w.heap.size w w') (hat : v.ownBlock = some w.heap.size ∨ v.ownBlock = none) : RF B N w' (l ++ [some (e, v, xs)]) := by
  have h' := h.below hb
  have get : ∀ {j x}, (l ++ [some (e, v, xs)])[j]? = some x → (l[j]? = some x) ∨ (j = l.length ∧ x = some (e, v, xs)) := by
    intro j x hj
    rw [List.getElem?_append] at hj
    split at hj
    · exact .inl hj
    · rename_i hlt
      have : j - l.length = 0 := by
        rcases Nat.eq_zero_or_pos (j - l.length) with z | z
        · exact z
        · rw [List.getElem?_eq_none (by simp; omega)] at hj; cases hj
      rw [this] at hj
      exact .inr ⟨by omega, by simpa using hj.symm⟩
  have hnb : ∀ {j e2 v2 xs2 g}, AtR l j e2 v2 xs2 → v2.ownBlock = some g → v.ownBlock ≠ some g := by
    intro j e2 v2 xs2 g hj hg2 hc
    rcases hat with e | e
    · rw [e] at hc; cases hc; exact Nat.lt_irrefl _ (h.lt hj hg2).1
    · rw [e] at hc; cases hc
  refine ⟨fun j e2 v2 xs2 hj => ?_, fun j m e2 v2 xs2 e3 v3 xs3 g hne hj hm hg2 => ?_, fun j e2 v2 xs2 g hj hg2 => ?_, h'.nl, h'.bw⟩
  · rcases get hj with h1 | ⟨_, e4⟩
    · exact h'.own j _ _ _ h1
    · cases e4; exact hr
  · rcases get hj with h1 | ⟨a1, e4⟩ <;> rcases get hm with h2 | ⟨a2, e5⟩
    · exact h.ne j m _ _ _ _ _ _ g hne h1 h2 hg2
    · cases e5; exact hnb h1 hg2
    · cases e4; intro hc; exact hnb h2 hc hg2
    · omega
  · rcases get hj with h1 | ⟨_, e4⟩
    · exact h.av j _ _ _ g h1 hg2
    · cases e4
      rcases hat with e | e
      · rw [e] at hg2; cases hg2; intro hc; exact Nat.lt_irrefl _ (h.nl _ hc)
      · rw [e] at hg2; cases hg2

theorem RF.grown {B N w w' l} (h : RF B N w l) {i e v xs} (hi : AtR l i e v xs) (hg : w.grownBy w' v.ownBlock) : Below B w w' :=
  (Below.refl _ _).grown hg h.bw (fun x hx => (h.lt hi hx).2)
/-- cells of blocks of N stay while a row is written -/
theorem RF.cellN {B N w w' l} (h : RF B N w l) {i e v xs} (hi : AtR l i e v xs) (hg : w.grownBy w' v.ownBlock) {b j : Nat} {u : Value} (hb : N b) (hc : w.cell? ⟨b, j, none⟩ = some u) : w'.cell? ⟨b, j, none⟩ = some u :=
  hg.cell hc (fun e => h.av i _ _ _ b hi e.symm hb)
theorem RF.frN {B N w w' l} (h : RF B N w l) {i e v xs} (hi : AtR l i e v xs) (hg : w.grownBy w' v.ownBlock) : Fr (fun b => ¬ N b) w w' :=
  Fr.of_grown hg (fun k hk => h.av i _ _ _ k hi hk)

/-- a cell of a row -/
theorem RF.cell {B N w l} (h : RF B N w l) {i e g n c xs} (hi : AtR l i e (.slice (some ⟨g, 0, none⟩) n c) xs) {j : Nat} {u : Value} (hu : xs[j]? = some u) : w.cell? ⟨g, j, none⟩ = some u := by
  have hr := h.own i _ _ _ hi
  have hj : j < xs.length := (List.getElem?_eq_some_iff.1 hu).1
  have hn : n = xs.length := by
    rcases hr.2 with ⟨hv, _⟩ | ⟨g', cap, cur, hv, _⟩
    · cases hv
    · simp only [Value.slice.injEq] at hv; exact hv.2.1
  subst hn
  rw [World.ownsRow.cellAt hr j (by simpa using hj), hu]
theorem RF.len {B N w l} (h : RF B N w l) {i e a n c xs} (hi : AtR l i e (.slice a n c) xs) : n = xs.length := by
  rcases (h.own i _ _ _ hi).2 with ⟨hv, h0⟩ | ⟨g', cap, cur, hv, _⟩
  · cases hv; exact h0.symm
  · simp only [Value.slice.injEq] at hv; exact hv.2.1
theorem RF.form {B N w l} (h : RF B N w l) {i e v xs} (hi : AtR l i e v xs) : ∃ a c, v = .slice a xs.length c := Row.form (h.own i _ _ _ hi)
theorem RF.addr {B N w l} (h : RF B N w l) {i e a n c xs} (hi : AtR l i e (.slice a n c) xs) (hn : 0 < xs.length) : ∃ g, a = some ⟨g, 0, none⟩ := by
  rcases (h.own i _ _ _ hi).2 with ⟨hv, h0⟩ | ⟨g', cap, cur, hv, _⟩
  · omega
  · cases hv; exact ⟨_, rfl⟩

section
variable {P : Program} {w : World} {ops : Array Oper} {rest : List Oper} {o : Oper} {a : Act} {Q : Exit → Act → World → Prop}

/-- append of one new cell's block (the world w1 ahead of it, the new block laid) -/
theorem RF.append {B N w1 l} (h : RF B N w1 l) {i e v xs} (hi : AtR l i e v xs) (n : Nat) (hn : n = xs.length) (hw : Below w1.heap.size w1 w) (s x : Operand) {t : TypeId} {z : Value} {bytes : Nat} (E : EltG P t e z 1 bytes)
    (hgd : o.guard = none) (ho : o.op = .call { callee := .builtin .append, args := #[s, x], argTypes := #[t, t] }) (hs : a.eval s = v) (ad : Option Addr) (m c : Nat) (news : List Value) (hx : a.eval x = .slice ad m c) (hr : RdG w 1 ad m news) (h1 : ∀ u ∈ news, u.oneCell' = true)
    (hlen : (n + m) * bytes ≤ 140737488355328) (hpos : 0 < bytes)
    (hK : ∀ a' c' w', RF B N w' (l.set i (some (e, .slice a' (n + m) c', xs ++ news))) → w.grownBy w' v.ownBlock → Below B w1 w' → Fr (fun b => ¬ N b) w1 w' → wpList P ops Q rest (a.put o.dst (.slice a' (n + m) c')) w') : wpList P ops Q (o :: rest) a w := by
  subst hn
  have hm : news.length = m := by have := hr.len; omega
  have h2 := h.below hw
  refine app_row_at s x E hgd ho B v xs.length xs hs (h2.own i _ _ _ hi) ad m c news hx hr h1 hlen hpos h2.bw ?_
  intro a' c' w' hr' hg hat
  refine hK a' c' w' ?_ hg ((hw.mono h.bw).trans (h2.grown hi hg)) ((Fr.of_below hw).trans (h2.frN hi hg))
  refine h2.turn hi (by rw [List.length_append, hm]; exact hr') hg ?_
  rcases hat with e | e
  · exact .inl e
  · exact .inr (.inl e)

/-- a store of one cell into a row -/
theorem RF.store {B N l} (h : RF B N w l) {i e g n c xs} (hi : AtR l i e (.slice (some ⟨g, 0, none⟩) n c) xs) (hgd : o.guard = none) (ty : TypeId) (x y : Operand) (ho : o.op = .store ty x y)
    (j : Nat) (hx : a.eval x = .pointer (some ⟨g, j, none⟩)) (u : Value) (hy : a.eval y = u) (hu : u.cells.toList = [u]) (h1 : u.oneCell' = true) (hsz : (P.info? ty).map (·.size) = some 1) (hj : j < xs.length)
    (hK : ∀ w', RF B N w' (l.set i (some (e, .slice (some ⟨g, 0, none⟩) n c, xs.set j u))) → w.grownBy w' (some g) → Below B w w' → Fr (fun b => ¬ N b) w w' → wpList P ops Q rest (a.put o.dst undef) w') : wpList P ops Q (o :: rest) a w := by
  have hn := h.len hi
  subst hn
  refine store_row hgd ty x y ho g j hx u hy [u] hu hsz (by simpa using h1) B e 1 xs.length c xs (h.own i _ _ _ hi) (by simp; omega) ?_
  intro w' hr hg
  refine hK w' (h.turn hi (v' := .slice (some ⟨g, 0, none⟩) xs.length c) (xs' := xs.set j u) ?_ hg (.inl rfl)) hg (h.grown hi hg) (h.frN hi hg)
  rw [List.length_set, List.set_eq_take_append_cons_drop, if_pos hj]
  simpa using hr

/-- make([]T, n) -/
theorem RF.make {B N l} (h : RF B N w l) {t e : TypeId} {z : Value} {bytes : Nat} (E : EltG P t e z 1 bytes) (hz : z.cells = #[z]) (hgd : o.guard = none) (s x : Operand) (ho : o.op = Op.makeSlice t s x) (kl kc : IntKind) (L C : Int) (n : Nat) (hs : a.eval s = .int kl L) (hx : a.eval x = .int kc C) (hL : L = (n : Int)) (hC : C = (n : Int))
    (hb : n * bytes ≤ 281474976710656) (hn : n ≤ 9223372036854775807)
    (hK : ∀ w', RF B N w' (l ++ [some (e, .slice (some ⟨w.heap.size, 0, none⟩) n n, List.replicate n z)]) → Below w.heap.size w w' → w.heap.size < w'.heap.size → wpList P ops Q rest (a.put o.dst (.slice (some ⟨w.heap.size, 0, none⟩) n n)) w') : wpList P ops Q (o :: rest) a w := by
  refine make_row E hgd s x ho B kl kc L C n hs hx hL hC hb hn h.bw ?_
  intro w' hr hg
  rw [Nat.mul_one, hz, toList_madeCells_one] at hr
  have hbl := grown_below' hg (Nat.le_refl w.heap.size)
  refine hK w' (h.new (by rw [List.length_replicate]; exact hr) hbl (.inl rfl)) hbl (Row.block_lt hr (g := w.heap.size) rfl).1

/-- make([]T, m, n) -/
theorem RF.makeLC {B N l} (h : RF B N w l) {t e : TypeId} {z : Value} {bytes : Nat} (E : EltG P t e z 1 bytes) (hz : z.cells = #[z]) (hgd : o.guard = none) (s x : Operand) (ho : o.op = Op.makeSlice t s x) (kl kc : IntKind) (L C : Int) (m n : Nat) (hs : a.eval s = .int kl L) (hx : a.eval x = .int kc C) (hL : L = (m : Int)) (hC : C = (n : Int)) (hmn : m ≤ n)
    (hb : n * bytes ≤ 281474976710656) (hn : n ≤ 9223372036854775807)
    (hK : ∀ w', RF B N w' (l ++ [some (e, .slice (some ⟨w.heap.size, 0, none⟩) m n, List.replicate m z)]) → Below w.heap.size w w' → w.heap.size < w'.heap.size → wpList P ops Q rest (a.put o.dst (.slice (some ⟨w.heap.size, 0, none⟩) m n)) w') : wpList P ops Q (o :: rest) a w := by
  obtain ⟨i, hi, hz2, hsz, hby⟩ := E.hi
  refine wpList_plain hgd fun K hK' => ?_
  have hb' : (i.bytes : Int) * (n : Int) ≤ 281474976710656 := by
    have h : ((i.bytes * n : Nat) : Int) ≤ 281474976710656 := by rw [hby, Nat.mul_comm]; omega
    rwa [Int.natCast_mul] at h
  have hr := run_make (P := P) w t e i z E.ht hi hz2 kl kc m n (by omega) (by omega) hb' (by omega)
  simp only [Int.toNat_natCast] at hr
  subst hL
  subst hC
  unfold Oper.wp
  simp only [execOp, ho, hs, hx, hr, Sem.run_bind, Sem.run_pure, Result.andThen_ok]
  refine hK' _ _ (hK _ (h.new (w' := w.alloc (.cells (madeCells z.cells (n * i.size)) e)) ?_ (below_alloc _ _) (.inl rfl)) (below_alloc _ _) (by simp))
  rw [List.length_replicate]
  refine ⟨by simp, .inr ⟨w.heap.size, n, _, rfl, h.bw, heap_alloc_new w _, hmn, by unfold maxLen; omega, ?_, ?_⟩⟩
  · rw [hsz, size_madeCells]
  · rw [hsz, Nat.mul_one, hz, toList_madeCells_one, List.take_replicate, Nat.mul_one, Nat.min_eq_left hmn]

/-- make([]T, 0, n) -/
theorem RF.make0 {B N l} (h : RF B N w l) {t e : TypeId} {z : Value} {bytes : Nat} (E : EltG P t e z 1 bytes) (hgd : o.guard = none) (s x : Operand) (ho : o.op = Op.makeSlice t s x) (kl kc : IntKind) (C : Int) (n : Nat) (hs : a.eval s = .int kl 0) (hx : a.eval x = .int kc C) (hC : C = (n : Int))
    (hb : n * bytes ≤ 281474976710656) (hn : n ≤ 9223372036854775807)
    (hK : ∀ w', RF B N w' (l ++ [some (e, .slice (some ⟨w.heap.size, 0, none⟩) 0 n, [])]) → Below w.heap.size w w' → w.heap.size < w'.heap.size → wpList P ops Q rest (a.put o.dst (.slice (some ⟨w.heap.size, 0, none⟩) 0 n)) w') : wpList P ops Q (o :: rest) a w := by
  obtain ⟨i, hi, hz, hsz, hby⟩ := E.hi
  refine wpList_make_own w hgd s x t ho B e i z 1 E.ht hi hz hsz kl kc C n hs hx hC (by rw [hby, Nat.mul_comm]; exact hb) (by unfold maxLen; omega) h.bw ?_
  intro w' hr hg
  have hbl := grown_below' hg (Nat.le_refl w.heap.size)
  exact hK w' (h.new hr hbl (.inl rfl)) hbl (Row.block_lt hr (g := w.heap.size) rfl).1
end

/-- copy into a row of the call's own, from cells that can be read, as long as the row: at a step of a region that draws -/
theorem RF.copy {P : Program} {ops : Array Oper} {o : Oper} {a : Act} {w : World} {K : Act → World → Prop} {Q : Exit → Act → World → Prop} {X : Prop} {B N l} (h : RF B N w l) {i e g n c xs} (hi : AtR l i e (.slice (some ⟨g, 0, none⟩) n c) xs)
    (hgd : o.guard = none) (d s : Operand) (dT sT : TypeId) (ho : o.op = .call { callee := .builtin .copy, args := #[d, s], argTypes := #[dT, sT] }) {z : Value} {bytes : Nat} (E : EltG P dT e z 1 bytes)
    (hd : a.eval d = .slice (some ⟨g, 0, none⟩) n c) (ad : Addr) (m : Nat) (sc : Nat) (news : List Value) (hs : a.eval s = .slice (some ad) m sc) (hr : RdG w 1 (some ad) m news) (h1 : ∀ u ∈ news, u.oneCell' = true) (hm : m = n)
    (hK : ∀ w', RF B N w' (l.set i (some (e, .slice (some ⟨g, 0, none⟩) n c, news))) → w.grownBy w' (some g) → Below B w w' → Fr (fun b => ¬ N b) w w' → K (a.put o.dst (goInt m)) w') :
    if Region.wanted o (yielded ops a.tmps) = true then Oper.wp P o a w K Q else X := by
  have hw : Region.wanted o (yielded ops a.tmps) = true := by simp [Region.wanted, hgd]
  rw [if_pos hw]
  have hn := h.len hi
  have hnl : news.length = m := by have := hr.len; omega
  subst hm
  obtain ⟨inf, hinf, hz, hsz, hby⟩ := E.hi
  have hrow := h.own i _ _ _ hi
  rcases hrow.2 with ⟨hv, _⟩ | ⟨g', cap, cur, hv, hB, hg, hnc, hcm, hcs, htake⟩
  · cases hv
  · simp only [Value.slice.injEq, Option.some.injEq, Addr.mk.injEq] at hv
    obtain ⟨⟨rfl, _⟩, _, rfl⟩ := hv
    have hrun := run_copy_row (P := P) w dT sT o.type e g 0 m c ad m sc cur e news E.ht (by rw [hinf]; simp [hsz]) hg (by rw [hnl]; exact (Nat.min_self m).symm) hr.news (by rw [hcs]; omega) h1
    unfold Oper.wp
    simp only [execOp, ho, resolve, invoke, builtin, Sem.run_bind, Sem.run_pure, Result.andThen_ok, List.map_toArray, List.map_cons, List.map_nil, hd, hs, hrun]
    have hgr : w.grownBy (w.setRow g (cur.toList.take 0 ++ news ++ cur.toList.drop (0 + news.length)).toArray) (some g) := ⟨rfl, rfl, rfl, by simp, fun k _ hk => setRow_other w g k _ (fun e => hk (by simp [e]))⟩
    have hrow' : Row (w.setRow g (cur.toList.take 0 ++ news ++ cur.toList.drop (0 + news.length)).toArray) B e 1 (.slice (some ⟨g, 0, none⟩) m c) news.length news := by
      refine ⟨by simp, .inr ⟨g, c, _, by rw [hnl], hB, setRow_heap w g cur _ e _ hg, by omega, hcm, ?_, ?_⟩⟩
      · simp; omega
      · simp
    have hfin := hK _ (h.turn hi hrow' hgr (.inl rfl)) hgr (h.grown hi hgr) (h.frN hi hgr)
    have e9 : (goInt (m : Int)) = goInt (news.length : Int) := by rw [hnl]
    rw [e9] at hfin
    exact hfin

/-- four cells of a struct read as one value -/
theorem results_cell_tmp2 {fn : Func} {p u u2 : Tmp} {ty : TypeId} (h : fn.results = #[.cell p ty, .tmp u, .tmp u2]) (tmps : Array Value) (P : Program) (w : World) :
    (results fn tmps).run P w =
      ((asAddr (tmps.getD p undef)).run P w).andThen fun a w₁ => ((loadVar ty a).run P w₁).andThen fun v w₂ => .ok (.tuple #[v, tmps.getD u undef, tmps.getD u2 undef]) w₂ := by
  simp only [results, h]
  simp [Sem.run_bind, Result.andThen]

end Go.Proofs.Ytflgmodofemifaa
