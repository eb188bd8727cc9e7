/-
  The reference's parser: primaries (bad ones, those in brackets).
-/
import Derived.Test.YtpabngicbfcdkaaRp6
namespace Go.Proofs.Ytpabngicbfcdkaa
open Go.RowKit
set_option linter.unusedVariables false
set_option linter.unusedSimpArgs false

set_option maxRecDepth 100000 in
set_option maxHeartbeats 1500000 in
theorem prim_sign (w : World) (pb : Nat) (A : RA) (t : Tk) (r : List Tk) (hp : RPS w pb A (t :: r) false) (hk : t.1.1 = 5) (hx : t.1.2.1 ≠ [40]) :
    Calls Try.prog 58 #[.pointer (some ⟨pb, 0, none⟩)] w (RParPost pb A w (runJ (.lev 9 (t :: r))) false (t :: r)) := by
  have HRES : Hid (runJ (.lev 9 (t :: r)) = none) := Lib.hid (by rw [runJ_prim]; unfold primJ; simp [hk, hx])
  have HKK := Lib.hid hk
  have HX := Lib.hid hx
  clear hk hx
  obtain ⟨w1, hw1⟩ : ∃ w1, w1 = w.alloc (.cells #[.int .i64 0, .string ⟨#[]⟩, .int .i64 0, .slice none 0 0] 38) := ⟨_, rfl⟩
  have HB1 : Hid (Below w.heap.size w w1) := Lib.hid (by rw [hw1]; exact below_alloc _ _)
  have HS1 : Hid (w1.heap.size = w.heap.size + 1) := Lib.hid (by rw [hw1]; simp)
  have HP1 := Lib.hid (hp.below HB1.out)
  have HTC : Hid (EC w1 w.heap.size eE none 0) := Lib.hid (by rw [hw1]; exact alloc_ec w eE none 0 _)
  have HLIM := Lib.hid hp.lim
  have HPL := Lib.hid hp.lt
  have HW1 := Lib.hid hw1
  obtain ⟨p, b, c1, hpl, hdrop, ha, hb, k0, k1, k2, k3, hwt, hb8⟩ := HP1.out.head
  have c0 := HP1.out.c0
  have c2 := HP1.out.c2
  rw [ha] at c0
  obtain ⟨N, hN⟩ : ∃ N, N = A.all.length := ⟨_, rfl⟩
  rw [← hN] at c0
  have hNi : (N : Int) ≤ 1000000 := by have := HLIM.out; omega
  have hpi : (p : Int) < (N : Int) := by omega
  have hpn : p < N := by omega
  have hpd : decide (N ≤ p) = false := decide_eq_false (by omega)
  have hpdi : decide ((N : Int) ≤ (p : Int)) = false := decide_eq_false (by omega)
  have hb8 := Lib.hid hb8
  have hwt := Lib.hid hwt
  have HBPB := Lib.hid hb
  clear hpl hdrop ha hb hN hw1
  go_enter Try.func58, Try.ntmps58
  go_upto_region 1 with fail
  rw [← HW1.out]
  go_quiet (fail)
  obtain ⟨wq, hwq⟩ : ∃ wq, wq = w1.drewN nq := ⟨_, rfl⟩
  rw [← hwq]
  have HBQ : Hid (Below w1.heap.size w1 wq) := Lib.hid (by rw [hwq]; exact BQ nq)
  have q0 := below_cell HBQ.out c0
  have q1 := below_cell HBQ.out c1
  have m0 := below_cell HBQ.out k0
  have m1 := below_cell HBQ.out k1
  have m2 := below_cell HBQ.out k2
  have m3 := below_cell HBQ.out k3
  clear hwq c0 c1 c2 k0 k1 k2 k3
  go_upto_region 4 with fail
  have hn1 : ¬ (b = wq.heap.size) := by have h1 := HPL.out; have h2 := HB1.out.size; have h3 := HBQ.out.size; have h4 := HBPB.out; omega
  have hn2 : ¬ (pb = wq.heap.size) := by have h1 := HPL.out; have h2 := HB1.out.size; have h3 := HBQ.out.size; omega
  have hn3 : ¬ (wq.heap.size = b) := fun e => hn1 e.symm
  have hn4 : ¬ (wq.heap.size = pb) := fun e => hn2 e.symm
  have hl1 : b < wq.heap.size := World.block_lt_of_cell? wq _ m0
  have hl2 : pb < wq.heap.size := World.block_lt_of_cell? wq _ q0
  go_region_held3 (fun w' => w'.cell? ⟨pb, 0, none⟩ = some (.slice (some ⟨b, 0, none⟩) N A.c) ∧ w'.cell? ⟨pb, 1, none⟩ = some (.int .i64 (p : Nat)) ∧ w'.cell? ⟨b, p * 4, none⟩ = some (.int .i64 (t.1.1 : Nat)) ∧ w'.cell? ⟨b, p * 4 + 1, none⟩ = some (.string (bs t.1.2.1)) ∧ w'.cell? ⟨b, p * 4 + 2, none⟩ = some (.int .i64 (t.1.2.2 : Nat)) ∧ w'.cell? ⟨b, p * 4 + 3, none⟩ = some (.int .i64 (t.2 : Nat))) (go_keep) (fail)
  obtain ⟨w4, hw4⟩ : ∃ w4, w4 = (wq.alloc (.cells #[.int .i64 (t.1.1 : Nat), .string (bs t.1.2.1), .int .i64 (t.1.2.2 : Nat), .int .i64 (t.2 : Nat)] 34)).drew := ⟨_, rfl⟩
  rw [← hw4]
  obtain ⟨bt, hbt⟩ : ∃ bt, bt = wq.heap.size := ⟨_, rfl⟩
  have HB4 : Hid (Below wq.heap.size wq w4) := Lib.hid (by rw [hw4]; exact (below_alloc _ _).drew)
  have HTK4 : Hid (TC w4 bt (t.1.1 : Nat) (bs t.1.2.1) (t.1.2.2 : Nat) (t.2 : Nat)) := Lib.hid (by
    have h := alloc_tc wq (t.1.1 : Nat) (bs t.1.2.1) (t.1.2.2 : Nat) (t.2 : Nat) 34
    rw [hw4, hbt]; exact ⟨h.c0, h.c1, h.c2, h.c3, h.fz⟩)
  have HBT : Hid (w.heap.size < bt) := Lib.hid (by have h1 := HBQ.out.size; have h2 := HS1.out; omega)
  have HP4 := Lib.hid (HP1.out.below (bthen HBQ.out HB4.out))
  have c1 := below_cell HB4.out q1
  have HC1 := Lib.hid c1
  have cf1 := HP4.out.fz 1
  have hp9 : (p : Int) ≤ 1000000 := by omega
  rw [← hbt]
  clear hw4 hbt hn1 hn2 hn3 hn4 hl1 hl2 q0 q1 m0 m1 m2 m3
  go_upto_region 6 with fail
  obtain ⟨w5, hw5⟩ : ∃ w5, w5 = w4.setCell ⟨pb, 1, none⟩ (.int .i64 ((p : Int) + 1)) := ⟨_, rfl⟩
  rw [← hw5]
  have HPS5 : Hid (RPS w5 pb A r false) := Lib.hid (by rw [hw5]; exact HP4.out.setAt HC1.out rfl)
  have HF45 : Hid (Fr (fun x => x = pb) w4 w5) := Lib.hid (by rw [hw5]; exact (Fr.refl (fun x => x = pb) w4).setCell (p := ⟨pb, 1, none⟩) rfl _)
  have HBTP : Hid (¬ (bt = pb)) := Lib.hid (by have := HBT.out; have := HPL.out; omega)
  have HF5 : Hid (Fr (fun x => x = pb) w w5) := Lib.hid ((Fr.of_below (S := fun x => x = pb) (bthen HB1.out (bthen HBQ.out HB4.out))).trans HF45.out)
  have HTK5 := Lib.hid (HTK4.out.fr HF45.out HBTP.out)
  have HTC5 : Hid (EC w5 w.heap.size eE none 0) := Lib.hid ((HTC.out.below (bthen HBQ.out HB4.out)).fr HF45.out (by have := HPL.out; omega))
  clear hw5 c1 cf1
  obtain ⟨z0, z1, z2, z3, zf⟩ := HTK5.out
  clear zf
  rw [HKK.out] at z0
  have f40 : ((bs t.1.2.1).toList == [40]) = false := sq_eq hb8.out [40] (by decide) _ rfl (by rw [beq_eq_false_iff_ne]; exact HX.out)
  have hcf := HPS5.out.fz 2
  have c2 := HPS5.out.c2
  have hn2 : ¬ (pb = w.heap.size) := by have h1 := HPL.out; omega
  have hn4 : ¬ (w.heap.size = pb) := fun e => hn2 e.symm
  obtain ⟨y0, y1, y2, y3, yf⟩ := HTC5.out
  have yf0 := yf 0
  have yf1 := yf 1
  have yf2 := yf 2
  have yf3 := yf 3
  clear yf
  go_wp2
  exact bodyPost_ret (v := .agg #[.int .i64 0, .string ⟨#[]⟩, .int .i64 0, .slice none 0 0]) (by simp [results, Try.results58, go_sem, y0, y1, y2, y3, hn2, hn4]; try rfl) rfl (rfin_par (be := 0) (e := eE) (rest := none) HPS5.out.setBad (Nat.zero_le _) (.inl rfl) (HF5.out.setCell (p := ⟨pb, 2, none⟩) rfl _) ⟨by simp, (fun h => by cases h), fun _ => by rw [if_pos rfl]; exact HRES.out⟩ (fun h => by cases h) (fr4 _ w.heap.size (.int .i64 0) (.string ⟨#[]⟩) (.int .i64 0) (.slice none 0 0)) HPL.out)

set_option maxRecDepth 100000 in
set_option maxHeartbeats 1500000 in
theorem prim_and (w : World) (pb : Nat) (A : RA) (t : Tk) (r : List Tk) (hp : RPS w pb A (t :: r) false) (hk : t.1.1 = 4) (hx : t.1.2.1 = [97, 110, 100]) :
    Calls Try.prog 58 #[.pointer (some ⟨pb, 0, none⟩)] w (RParPost pb A w (runJ (.lev 9 (t :: r))) false (t :: r)) := by
  have HRES : Hid (runJ (.lev 9 (t :: r)) = none) := Lib.hid (by rw [runJ_prim]; unfold primJ; simp [hk, hx, isNm, wNot])
  have HKK := Lib.hid hk
  have HX := Lib.hid hx
  clear hk hx
  obtain ⟨w1, hw1⟩ : ∃ w1, w1 = w.alloc (.cells #[.int .i64 0, .string ⟨#[]⟩, .int .i64 0, .slice none 0 0] 38) := ⟨_, rfl⟩
  have HB1 : Hid (Below w.heap.size w w1) := Lib.hid (by rw [hw1]; exact below_alloc _ _)
  have HS1 : Hid (w1.heap.size = w.heap.size + 1) := Lib.hid (by rw [hw1]; simp)
  have HP1 := Lib.hid (hp.below HB1.out)
  have HTC : Hid (EC w1 w.heap.size eE none 0) := Lib.hid (by rw [hw1]; exact alloc_ec w eE none 0 _)
  have HLIM := Lib.hid hp.lim
  have HPL := Lib.hid hp.lt
  have HW1 := Lib.hid hw1
  obtain ⟨p, b, c1, hpl, hdrop, ha, hb, k0, k1, k2, k3, hwt, hb8⟩ := HP1.out.head
  have c0 := HP1.out.c0
  have c2 := HP1.out.c2
  rw [ha] at c0
  obtain ⟨N, hN⟩ : ∃ N, N = A.all.length := ⟨_, rfl⟩
  rw [← hN] at c0
  have hNi : (N : Int) ≤ 1000000 := by have := HLIM.out; omega
  have hpi : (p : Int) < (N : Int) := by omega
  have hpn : p < N := by omega
  have hpd : decide (N ≤ p) = false := decide_eq_false (by omega)
  have hpdi : decide ((N : Int) ≤ (p : Int)) = false := decide_eq_false (by omega)
  have hb8 := Lib.hid hb8
  have hwt := Lib.hid hwt
  have HBPB := Lib.hid hb
  clear hpl hdrop ha hb hN hw1
  go_enter Try.func58, Try.ntmps58
  go_upto_region 1 with fail
  rw [← HW1.out]
  go_quiet (fail)
  obtain ⟨wq, hwq⟩ : ∃ wq, wq = w1.drewN nq := ⟨_, rfl⟩
  rw [← hwq]
  have HBQ : Hid (Below w1.heap.size w1 wq) := Lib.hid (by rw [hwq]; exact BQ nq)
  have q0 := below_cell HBQ.out c0
  have q1 := below_cell HBQ.out c1
  have m0 := below_cell HBQ.out k0
  have m1 := below_cell HBQ.out k1
  have m2 := below_cell HBQ.out k2
  have m3 := below_cell HBQ.out k3
  clear hwq c0 c1 c2 k0 k1 k2 k3
  go_upto_region 4 with fail
  have hn1 : ¬ (b = wq.heap.size) := by have h1 := HPL.out; have h2 := HB1.out.size; have h3 := HBQ.out.size; have h4 := HBPB.out; omega
  have hn2 : ¬ (pb = wq.heap.size) := by have h1 := HPL.out; have h2 := HB1.out.size; have h3 := HBQ.out.size; omega
  have hn3 : ¬ (wq.heap.size = b) := fun e => hn1 e.symm
  have hn4 : ¬ (wq.heap.size = pb) := fun e => hn2 e.symm
  have hl1 : b < wq.heap.size := World.block_lt_of_cell? wq _ m0
  have hl2 : pb < wq.heap.size := World.block_lt_of_cell? wq _ q0
  go_region_held3 (fun w' => w'.cell? ⟨pb, 0, none⟩ = some (.slice (some ⟨b, 0, none⟩) N A.c) ∧ w'.cell? ⟨pb, 1, none⟩ = some (.int .i64 (p : Nat)) ∧ w'.cell? ⟨b, p * 4, none⟩ = some (.int .i64 (t.1.1 : Nat)) ∧ w'.cell? ⟨b, p * 4 + 1, none⟩ = some (.string (bs t.1.2.1)) ∧ w'.cell? ⟨b, p * 4 + 2, none⟩ = some (.int .i64 (t.1.2.2 : Nat)) ∧ w'.cell? ⟨b, p * 4 + 3, none⟩ = some (.int .i64 (t.2 : Nat))) (go_keep) (fail)
  obtain ⟨w4, hw4⟩ : ∃ w4, w4 = (wq.alloc (.cells #[.int .i64 (t.1.1 : Nat), .string (bs t.1.2.1), .int .i64 (t.1.2.2 : Nat), .int .i64 (t.2 : Nat)] 34)).drew := ⟨_, rfl⟩
  rw [← hw4]
  obtain ⟨bt, hbt⟩ : ∃ bt, bt = wq.heap.size := ⟨_, rfl⟩
  have HB4 : Hid (Below wq.heap.size wq w4) := Lib.hid (by rw [hw4]; exact (below_alloc _ _).drew)
  have HTK4 : Hid (TC w4 bt (t.1.1 : Nat) (bs t.1.2.1) (t.1.2.2 : Nat) (t.2 : Nat)) := Lib.hid (by
    have h := alloc_tc wq (t.1.1 : Nat) (bs t.1.2.1) (t.1.2.2 : Nat) (t.2 : Nat) 34
    rw [hw4, hbt]; exact ⟨h.c0, h.c1, h.c2, h.c3, h.fz⟩)
  have HBT : Hid (w.heap.size < bt) := Lib.hid (by have h1 := HBQ.out.size; have h2 := HS1.out; omega)
  have HP4 := Lib.hid (HP1.out.below (bthen HBQ.out HB4.out))
  have c1 := below_cell HB4.out q1
  have HC1 := Lib.hid c1
  have cf1 := HP4.out.fz 1
  have hp9 : (p : Int) ≤ 1000000 := by omega
  rw [← hbt]
  clear hw4 hbt hn1 hn2 hn3 hn4 hl1 hl2 q0 q1 m0 m1 m2 m3
  go_upto_region 6 with fail
  obtain ⟨w5, hw5⟩ : ∃ w5, w5 = w4.setCell ⟨pb, 1, none⟩ (.int .i64 ((p : Int) + 1)) := ⟨_, rfl⟩
  rw [← hw5]
  have HPS5 : Hid (RPS w5 pb A r false) := Lib.hid (by rw [hw5]; exact HP4.out.setAt HC1.out rfl)
  have HF45 : Hid (Fr (fun x => x = pb) w4 w5) := Lib.hid (by rw [hw5]; exact (Fr.refl (fun x => x = pb) w4).setCell (p := ⟨pb, 1, none⟩) rfl _)
  have HBTP : Hid (¬ (bt = pb)) := Lib.hid (by have := HBT.out; have := HPL.out; omega)
  have HF5 : Hid (Fr (fun x => x = pb) w w5) := Lib.hid ((Fr.of_below (S := fun x => x = pb) (bthen HB1.out (bthen HBQ.out HB4.out))).trans HF45.out)
  have HTK5 := Lib.hid (HTK4.out.fr HF45.out HBTP.out)
  have HTC5 : Hid (EC w5 w.heap.size eE none 0) := Lib.hid ((HTC.out.below (bthen HBQ.out HB4.out)).fr HF45.out (by have := HPL.out; omega))
  clear hw5 c1 cf1
  obtain ⟨z0, z1, z2, z3, zf⟩ := HTK5.out
  clear zf
  rw [HKK.out] at z0
  have f0 : ((bs t.1.2.1).toList == [97, 110, 100]) = true := sq_eq hb8.out [97, 110, 100] (by decide) _ rfl (by rw [HX.out]; decide)
  have hcf := HPS5.out.fz 2
  have c2 := HPS5.out.c2
  have hn2 : ¬ (pb = w.heap.size) := by have h1 := HPL.out; omega
  have hn4 : ¬ (w.heap.size = pb) := fun e => hn2 e.symm
  obtain ⟨y0, y1, y2, y3, yf⟩ := HTC5.out
  have yf0 := yf 0
  have yf1 := yf 1
  have yf2 := yf 2
  have yf3 := yf 3
  clear yf
  go_wp2
  exact bodyPost_ret (v := .agg #[.int .i64 0, .string ⟨#[]⟩, .int .i64 0, .slice none 0 0]) (by simp [results, Try.results58, go_sem, y0, y1, y2, y3, hn2, hn4]; try rfl) rfl (rfin_par (be := 0) (e := eE) (rest := none) HPS5.out.setBad (Nat.zero_le _) (.inl rfl) (HF5.out.setCell (p := ⟨pb, 2, none⟩) rfl _) ⟨by simp, (fun h => by cases h), fun _ => by rw [if_pos rfl]; exact HRES.out⟩ (fun h => by cases h) (fr4 _ w.heap.size (.int .i64 0) (.string ⟨#[]⟩) (.int .i64 0) (.slice none 0 0)) HPL.out)

set_option maxRecDepth 100000 in
set_option maxHeartbeats 1500000 in
theorem prim_or (w : World) (pb : Nat) (A : RA) (t : Tk) (r : List Tk) (hp : RPS w pb A (t :: r) false) (hk : t.1.1 = 4) (hx : t.1.2.1 = [111, 114]) :
    Calls Try.prog 58 #[.pointer (some ⟨pb, 0, none⟩)] w (RParPost pb A w (runJ (.lev 9 (t :: r))) false (t :: r)) := by
  have HRES : Hid (runJ (.lev 9 (t :: r)) = none) := Lib.hid (by rw [runJ_prim]; unfold primJ; simp [hk, hx, isNm, wNot])
  have HKK := Lib.hid hk
  have HX := Lib.hid hx
  clear hk hx
  obtain ⟨w1, hw1⟩ : ∃ w1, w1 = w.alloc (.cells #[.int .i64 0, .string ⟨#[]⟩, .int .i64 0, .slice none 0 0] 38) := ⟨_, rfl⟩
  have HB1 : Hid (Below w.heap.size w w1) := Lib.hid (by rw [hw1]; exact below_alloc _ _)
  have HS1 : Hid (w1.heap.size = w.heap.size + 1) := Lib.hid (by rw [hw1]; simp)
  have HP1 := Lib.hid (hp.below HB1.out)
  have HTC : Hid (EC w1 w.heap.size eE none 0) := Lib.hid (by rw [hw1]; exact alloc_ec w eE none 0 _)
  have HLIM := Lib.hid hp.lim
  have HPL := Lib.hid hp.lt
  have HW1 := Lib.hid hw1
  obtain ⟨p, b, c1, hpl, hdrop, ha, hb, k0, k1, k2, k3, hwt, hb8⟩ := HP1.out.head
  have c0 := HP1.out.c0
  have c2 := HP1.out.c2
  rw [ha] at c0
  obtain ⟨N, hN⟩ : ∃ N, N = A.all.length := ⟨_, rfl⟩
  rw [← hN] at c0
  have hNi : (N : Int) ≤ 1000000 := by have := HLIM.out; omega
  have hpi : (p : Int) < (N : Int) := by omega
  have hpn : p < N := by omega
  have hpd : decide (N ≤ p) = false := decide_eq_false (by omega)
  have hpdi : decide ((N : Int) ≤ (p : Int)) = false := decide_eq_false (by omega)
  have hb8 := Lib.hid hb8
  have hwt := Lib.hid hwt
  have HBPB := Lib.hid hb
  clear hpl hdrop ha hb hN hw1
  go_enter Try.func58, Try.ntmps58
  go_upto_region 1 with fail
  rw [← HW1.out]
  go_quiet (fail)
  obtain ⟨wq, hwq⟩ : ∃ wq, wq = w1.drewN nq := ⟨_, rfl⟩
  rw [← hwq]
  have HBQ : Hid (Below w1.heap.size w1 wq) := Lib.hid (by rw [hwq]; exact BQ nq)
  have q0 := below_cell HBQ.out c0
  have q1 := below_cell HBQ.out c1
  have m0 := below_cell HBQ.out k0
  have m1 := below_cell HBQ.out k1
  have m2 := below_cell HBQ.out k2
  have m3 := below_cell HBQ.out k3
  clear hwq c0 c1 c2 k0 k1 k2 k3
  go_upto_region 4 with fail
  have hn1 : ¬ (b = wq.heap.size) := by have h1 := HPL.out; have h2 := HB1.out.size; have h3 := HBQ.out.size; have h4 := HBPB.out; omega
  have hn2 : ¬ (pb = wq.heap.size) := by have h1 := HPL.out; have h2 := HB1.out.size; have h3 := HBQ.out.size; omega
  have hn3 : ¬ (wq.heap.size = b) := fun e => hn1 e.symm
  have hn4 : ¬ (wq.heap.size = pb) := fun e => hn2 e.symm
  have hl1 : b < wq.heap.size := World.block_lt_of_cell? wq _ m0
  have hl2 : pb < wq.heap.size := World.block_lt_of_cell? wq _ q0
  go_region_held3 (fun w' => w'.cell? ⟨pb, 0, none⟩ = some (.slice (some ⟨b, 0, none⟩) N A.c) ∧ w'.cell? ⟨pb, 1, none⟩ = some (.int .i64 (p : Nat)) ∧ w'.cell? ⟨b, p * 4, none⟩ = some (.int .i64 (t.1.1 : Nat)) ∧ w'.cell? ⟨b, p * 4 + 1, none⟩ = some (.string (bs t.1.2.1)) ∧ w'.cell? ⟨b, p * 4 + 2, none⟩ = some (.int .i64 (t.1.2.2 : Nat)) ∧ w'.cell? ⟨b, p * 4 + 3, none⟩ = some (.int .i64 (t.2 : Nat))) (go_keep) (fail)
  obtain ⟨w4, hw4⟩ : ∃ w4, w4 = (wq.alloc (.cells #[.int .i64 (t.1.1 : Nat), .string (bs t.1.2.1), .int .i64 (t.1.2.2 : Nat), .int .i64 (t.2 : Nat)] 34)).drew := ⟨_, rfl⟩
  rw [← hw4]
  obtain ⟨bt, hbt⟩ : ∃ bt, bt = wq.heap.size := ⟨_, rfl⟩
  have HB4 : Hid (Below wq.heap.size wq w4) := Lib.hid (by rw [hw4]; exact (below_alloc _ _).drew)
  have HTK4 : Hid (TC w4 bt (t.1.1 : Nat) (bs t.1.2.1) (t.1.2.2 : Nat) (t.2 : Nat)) := Lib.hid (by
    have h := alloc_tc wq (t.1.1 : Nat) (bs t.1.2.1) (t.1.2.2 : Nat) (t.2 : Nat) 34
    rw [hw4, hbt]; exact ⟨h.c0, h.c1, h.c2, h.c3, h.fz⟩)
  have HBT : Hid (w.heap.size < bt) := Lib.hid (by have h1 := HBQ.out.size; have h2 := HS1.out; omega)
  have HP4 := Lib.hid (HP1.out.below (bthen HBQ.out HB4.out))
  have c1 := below_cell HB4.out q1
  have HC1 := Lib.hid c1
  have cf1 := HP4.out.fz 1
  have hp9 : (p : Int) ≤ 1000000 := by omega
  rw [← hbt]
  clear hw4 hbt hn1 hn2 hn3 hn4 hl1 hl2 q0 q1 m0 m1 m2 m3
  go_upto_region 6 with fail
  obtain ⟨w5, hw5⟩ : ∃ w5, w5 = w4.setCell ⟨pb, 1, none⟩ (.int .i64 ((p : Int) + 1)) := ⟨_, rfl⟩
  rw [← hw5]
  have HPS5 : Hid (RPS w5 pb A r false) := Lib.hid (by rw [hw5]; exact HP4.out.setAt HC1.out rfl)
  have HF45 : Hid (Fr (fun x => x = pb) w4 w5) := Lib.hid (by rw [hw5]; exact (Fr.refl (fun x => x = pb) w4).setCell (p := ⟨pb, 1, none⟩) rfl _)
  have HBTP : Hid (¬ (bt = pb)) := Lib.hid (by have := HBT.out; have := HPL.out; omega)
  have HF5 : Hid (Fr (fun x => x = pb) w w5) := Lib.hid ((Fr.of_below (S := fun x => x = pb) (bthen HB1.out (bthen HBQ.out HB4.out))).trans HF45.out)
  have HTK5 := Lib.hid (HTK4.out.fr HF45.out HBTP.out)
  have HTC5 : Hid (EC w5 w.heap.size eE none 0) := Lib.hid ((HTC.out.below (bthen HBQ.out HB4.out)).fr HF45.out (by have := HPL.out; omega))
  clear hw5 c1 cf1
  obtain ⟨z0, z1, z2, z3, zf⟩ := HTK5.out
  clear zf
  rw [HKK.out] at z0
  have f0 : ((bs t.1.2.1).toList == [97, 110, 100]) = false := sq_eq hb8.out [97, 110, 100] (by decide) _ rfl (by rw [HX.out]; decide)
  have f1 : ((bs t.1.2.1).toList == [111, 114]) = true := sq_eq hb8.out [111, 114] (by decide) _ rfl (by rw [HX.out]; decide)
  have hcf := HPS5.out.fz 2
  have c2 := HPS5.out.c2
  have hn2 : ¬ (pb = w.heap.size) := by have h1 := HPL.out; omega
  have hn4 : ¬ (w.heap.size = pb) := fun e => hn2 e.symm
  obtain ⟨y0, y1, y2, y3, yf⟩ := HTC5.out
  have yf0 := yf 0
  have yf1 := yf 1
  have yf2 := yf 2
  have yf3 := yf 3
  clear yf
  go_wp2
  exact bodyPost_ret (v := .agg #[.int .i64 0, .string ⟨#[]⟩, .int .i64 0, .slice none 0 0]) (by simp [results, Try.results58, go_sem, y0, y1, y2, y3, hn2, hn4]; try rfl) rfl (rfin_par (be := 0) (e := eE) (rest := none) HPS5.out.setBad (Nat.zero_le _) (.inl rfl) (HF5.out.setCell (p := ⟨pb, 2, none⟩) rfl _) ⟨by simp, (fun h => by cases h), fun _ => by rw [if_pos rfl]; exact HRES.out⟩ (fun h => by cases h) (fr4 _ w.heap.size (.int .i64 0) (.string ⟨#[]⟩) (.int .i64 0) (.slice none 0 0)) HPL.out)

set_option maxRecDepth 100000 in
set_option maxHeartbeats 1500000 in
theorem prim_not (w : World) (pb : Nat) (A : RA) (t : Tk) (r : List Tk) (hp : RPS w pb A (t :: r) false) (hk : t.1.1 = 4) (hx : t.1.2.1 = [110, 111, 116]) :
    Calls Try.prog 58 #[.pointer (some ⟨pb, 0, none⟩)] w (RParPost pb A w (runJ (.lev 9 (t :: r))) false (t :: r)) := by
  have HRES : Hid (runJ (.lev 9 (t :: r)) = none) := Lib.hid (by rw [runJ_prim]; unfold primJ; simp [hk, hx, isNm, wNot])
  have HKK := Lib.hid hk
  have HX := Lib.hid hx
  clear hk hx
  obtain ⟨w1, hw1⟩ : ∃ w1, w1 = w.alloc (.cells #[.int .i64 0, .string ⟨#[]⟩, .int .i64 0, .slice none 0 0] 38) := ⟨_, rfl⟩
  have HB1 : Hid (Below w.heap.size w w1) := Lib.hid (by rw [hw1]; exact below_alloc _ _)
  have HS1 : Hid (w1.heap.size = w.heap.size + 1) := Lib.hid (by rw [hw1]; simp)
  have HP1 := Lib.hid (hp.below HB1.out)
  have HTC : Hid (EC w1 w.heap.size eE none 0) := Lib.hid (by rw [hw1]; exact alloc_ec w eE none 0 _)
  have HLIM := Lib.hid hp.lim
  have HPL := Lib.hid hp.lt
  have HW1 := Lib.hid hw1
  obtain ⟨p, b, c1, hpl, hdrop, ha, hb, k0, k1, k2, k3, hwt, hb8⟩ := HP1.out.head
  have c0 := HP1.out.c0
  have c2 := HP1.out.c2
  rw [ha] at c0
  obtain ⟨N, hN⟩ : ∃ N, N = A.all.length := ⟨_, rfl⟩
  rw [← hN] at c0
  have hNi : (N : Int) ≤ 1000000 := by have := HLIM.out; omega
  have hpi : (p : Int) < (N : Int) := by omega
  have hpn : p < N := by omega
  have hpd : decide (N ≤ p) = false := decide_eq_false (by omega)
  have hpdi : decide ((N : Int) ≤ (p : Int)) = false := decide_eq_false (by omega)
  have hb8 := Lib.hid hb8
  have hwt := Lib.hid hwt
  have HBPB := Lib.hid hb
  clear hpl hdrop ha hb hN hw1
  go_enter Try.func58, Try.ntmps58
  go_upto_region 1 with fail
  rw [← HW1.out]
  go_quiet (fail)
  obtain ⟨wq, hwq⟩ : ∃ wq, wq = w1.drewN nq := ⟨_, rfl⟩
  rw [← hwq]
  have HBQ : Hid (Below w1.heap.size w1 wq) := Lib.hid (by rw [hwq]; exact BQ nq)
  have q0 := below_cell HBQ.out c0
  have q1 := below_cell HBQ.out c1
  have m0 := below_cell HBQ.out k0
  have m1 := below_cell HBQ.out k1
  have m2 := below_cell HBQ.out k2
  have m3 := below_cell HBQ.out k3
  clear hwq c0 c1 c2 k0 k1 k2 k3
  go_upto_region 4 with fail
  have hn1 : ¬ (b = wq.heap.size) := by have h1 := HPL.out; have h2 := HB1.out.size; have h3 := HBQ.out.size; have h4 := HBPB.out; omega
  have hn2 : ¬ (pb = wq.heap.size) := by have h1 := HPL.out; have h2 := HB1.out.size; have h3 := HBQ.out.size; omega
  have hn3 : ¬ (wq.heap.size = b) := fun e => hn1 e.symm
  have hn4 : ¬ (wq.heap.size = pb) := fun e => hn2 e.symm
  have hl1 : b < wq.heap.size := World.block_lt_of_cell? wq _ m0
  have hl2 : pb < wq.heap.size := World.block_lt_of_cell? wq _ q0
  go_region_held3 (fun w' => w'.cell? ⟨pb, 0, none⟩ = some (.slice (some ⟨b, 0, none⟩) N A.c) ∧ w'.cell? ⟨pb, 1, none⟩ = some (.int .i64 (p : Nat)) ∧ w'.cell? ⟨b, p * 4, none⟩ = some (.int .i64 (t.1.1 : Nat)) ∧ w'.cell? ⟨b, p * 4 + 1, none⟩ = some (.string (bs t.1.2.1)) ∧ w'.cell? ⟨b, p * 4 + 2, none⟩ = some (.int .i64 (t.1.2.2 : Nat)) ∧ w'.cell? ⟨b, p * 4 + 3, none⟩ = some (.int .i64 (t.2 : Nat))) (go_keep) (fail)
  obtain ⟨w4, hw4⟩ : ∃ w4, w4 = (wq.alloc (.cells #[.int .i64 (t.1.1 : Nat), .string (bs t.1.2.1), .int .i64 (t.1.2.2 : Nat), .int .i64 (t.2 : Nat)] 34)).drew := ⟨_, rfl⟩
  rw [← hw4]
  obtain ⟨bt, hbt⟩ : ∃ bt, bt = wq.heap.size := ⟨_, rfl⟩
  have HB4 : Hid (Below wq.heap.size wq w4) := Lib.hid (by rw [hw4]; exact (below_alloc _ _).drew)
  have HTK4 : Hid (TC w4 bt (t.1.1 : Nat) (bs t.1.2.1) (t.1.2.2 : Nat) (t.2 : Nat)) := Lib.hid (by
    have h := alloc_tc wq (t.1.1 : Nat) (bs t.1.2.1) (t.1.2.2 : Nat) (t.2 : Nat) 34
    rw [hw4, hbt]; exact ⟨h.c0, h.c1, h.c2, h.c3, h.fz⟩)
  have HBT : Hid (w.heap.size < bt) := Lib.hid (by have h1 := HBQ.out.size; have h2 := HS1.out; omega)
  have HP4 := Lib.hid (HP1.out.below (bthen HBQ.out HB4.out))
  have c1 := below_cell HB4.out q1
  have HC1 := Lib.hid c1
  have cf1 := HP4.out.fz 1
  have hp9 : (p : Int) ≤ 1000000 := by omega
  rw [← hbt]
  clear hw4 hbt hn1 hn2 hn3 hn4 hl1 hl2 q0 q1 m0 m1 m2 m3
  go_upto_region 6 with fail
  obtain ⟨w5, hw5⟩ : ∃ w5, w5 = w4.setCell ⟨pb, 1, none⟩ (.int .i64 ((p : Int) + 1)) := ⟨_, rfl⟩
  rw [← hw5]
  have HPS5 : Hid (RPS w5 pb A r false) := Lib.hid (by rw [hw5]; exact HP4.out.setAt HC1.out rfl)
  have HF45 : Hid (Fr (fun x => x = pb) w4 w5) := Lib.hid (by rw [hw5]; exact (Fr.refl (fun x => x = pb) w4).setCell (p := ⟨pb, 1, none⟩) rfl _)
  have HBTP : Hid (¬ (bt = pb)) := Lib.hid (by have := HBT.out; have := HPL.out; omega)
  have HF5 : Hid (Fr (fun x => x = pb) w w5) := Lib.hid ((Fr.of_below (S := fun x => x = pb) (bthen HB1.out (bthen HBQ.out HB4.out))).trans HF45.out)
  have HTK5 := Lib.hid (HTK4.out.fr HF45.out HBTP.out)
  have HTC5 : Hid (EC w5 w.heap.size eE none 0) := Lib.hid ((HTC.out.below (bthen HBQ.out HB4.out)).fr HF45.out (by have := HPL.out; omega))
  clear hw5 c1 cf1
  obtain ⟨z0, z1, z2, z3, zf⟩ := HTK5.out
  clear zf
  rw [HKK.out] at z0
  have f0 : ((bs t.1.2.1).toList == [97, 110, 100]) = false := sq_eq hb8.out [97, 110, 100] (by decide) _ rfl (by rw [HX.out]; decide)
  have f1 : ((bs t.1.2.1).toList == [111, 114]) = false := sq_eq hb8.out [111, 114] (by decide) _ rfl (by rw [HX.out]; decide)
  have f2 : ((bs t.1.2.1).toList == [110, 111, 116]) = true := sq_eq hb8.out [110, 111, 116] (by decide) _ rfl (by rw [HX.out]; decide)
  have hcf := HPS5.out.fz 2
  have c2 := HPS5.out.c2
  have hn2 : ¬ (pb = w.heap.size) := by have h1 := HPL.out; omega
  have hn4 : ¬ (w.heap.size = pb) := fun e => hn2 e.symm
  obtain ⟨y0, y1, y2, y3, yf⟩ := HTC5.out
  have yf0 := yf 0
  have yf1 := yf 1
  have yf2 := yf 2
  have yf3 := yf 3
  clear yf
  go_wp2
  exact bodyPost_ret (v := .agg #[.int .i64 0, .string ⟨#[]⟩, .int .i64 0, .slice none 0 0]) (by simp [results, Try.results58, go_sem, y0, y1, y2, y3, hn2, hn4]; try rfl) rfl (rfin_par (be := 0) (e := eE) (rest := none) HPS5.out.setBad (Nat.zero_le _) (.inl rfl) (HF5.out.setCell (p := ⟨pb, 2, none⟩) rfl _) ⟨by simp, (fun h => by cases h), fun _ => by rw [if_pos rfl]; exact HRES.out⟩ (fun h => by cases h) (fr4 _ w.heap.size (.int .i64 0) (.string ⟨#[]⟩) (.int .i64 0) (.slice none 0 0)) HPL.out)

theorem par_sofar {res r1 : Res} {t6 : Ex} {ts ts6 : List Tk} {bad6 : Bool} (hres : res = r1.bind fun x => if isT 5 [[41]] x.2 then some (x.1, x.2.tail) else none) (hl : ts6.length ≤ ts.length)
    (h6 : if bad6 = true then r1 = none else r1 = some (t6, ts6)) : Sofar res (some (t6, if isT 5 [[41]] ts6 then ts6.tail else ts6)) false (if isT 5 [[41]] ts6 then bad6 else true) ts (if isT 5 [[41]] ts6 then ts6.tail else ts6) := by
  refine ⟨?_, (fun h => by cases h), fun _ => ?_⟩
  · split
    · rw [List.length_tail]; omega
    · exact hl
  · rw [hres]
    cases hb : bad6 with
    | true =>
      rw [hb, if_pos rfl] at h6
      rw [h6]
      cases isT 5 [[41]] ts6 <;> simp
    | false =>
      rw [hb, if_neg (by simp)] at h6
      rw [h6]
      cases hi : isT 5 [[41]] ts6 <;> simp [hi]

set_option maxRecDepth 100000 in
set_option maxHeartbeats 1500000 in
theorem prim_par (M : Nat) (H : RSpec M) (w : World) (pb : Nat) (A : RA) (t : Tk) (r : List Tk) (hp : RPS w pb A (t :: r) false) (hk : t.1.1 = 5) (hx : t.1.2.1 = [40]) (hM : (Job.lev 9 (t :: r)).wt ≤ M) :
    Calls Try.prog 58 #[.pointer (some ⟨pb, 0, none⟩)] w (RParPost pb A w (runJ (.lev 9 (t :: r))) false (t :: r)) := by
  have HRES : Hid (runJ (.lev 9 (t :: r)) = (runJ (.lev 1 r)).bind fun x => if isT 5 [[41]] x.2 then some (x.1, x.2.tail) else none) := Lib.hid (by rw [runJ_prim]; unfold primJ; simp [hk, hx])
  have HN : Hid (∀ (w : World), RPS w pb A r false → Calls Try.prog 24 #[.pointer (some ⟨pb, 0, none⟩), .int .i64 1] w (RParPost pb A w (runJ (.lev 1 r)) false r)) := Lib.hid (fun w h => H 1 (by omega) (by omega) w pb A r false h (by simp only [Job.wt, List.length_cons] at *; omega))
  have HKK := Lib.hid hk
  have HX := Lib.hid hx
  clear hk hx H hM
  obtain ⟨w1, hw1⟩ : ∃ w1, w1 = w.alloc (.cells #[.int .i64 0, .string ⟨#[]⟩, .int .i64 0, .slice none 0 0] 38) := ⟨_, rfl⟩
  have HB1 : Hid (Below w.heap.size w w1) := Lib.hid (by rw [hw1]; exact below_alloc _ _)
  have HS1 : Hid (w1.heap.size = w.heap.size + 1) := Lib.hid (by rw [hw1]; simp)
  have HP1 := Lib.hid (hp.below HB1.out)
  have HTC : Hid (EC w1 w.heap.size eE none 0) := Lib.hid (by rw [hw1]; exact alloc_ec w eE none 0 _)
  have HLIM := Lib.hid hp.lim
  have HPL := Lib.hid hp.lt
  have HW1 := Lib.hid hw1
  obtain ⟨p, b, c1, hpl, hdrop, ha, hb, k0, k1, k2, k3, hwt, hb8⟩ := HP1.out.head
  have c0 := HP1.out.c0
  have c2 := HP1.out.c2
  rw [ha] at c0
  obtain ⟨N, hN⟩ : ∃ N, N = A.all.length := ⟨_, rfl⟩
  rw [← hN] at c0
  have hNi : (N : Int) ≤ 1000000 := by have := HLIM.out; omega
  have hpi : (p : Int) < (N : Int) := by omega
  have hpn : p < N := by omega
  have hpd : decide (N ≤ p) = false := decide_eq_false (by omega)
  have hpdi : decide ((N : Int) ≤ (p : Int)) = false := decide_eq_false (by omega)
  have hb8 := Lib.hid hb8
  have hwt := Lib.hid hwt
  have HBPB := Lib.hid hb
  clear hpl hdrop ha hb hN hw1
  go_enter Try.func58, Try.ntmps58
  go_upto_region 1 with fail
  rw [← HW1.out]
  go_quiet (fail)
  obtain ⟨wq, hwq⟩ : ∃ wq, wq = w1.drewN nq := ⟨_, rfl⟩
  rw [← hwq]
  have HBQ : Hid (Below w1.heap.size w1 wq) := Lib.hid (by rw [hwq]; exact BQ nq)
  have q0 := below_cell HBQ.out c0
  have q1 := below_cell HBQ.out c1
  have m0 := below_cell HBQ.out k0
  have m1 := below_cell HBQ.out k1
  have m2 := below_cell HBQ.out k2
  have m3 := below_cell HBQ.out k3
  clear hwq c0 c1 c2 k0 k1 k2 k3
  go_upto_region 4 with fail
  have hn1 : ¬ (b = wq.heap.size) := by have h1 := HPL.out; have h2 := HB1.out.size; have h3 := HBQ.out.size; have h4 := HBPB.out; omega
  have hn2 : ¬ (pb = wq.heap.size) := by have h1 := HPL.out; have h2 := HB1.out.size; have h3 := HBQ.out.size; omega
  have hn3 : ¬ (wq.heap.size = b) := fun e => hn1 e.symm
  have hn4 : ¬ (wq.heap.size = pb) := fun e => hn2 e.symm
  have hl1 : b < wq.heap.size := World.block_lt_of_cell? wq _ m0
  have hl2 : pb < wq.heap.size := World.block_lt_of_cell? wq _ q0
  go_region_held3 (fun w' => w'.cell? ⟨pb, 0, none⟩ = some (.slice (some ⟨b, 0, none⟩) N A.c) ∧ w'.cell? ⟨pb, 1, none⟩ = some (.int .i64 (p : Nat)) ∧ w'.cell? ⟨b, p * 4, none⟩ = some (.int .i64 (t.1.1 : Nat)) ∧ w'.cell? ⟨b, p * 4 + 1, none⟩ = some (.string (bs t.1.2.1)) ∧ w'.cell? ⟨b, p * 4 + 2, none⟩ = some (.int .i64 (t.1.2.2 : Nat)) ∧ w'.cell? ⟨b, p * 4 + 3, none⟩ = some (.int .i64 (t.2 : Nat))) (go_keep) (fail)
  obtain ⟨w4, hw4⟩ : ∃ w4, w4 = (wq.alloc (.cells #[.int .i64 (t.1.1 : Nat), .string (bs t.1.2.1), .int .i64 (t.1.2.2 : Nat), .int .i64 (t.2 : Nat)] 34)).drew := ⟨_, rfl⟩
  rw [← hw4]
  obtain ⟨bt, hbt⟩ : ∃ bt, bt = wq.heap.size := ⟨_, rfl⟩
  have HB4 : Hid (Below wq.heap.size wq w4) := Lib.hid (by rw [hw4]; exact (below_alloc _ _).drew)
  have HTK4 : Hid (TC w4 bt (t.1.1 : Nat) (bs t.1.2.1) (t.1.2.2 : Nat) (t.2 : Nat)) := Lib.hid (by
    have h := alloc_tc wq (t.1.1 : Nat) (bs t.1.2.1) (t.1.2.2 : Nat) (t.2 : Nat) 34
    rw [hw4, hbt]; exact ⟨h.c0, h.c1, h.c2, h.c3, h.fz⟩)
  have HBT : Hid (w.heap.size < bt) := Lib.hid (by have h1 := HBQ.out.size; have h2 := HS1.out; omega)
  have HP4 := Lib.hid (HP1.out.below (bthen HBQ.out HB4.out))
  have c1 := below_cell HB4.out q1
  have HC1 := Lib.hid c1
  have cf1 := HP4.out.fz 1
  have hp9 : (p : Int) ≤ 1000000 := by omega
  rw [← hbt]
  clear hw4 hbt hn1 hn2 hn3 hn4 hl1 hl2 q0 q1 m0 m1 m2 m3
  go_upto_region 6 with fail
  obtain ⟨w5, hw5⟩ : ∃ w5, w5 = w4.setCell ⟨pb, 1, none⟩ (.int .i64 ((p : Int) + 1)) := ⟨_, rfl⟩
  rw [← hw5]
  have HPS5 : Hid (RPS w5 pb A r false) := Lib.hid (by rw [hw5]; exact HP4.out.setAt HC1.out rfl)
  have HF45 : Hid (Fr (fun x => x = pb) w4 w5) := Lib.hid (by rw [hw5]; exact (Fr.refl (fun x => x = pb) w4).setCell (p := ⟨pb, 1, none⟩) rfl _)
  have HBTP : Hid (¬ (bt = pb)) := Lib.hid (by have := HBT.out; have := HPL.out; omega)
  have HF5 : Hid (Fr (fun x => x = pb) w w5) := Lib.hid ((Fr.of_below (S := fun x => x = pb) (bthen HB1.out (bthen HBQ.out HB4.out))).trans HF45.out)
  have HTK5 := Lib.hid (HTK4.out.fr HF45.out HBTP.out)
  have HTC5 : Hid (EC w5 w.heap.size eE none 0) := Lib.hid ((HTC.out.below (bthen HBQ.out HB4.out)).fr HF45.out (by have := HPL.out; omega))
  clear hw5 c1 cf1
  obtain ⟨z0, z1, z2, z3, zf⟩ := HTK5.out
  clear zf
  rw [HKK.out] at z0
  have f40 : ((bs t.1.2.1).toList == [40]) = true := sq_eq hb8.out [40] (by decide) _ rfl (by rw [HX.out]; decide)
  go_upto_region 14 with (go_at_call 24; refine (HN.out _ HPS5.out).mono ?_; rintro e9 w6 ⟨t6, v6, ts6, bad6, rfl, ⟨aa6, cc6, rfl, hcc6, hra6⟩, hps6, hlen6, hf6, hb6, hb6'⟩; simp only [exV])
  obtain ⟨w7, hw7⟩ : ∃ w7, w7 = w6.alloc (.cells #[.int .i64 t6.kind, .string t6.text, .int .i64 t6.num, .slice aa6 t6.args.length cc6] 38) := ⟨_, rfl⟩
  rw [← hw7]
  have HB7 : Hid (Below w6.heap.size w6 w7) := Lib.hid (by rw [hw7]; exact below_alloc _ _)
  obtain ⟨be, hbe⟩ : ∃ be, be = w6.heap.size := ⟨_, rfl⟩
  have HEC7 : Hid (EC w7 be t6 aa6 cc6) := Lib.hid (by rw [hw7, hbe]; exact alloc_ec _ _ _ _ _)
  have HBE : Hid (w5.heap.size ≤ be) := Lib.hid (by have h1 := hf6.size; omega)
  have HS5 : Hid (w.heap.size < w5.heap.size) := Lib.hid (by have h1 := HTK5.out.lt; have h2 := HBT.out; omega)
  have HPS7 := Lib.hid (hps6.below HB7.out)
  have HRA7 : Hid (RdA (fun i => w.heap.size < i ∧ i ≠ 0) w7 t6.args aa6) := Lib.hid ((hra6.mono (fun i h1 h2 => ⟨by have := HS5.out; omega, by have := HS5.out; omega⟩)).below HB7.out)
  have HTC7 : Hid (EC w7 w.heap.size eE none 0) := Lib.hid ((HTC5.out.fr hf6 (by have := HPL.out; omega)).below HB7.out)
  have HF7 : Hid (Fr (fun x => x = pb) w w7) := Lib.hid ((HF5.out.trans hf6).trans (.of_below HB7.out))
  have HCC := Lib.hid hcc6
  have HSO := Lib.hid (par_sofar (ts := t :: r) HRES.out (by simp only [List.length_cons]; omega) (hb6' rfl))
  obtain ⟨tsX, htsX⟩ : ∃ x, x = (if isT 5 [[41]] ts6 then ts6.tail else ts6) := ⟨_, rfl⟩
  obtain ⟨badX, hbadX⟩ : ∃ x, x = (if isT 5 [[41]] ts6 then bad6 else true) := ⟨_, rfl⟩
  rw [← htsX, ← hbadX] at HSO
  have HMU : Hid (Calls Try.prog 59 #[.pointer (some ⟨pb, 0, none⟩), .string ⟨#[41]⟩] w7 fun e w' => e = .returned (.tuple #[]) ∧ RPS w' pb A tsX badX ∧ Fr (fun x => x = pb) w7 w') := Lib.hid (by rw [htsX, hbadX]; exact must_any [41] (by simp) (by decide) HPS7.out)
  rw [← hbe]
  clear hw7 hbe hcc6 hra6 hps6 hlen6 hf6 hb6 hb6' htsX hbadX z0 z1 z2 z3
  go_upto_region 15 with (go_at_call 59; refine HMU.out.mono ?_; rintro e9 w8 ⟨rfl, hps8, hf8⟩; have HPS8 := Lib.hid hps8; have HF8 := Lib.hid hf8; clear hps8 hf8)
  obtain ⟨x0, x1, x2, x3, xf⟩ := HEC7.out.fr HF8.out (by have := HBE.out; have := HS5.out; have := HPL.out; omega)
  clear xf
  obtain ⟨y0, y1, y2, y3, yf⟩ := HTC7.out.fr HF8.out (by have := HPL.out; omega)
  have yf0 := yf 0
  have yf1 := yf 1
  have yf2 := yf 2
  have yf3 := yf 3
  clear yf
  go_wp2
  exact bodyPost_ret (v := .agg #[.int .i64 t6.kind, .string t6.text, .int .i64 t6.num, .slice aa6 t6.args.length cc6]) (by simp [results, Try.results58, go_sem, y0, y1, y2, y3]; try rfl) rfl (rfin_par (be := 0) (e := t6) (rest := some (t6, tsX)) HPS8.out HCC.out (HRA7.out.fr HF8.out (fun i hi e => by have := HPL.out; omega)) (HF7.out.trans HF8.out) HSO.out (fun _ => rfl) (fr4 w8 w.heap.size (.int .i64 t6.kind) (.string t6.text) (.int .i64 t6.num) (.slice aa6 t6.args.length cc6)) HPL.out)

end Go.Proofs.Ytpabngicbfcdkaa
