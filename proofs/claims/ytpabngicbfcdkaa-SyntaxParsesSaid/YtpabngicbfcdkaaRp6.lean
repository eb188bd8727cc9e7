/-
  The reference's parser: primaries (small ones).
-/
import Derived.Test.YtpabngicbfcdkaaRp5
import Derived.Deep.RegionHeld3
namespace Go.Proofs.Ytpabngicbfcdkaa
open Go.RowKit
set_option linter.unusedVariables false
set_option linter.unusedSimpArgs false

set_option maxRecDepth 100000 in
set_option maxHeartbeats 1500000 in
/-- where nothing is left, or the parser is bad already -/
theorem prim_end (w : World) (pb : Nat) (A : RA) (ts : List Tk) (bad : Bool) (hp : RPS w pb A ts bad) (hb : bad = true ∨ ts = []) :
    Calls Try.prog 58 #[.pointer (some ⟨pb, 0, none⟩)] w (RParPost pb A w (runJ (.lev 9 ts)) bad ts) := by
  obtain ⟨w1, hw1⟩ : ∃ w1, w1 = w.alloc (.cells #[.int .i64 0, .string ⟨#[]⟩, .int .i64 0, .slice none 0 0] 38) := ⟨_, rfl⟩
  have HB1 : Hid (Below w.heap.size w w1) := Lib.hid (by rw [hw1]; exact below_alloc _ _)
  have HS1 : Hid (w1.heap.size = w.heap.size + 1) := Lib.hid (by rw [hw1]; simp)
  have HP1 := Lib.hid (hp.below HB1.out)
  have HTC : Hid (EC w1 w.heap.size eE none 0) := Lib.hid (by rw [hw1]; exact alloc_ec w eE none 0 _)
  have HLIM := Lib.hid hp.lim
  have HPL := Lib.hid hp.lt
  have HW1 := Lib.hid hw1
  have HRES : Hid (bad = false → runJ (.lev 9 ts) = none) := Lib.hid (fun h => by
    rcases hb with hb | hb
    · rw [h] at hb; cases hb
    · subst hb; rw [runJ_prim]; rfl)
  have c2 := HP1.out.c2
  have c0 := HP1.out.c0
  obtain ⟨p, c1, hd, hl⟩ := HP1.out.c1
  obtain ⟨N, hN⟩ : ∃ N, N = A.all.length := ⟨_, rfl⟩
  rw [← hN] at c0
  have hNi : (N : Int) ≤ 1000000 := by have := HLIM.out; omega
  have hcase : bad = true ∨ (bad = false ∧ p = N) := by
    cases bad with
    | true => exact .inl rfl
    | false =>
      rcases hb with hb | hb
      · cases hb
      · refine .inr ⟨rfl, ?_⟩
        subst hb
        have h2 : (A.all.drop p).length = 0 := by rw [← hd]; rfl
        rw [List.length_drop] at h2; omega
  have HFIN : Hid (∀ w6 wf, Below w1.heap.size w1 w6 → Fr (fun x => x = w.heap.size) (w6.setCell ⟨pb, 2, none⟩ (.bool true)) wf → RParPost pb A w (runJ (.lev 9 ts)) bad ts (.returned (exV eE none 0)) wf) := Lib.hid (fun w6 wf h6 hf => by
    refine rfin_par (be := 0) (e := eE) (rest := none) (bad' := true) (ts' := ts) (HP1.out.below h6).setBad (Nat.zero_le _) (.inl rfl) ((Fr.of_below (S := fun x => x = pb) (bthen HB1.out h6)).setCell (p := ⟨pb, 2, none⟩) rfl _) ⟨Nat.le_refl _, fun _ => rfl, fun h => by rw [if_pos rfl]; exact HRES.out h⟩ (fun h => by cases h) hf HPL.out)
  have HYS : Hid (∀ nq, EC (w1.drewN nq) w.heap.size eE none 0 ∧ (∀ j, (w1.drewN nq).frozen? ⟨pb, j, none⟩ = false)) := Lib.hid (fun nq => ⟨HTC.out.below (BQ nq), (HP1.out.below (BQ nq)).fz⟩)
  have hn2 : ¬ (pb = w.heap.size) := by have h1 := HPL.out; omega
  have hn4 : ¬ (w.heap.size = pb) := fun e => hn2 e.symm
  clear hw1 hp hb hd hl hN
  rcases hcase with rfl | ⟨rfl, rfl⟩
  all_goals
    go_enter Try.func58, Try.ntmps58
    go_upto_region 1 with fail
    rw [← HW1.out]
    go_quiet (fail)
    have hcf := (HYS.out nq).2 2
    obtain ⟨y0, y1, y2, y3, yf⟩ := (HYS.out nq).1
    have yf0 := yf 0
    have yf1 := yf 1
    have yf2 := yf 2
    have yf3 := yf 3
    clear yf
    have c2q : (w1.drewN nq).cell? ⟨pb, 2, none⟩ = _ := below_cell (BQ nq) c2
    go_wp2
    exact bodyPost_ret (v := .agg #[.int .i64 0, .string ⟨#[]⟩, .int .i64 0, .slice none 0 0]) (by simp [results, Try.results58, go_sem, y0, y1, y2, y3, hn4, hn2]; try rfl) rfl (HFIN.out _ _ (BQ nq) (fr4 _ w.heap.size (.int .i64 0) (.string ⟨#[]⟩) (.int .i64 0) (.slice none 0 0)))

set_option maxRecDepth 100000 in
set_option maxHeartbeats 1500000 in
theorem prim_num (w : World) (pb : Nat) (A : RA) (t : Tk) (r : List Tk) (hp : RPS w pb A (t :: r) false) (hk : t.1.1 = 1) :
    Calls Try.prog 58 #[.pointer (some ⟨pb, 0, none⟩)] w (RParPost pb A w (runJ (.lev 9 (t :: r))) false (t :: r)) := by
  have HRES : Hid (runJ (.lev 9 (t :: r)) = some (Ex.mk 1 (bs []) (t.1.2.2 : Nat) [], r)) := Lib.hid (by rw [runJ_prim]; unfold primJ; simp [hk])
  have HKK := Lib.hid hk
  clear hk
  obtain ⟨w1, hw1⟩ : ∃ w1, w1 = w.alloc (.cells #[.int .i64 0, .string ⟨#[]⟩, .int .i64 0, .slice none 0 0] 38) := ⟨_, rfl⟩
  have HB1 : Hid (Below w.heap.size w w1) := Lib.hid (by rw [hw1]; exact below_alloc _ _)
  have HS1 : Hid (w1.heap.size = w.heap.size + 1) := Lib.hid (by rw [hw1]; simp)
  have HP1 := Lib.hid (hp.below HB1.out)
  have HTC : Hid (EC w1 w.heap.size eE none 0) := Lib.hid (by rw [hw1]; exact alloc_ec w eE none 0 _)
  have HLIM := Lib.hid hp.lim
  have HPL := Lib.hid hp.lt
  have HW1 := Lib.hid hw1
  obtain ⟨p, b, c1, hpl, hdrop, ha, hb, k0, k1, k2, k3, hwt, hb8⟩ := HP1.out.head
  have c0 := HP1.out.c0
  have c2 := HP1.out.c2
  rw [ha] at c0
  obtain ⟨N, hN⟩ : ∃ N, N = A.all.length := ⟨_, rfl⟩
  rw [← hN] at c0
  have hNi : (N : Int) ≤ 1000000 := by have := HLIM.out; omega
  have hpi : (p : Int) < (N : Int) := by omega
  have hpn : p < N := by omega
  have hpd : decide (N ≤ p) = false := decide_eq_false (by omega)
  have hpdi : decide ((N : Int) ≤ (p : Int)) = false := decide_eq_false (by omega)
  have hb8 := Lib.hid hb8
  have hwt := Lib.hid hwt
  have HBPB := Lib.hid hb
  clear hpl hdrop ha hb hN hw1
  go_enter Try.func58, Try.ntmps58
  go_upto_region 1 with fail
  rw [← HW1.out]
  go_quiet (fail)
  obtain ⟨wq, hwq⟩ : ∃ wq, wq = w1.drewN nq := ⟨_, rfl⟩
  rw [← hwq]
  have HBQ : Hid (Below w1.heap.size w1 wq) := Lib.hid (by rw [hwq]; exact BQ nq)
  have q0 := below_cell HBQ.out c0
  have q1 := below_cell HBQ.out c1
  have m0 := below_cell HBQ.out k0
  have m1 := below_cell HBQ.out k1
  have m2 := below_cell HBQ.out k2
  have m3 := below_cell HBQ.out k3
  clear hwq c0 c1 c2 k0 k1 k2 k3
  go_upto_region 4 with fail
  have hn1 : ¬ (b = wq.heap.size) := by have h1 := HPL.out; have h2 := HB1.out.size; have h3 := HBQ.out.size; have h4 := HBPB.out; omega
  have hn2 : ¬ (pb = wq.heap.size) := by have h1 := HPL.out; have h2 := HB1.out.size; have h3 := HBQ.out.size; omega
  have hn3 : ¬ (wq.heap.size = b) := fun e => hn1 e.symm
  have hn4 : ¬ (wq.heap.size = pb) := fun e => hn2 e.symm
  have hl1 : b < wq.heap.size := World.block_lt_of_cell? wq _ m0
  have hl2 : pb < wq.heap.size := World.block_lt_of_cell? wq _ q0
  go_region_held3 (fun w' => w'.cell? ⟨pb, 0, none⟩ = some (.slice (some ⟨b, 0, none⟩) N A.c) ∧ w'.cell? ⟨pb, 1, none⟩ = some (.int .i64 (p : Nat)) ∧ w'.cell? ⟨b, p * 4, none⟩ = some (.int .i64 (t.1.1 : Nat)) ∧ w'.cell? ⟨b, p * 4 + 1, none⟩ = some (.string (bs t.1.2.1)) ∧ w'.cell? ⟨b, p * 4 + 2, none⟩ = some (.int .i64 (t.1.2.2 : Nat)) ∧ w'.cell? ⟨b, p * 4 + 3, none⟩ = some (.int .i64 (t.2 : Nat))) (go_keep) (fail)
  obtain ⟨w4, hw4⟩ : ∃ w4, w4 = (wq.alloc (.cells #[.int .i64 (t.1.1 : Nat), .string (bs t.1.2.1), .int .i64 (t.1.2.2 : Nat), .int .i64 (t.2 : Nat)] 34)).drew := ⟨_, rfl⟩
  rw [← hw4]
  obtain ⟨bt, hbt⟩ : ∃ bt, bt = wq.heap.size := ⟨_, rfl⟩
  have HB4 : Hid (Below wq.heap.size wq w4) := Lib.hid (by rw [hw4]; exact (below_alloc _ _).drew)
  have HTK4 : Hid (TC w4 bt (t.1.1 : Nat) (bs t.1.2.1) (t.1.2.2 : Nat) (t.2 : Nat)) := Lib.hid (by
    have h := alloc_tc wq (t.1.1 : Nat) (bs t.1.2.1) (t.1.2.2 : Nat) (t.2 : Nat) 34
    rw [hw4, hbt]; exact ⟨h.c0, h.c1, h.c2, h.c3, h.fz⟩)
  have HBT : Hid (w.heap.size < bt) := Lib.hid (by have h1 := HBQ.out.size; have h2 := HS1.out; omega)
  have HP4 := Lib.hid (HP1.out.below (bthen HBQ.out HB4.out))
  have c1 := below_cell HB4.out q1
  have HC1 := Lib.hid c1
  have cf1 := HP4.out.fz 1
  have hp9 : (p : Int) ≤ 1000000 := by omega
  rw [← hbt]
  clear hw4 hbt hn1 hn2 hn3 hn4 hl1 hl2 q0 q1 m0 m1 m2 m3
  go_upto_region 6 with fail
  obtain ⟨w5, hw5⟩ : ∃ w5, w5 = w4.setCell ⟨pb, 1, none⟩ (.int .i64 ((p : Int) + 1)) := ⟨_, rfl⟩
  rw [← hw5]
  have HPS5 : Hid (RPS w5 pb A r false) := Lib.hid (by rw [hw5]; exact HP4.out.setAt HC1.out rfl)
  have HF45 : Hid (Fr (fun x => x = pb) w4 w5) := Lib.hid (by rw [hw5]; exact (Fr.refl (fun x => x = pb) w4).setCell (p := ⟨pb, 1, none⟩) rfl _)
  have HBTP : Hid (¬ (bt = pb)) := Lib.hid (by have := HBT.out; have := HPL.out; omega)
  have HF5 : Hid (Fr (fun x => x = pb) w w5) := Lib.hid ((Fr.of_below (S := fun x => x = pb) (bthen HB1.out (bthen HBQ.out HB4.out))).trans HF45.out)
  have HTK5 := Lib.hid (HTK4.out.fr HF45.out HBTP.out)
  have HTC5 : Hid (EC w5 w.heap.size eE none 0) := Lib.hid ((HTC.out.below (bthen HBQ.out HB4.out)).fr HF45.out (by have := HPL.out; omega))
  clear hw5 c1 cf1
  obtain ⟨z0, z1, z2, z3, zf⟩ := HTK5.out
  clear zf
  rw [HKK.out] at z0
  obtain ⟨y0, y1, y2, y3, yf⟩ := HTC5.out
  have yf0 := yf 0
  have yf1 := yf 1
  have yf2 := yf 2
  have yf3 := yf 3
  clear yf
  go_wp2
  exact bodyPost_ret (v := .agg #[.int .i64 1, .string ⟨#[]⟩, .int .i64 (t.1.2.2 : Nat), .slice none 0 0]) (by simp [results, Try.results58, go_sem, y0, y1, y2, y3]; try rfl) rfl (rfin_par (be := 0) (e := Ex.mk 1 (bs []) (t.1.2.2 : Nat) []) (rest := some (Ex.mk 1 (bs []) (t.1.2.2 : Nat) [], r)) HPS5.out (Nat.zero_le _) (.inl rfl) HF5.out ⟨by simp, (fun h => by cases h), fun _ => HRES.out⟩ (fun _ => rfl) (fr4 w5 w.heap.size (.int .i64 1) (.string ⟨#[]⟩) (.int .i64 (t.1.2.2 : Nat)) (.slice none 0 0)) HPL.out)

set_option maxRecDepth 100000 in
set_option maxHeartbeats 1500000 in
theorem prim_str (w : World) (pb : Nat) (A : RA) (t : Tk) (r : List Tk) (hp : RPS w pb A (t :: r) false) (hk : t.1.1 = 2) :
    Calls Try.prog 58 #[.pointer (some ⟨pb, 0, none⟩)] w (RParPost pb A w (runJ (.lev 9 (t :: r))) false (t :: r)) := by
  have HRES : Hid (runJ (.lev 9 (t :: r)) = some (Ex.mk 2 (bs t.1.2.1) 0 [], r)) := Lib.hid (by rw [runJ_prim]; unfold primJ; simp [hk])
  have HKK := Lib.hid hk
  clear hk
  obtain ⟨w1, hw1⟩ : ∃ w1, w1 = w.alloc (.cells #[.int .i64 0, .string ⟨#[]⟩, .int .i64 0, .slice none 0 0] 38) := ⟨_, rfl⟩
  have HB1 : Hid (Below w.heap.size w w1) := Lib.hid (by rw [hw1]; exact below_alloc _ _)
  have HS1 : Hid (w1.heap.size = w.heap.size + 1) := Lib.hid (by rw [hw1]; simp)
  have HP1 := Lib.hid (hp.below HB1.out)
  have HTC : Hid (EC w1 w.heap.size eE none 0) := Lib.hid (by rw [hw1]; exact alloc_ec w eE none 0 _)
  have HLIM := Lib.hid hp.lim
  have HPL := Lib.hid hp.lt
  have HW1 := Lib.hid hw1
  obtain ⟨p, b, c1, hpl, hdrop, ha, hb, k0, k1, k2, k3, hwt, hb8⟩ := HP1.out.head
  have c0 := HP1.out.c0
  have c2 := HP1.out.c2
  rw [ha] at c0
  obtain ⟨N, hN⟩ : ∃ N, N = A.all.length := ⟨_, rfl⟩
  rw [← hN] at c0
  have hNi : (N : Int) ≤ 1000000 := by have := HLIM.out; omega
  have hpi : (p : Int) < (N : Int) := by omega
  have hpn : p < N := by omega
  have hpd : decide (N ≤ p) = false := decide_eq_false (by omega)
  have hpdi : decide ((N : Int) ≤ (p : Int)) = false := decide_eq_false (by omega)
  have hb8 := Lib.hid hb8
  have hwt := Lib.hid hwt
  have HBPB := Lib.hid hb
  clear hpl hdrop ha hb hN hw1
  go_enter Try.func58, Try.ntmps58
  go_upto_region 1 with fail
  rw [← HW1.out]
  go_quiet (fail)
  obtain ⟨wq, hwq⟩ : ∃ wq, wq = w1.drewN nq := ⟨_, rfl⟩
  rw [← hwq]
  have HBQ : Hid (Below w1.heap.size w1 wq) := Lib.hid (by rw [hwq]; exact BQ nq)
  have q0 := below_cell HBQ.out c0
  have q1 := below_cell HBQ.out c1
  have m0 := below_cell HBQ.out k0
  have m1 := below_cell HBQ.out k1
  have m2 := below_cell HBQ.out k2
  have m3 := below_cell HBQ.out k3
  clear hwq c0 c1 c2 k0 k1 k2 k3
  go_upto_region 4 with fail
  have hn1 : ¬ (b = wq.heap.size) := by have h1 := HPL.out; have h2 := HB1.out.size; have h3 := HBQ.out.size; have h4 := HBPB.out; omega
  have hn2 : ¬ (pb = wq.heap.size) := by have h1 := HPL.out; have h2 := HB1.out.size; have h3 := HBQ.out.size; omega
  have hn3 : ¬ (wq.heap.size = b) := fun e => hn1 e.symm
  have hn4 : ¬ (wq.heap.size = pb) := fun e => hn2 e.symm
  have hl1 : b < wq.heap.size := World.block_lt_of_cell? wq _ m0
  have hl2 : pb < wq.heap.size := World.block_lt_of_cell? wq _ q0
  go_region_held3 (fun w' => w'.cell? ⟨pb, 0, none⟩ = some (.slice (some ⟨b, 0, none⟩) N A.c) ∧ w'.cell? ⟨pb, 1, none⟩ = some (.int .i64 (p : Nat)) ∧ w'.cell? ⟨b, p * 4, none⟩ = some (.int .i64 (t.1.1 : Nat)) ∧ w'.cell? ⟨b, p * 4 + 1, none⟩ = some (.string (bs t.1.2.1)) ∧ w'.cell? ⟨b, p * 4 + 2, none⟩ = some (.int .i64 (t.1.2.2 : Nat)) ∧ w'.cell? ⟨b, p * 4 + 3, none⟩ = some (.int .i64 (t.2 : Nat))) (go_keep) (fail)
  obtain ⟨w4, hw4⟩ : ∃ w4, w4 = (wq.alloc (.cells #[.int .i64 (t.1.1 : Nat), .string (bs t.1.2.1), .int .i64 (t.1.2.2 : Nat), .int .i64 (t.2 : Nat)] 34)).drew := ⟨_, rfl⟩
  rw [← hw4]
  obtain ⟨bt, hbt⟩ : ∃ bt, bt = wq.heap.size := ⟨_, rfl⟩
  have HB4 : Hid (Below wq.heap.size wq w4) := Lib.hid (by rw [hw4]; exact (below_alloc _ _).drew)
  have HTK4 : Hid (TC w4 bt (t.1.1 : Nat) (bs t.1.2.1) (t.1.2.2 : Nat) (t.2 : Nat)) := Lib.hid (by
    have h := alloc_tc wq (t.1.1 : Nat) (bs t.1.2.1) (t.1.2.2 : Nat) (t.2 : Nat) 34
    rw [hw4, hbt]; exact ⟨h.c0, h.c1, h.c2, h.c3, h.fz⟩)
  have HBT : Hid (w.heap.size < bt) := Lib.hid (by have h1 := HBQ.out.size; have h2 := HS1.out; omega)
  have HP4 := Lib.hid (HP1.out.below (bthen HBQ.out HB4.out))
  have c1 := below_cell HB4.out q1
  have HC1 := Lib.hid c1
  have cf1 := HP4.out.fz 1
  have hp9 : (p : Int) ≤ 1000000 := by omega
  rw [← hbt]
  clear hw4 hbt hn1 hn2 hn3 hn4 hl1 hl2 q0 q1 m0 m1 m2 m3
  go_upto_region 6 with fail
  obtain ⟨w5, hw5⟩ : ∃ w5, w5 = w4.setCell ⟨pb, 1, none⟩ (.int .i64 ((p : Int) + 1)) := ⟨_, rfl⟩
  rw [← hw5]
  have HPS5 : Hid (RPS w5 pb A r false) := Lib.hid (by rw [hw5]; exact HP4.out.setAt HC1.out rfl)
  have HF45 : Hid (Fr (fun x => x = pb) w4 w5) := Lib.hid (by rw [hw5]; exact (Fr.refl (fun x => x = pb) w4).setCell (p := ⟨pb, 1, none⟩) rfl _)
  have HBTP : Hid (¬ (bt = pb)) := Lib.hid (by have := HBT.out; have := HPL.out; omega)
  have HF5 : Hid (Fr (fun x => x = pb) w w5) := Lib.hid ((Fr.of_below (S := fun x => x = pb) (bthen HB1.out (bthen HBQ.out HB4.out))).trans HF45.out)
  have HTK5 := Lib.hid (HTK4.out.fr HF45.out HBTP.out)
  have HTC5 : Hid (EC w5 w.heap.size eE none 0) := Lib.hid ((HTC.out.below (bthen HBQ.out HB4.out)).fr HF45.out (by have := HPL.out; omega))
  clear hw5 c1 cf1
  obtain ⟨z0, z1, z2, z3, zf⟩ := HTK5.out
  clear zf
  rw [HKK.out] at z0
  obtain ⟨y0, y1, y2, y3, yf⟩ := HTC5.out
  have yf0 := yf 0
  have yf1 := yf 1
  have yf2 := yf 2
  have yf3 := yf 3
  clear yf
  go_wp2
  exact bodyPost_ret (v := .agg #[.int .i64 2, .string (bs t.1.2.1), .int .i64 0, .slice none 0 0]) (by simp [results, Try.results58, go_sem, y0, y1, y2, y3]; try rfl) rfl (rfin_par (be := 0) (e := Ex.mk 2 (bs t.1.2.1) 0 []) (rest := some (Ex.mk 2 (bs t.1.2.1) 0 [], r)) HPS5.out (Nat.zero_le _) (.inl rfl) HF5.out ⟨by simp, (fun h => by cases h), fun _ => HRES.out⟩ (fun _ => rfl) (fr4 w5 w.heap.size (.int .i64 2) (.string (bs t.1.2.1)) (.int .i64 0) (.slice none 0 0)) HPL.out)

set_option maxRecDepth 100000 in
set_option maxHeartbeats 1500000 in
theorem prim_ref (w : World) (pb : Nat) (A : RA) (t : Tk) (r : List Tk) (hp : RPS w pb A (t :: r) false) (hk : t.1.1 = 3) :
    Calls Try.prog 58 #[.pointer (some ⟨pb, 0, none⟩)] w (RParPost pb A w (runJ (.lev 9 (t :: r))) false (t :: r)) := by
  have HRES : Hid (runJ (.lev 9 (t :: r)) = some (Ex.mk 3 (bs t.1.2.1) 0 [], r)) := Lib.hid (by rw [runJ_prim]; unfold primJ; simp [hk])
  have HKK := Lib.hid hk
  clear hk
  obtain ⟨w1, hw1⟩ : ∃ w1, w1 = w.alloc (.cells #[.int .i64 0, .string ⟨#[]⟩, .int .i64 0, .slice none 0 0] 38) := ⟨_, rfl⟩
  have HB1 : Hid (Below w.heap.size w w1) := Lib.hid (by rw [hw1]; exact below_alloc _ _)
  have HS1 : Hid (w1.heap.size = w.heap.size + 1) := Lib.hid (by rw [hw1]; simp)
  have HP1 := Lib.hid (hp.below HB1.out)
  have HTC : Hid (EC w1 w.heap.size eE none 0) := Lib.hid (by rw [hw1]; exact alloc_ec w eE none 0 _)
  have HLIM := Lib.hid hp.lim
  have HPL := Lib.hid hp.lt
  have HW1 := Lib.hid hw1
  obtain ⟨p, b, c1, hpl, hdrop, ha, hb, k0, k1, k2, k3, hwt, hb8⟩ := HP1.out.head
  have c0 := HP1.out.c0
  have c2 := HP1.out.c2
  rw [ha] at c0
  obtain ⟨N, hN⟩ : ∃ N, N = A.all.length := ⟨_, rfl⟩
  rw [← hN] at c0
  have hNi : (N : Int) ≤ 1000000 := by have := HLIM.out; omega
  have hpi : (p : Int) < (N : Int) := by omega
  have hpn : p < N := by omega
  have hpd : decide (N ≤ p) = false := decide_eq_false (by omega)
  have hpdi : decide ((N : Int) ≤ (p : Int)) = false := decide_eq_false (by omega)
  have hb8 := Lib.hid hb8
  have hwt := Lib.hid hwt
  have HBPB := Lib.hid hb
  clear hpl hdrop ha hb hN hw1
  go_enter Try.func58, Try.ntmps58
  go_upto_region 1 with fail
  rw [← HW1.out]
  go_quiet (fail)
  obtain ⟨wq, hwq⟩ : ∃ wq, wq = w1.drewN nq := ⟨_, rfl⟩
  rw [← hwq]
  have HBQ : Hid (Below w1.heap.size w1 wq) := Lib.hid (by rw [hwq]; exact BQ nq)
  have q0 := below_cell HBQ.out c0
  have q1 := below_cell HBQ.out c1
  have m0 := below_cell HBQ.out k0
  have m1 := below_cell HBQ.out k1
  have m2 := below_cell HBQ.out k2
  have m3 := below_cell HBQ.out k3
  clear hwq c0 c1 c2 k0 k1 k2 k3
  go_upto_region 4 with fail
  have hn1 : ¬ (b = wq.heap.size) := by have h1 := HPL.out; have h2 := HB1.out.size; have h3 := HBQ.out.size; have h4 := HBPB.out; omega
  have hn2 : ¬ (pb = wq.heap.size) := by have h1 := HPL.out; have h2 := HB1.out.size; have h3 := HBQ.out.size; omega
  have hn3 : ¬ (wq.heap.size = b) := fun e => hn1 e.symm
  have hn4 : ¬ (wq.heap.size = pb) := fun e => hn2 e.symm
  have hl1 : b < wq.heap.size := World.block_lt_of_cell? wq _ m0
  have hl2 : pb < wq.heap.size := World.block_lt_of_cell? wq _ q0
  go_region_held3 (fun w' => w'.cell? ⟨pb, 0, none⟩ = some (.slice (some ⟨b, 0, none⟩) N A.c) ∧ w'.cell? ⟨pb, 1, none⟩ = some (.int .i64 (p : Nat)) ∧ w'.cell? ⟨b, p * 4, none⟩ = some (.int .i64 (t.1.1 : Nat)) ∧ w'.cell? ⟨b, p * 4 + 1, none⟩ = some (.string (bs t.1.2.1)) ∧ w'.cell? ⟨b, p * 4 + 2, none⟩ = some (.int .i64 (t.1.2.2 : Nat)) ∧ w'.cell? ⟨b, p * 4 + 3, none⟩ = some (.int .i64 (t.2 : Nat))) (go_keep) (fail)
  obtain ⟨w4, hw4⟩ : ∃ w4, w4 = (wq.alloc (.cells #[.int .i64 (t.1.1 : Nat), .string (bs t.1.2.1), .int .i64 (t.1.2.2 : Nat), .int .i64 (t.2 : Nat)] 34)).drew := ⟨_, rfl⟩
  rw [← hw4]
  obtain ⟨bt, hbt⟩ : ∃ bt, bt = wq.heap.size := ⟨_, rfl⟩
  have HB4 : Hid (Below wq.heap.size wq w4) := Lib.hid (by rw [hw4]; exact (below_alloc _ _).drew)
  have HTK4 : Hid (TC w4 bt (t.1.1 : Nat) (bs t.1.2.1) (t.1.2.2 : Nat) (t.2 : Nat)) := Lib.hid (by
    have h := alloc_tc wq (t.1.1 : Nat) (bs t.1.2.1) (t.1.2.2 : Nat) (t.2 : Nat) 34
    rw [hw4, hbt]; exact ⟨h.c0, h.c1, h.c2, h.c3, h.fz⟩)
  have HBT : Hid (w.heap.size < bt) := Lib.hid (by have h1 := HBQ.out.size; have h2 := HS1.out; omega)
  have HP4 := Lib.hid (HP1.out.below (bthen HBQ.out HB4.out))
  have c1 := below_cell HB4.out q1
  have HC1 := Lib.hid c1
  have cf1 := HP4.out.fz 1
  have hp9 : (p : Int) ≤ 1000000 := by omega
  rw [← hbt]
  clear hw4 hbt hn1 hn2 hn3 hn4 hl1 hl2 q0 q1 m0 m1 m2 m3
  go_upto_region 6 with fail
  obtain ⟨w5, hw5⟩ : ∃ w5, w5 = w4.setCell ⟨pb, 1, none⟩ (.int .i64 ((p : Int) + 1)) := ⟨_, rfl⟩
  rw [← hw5]
  have HPS5 : Hid (RPS w5 pb A r false) := Lib.hid (by rw [hw5]; exact HP4.out.setAt HC1.out rfl)
  have HF45 : Hid (Fr (fun x => x = pb) w4 w5) := Lib.hid (by rw [hw5]; exact (Fr.refl (fun x => x = pb) w4).setCell (p := ⟨pb, 1, none⟩) rfl _)
  have HBTP : Hid (¬ (bt = pb)) := Lib.hid (by have := HBT.out; have := HPL.out; omega)
  have HF5 : Hid (Fr (fun x => x = pb) w w5) := Lib.hid ((Fr.of_below (S := fun x => x = pb) (bthen HB1.out (bthen HBQ.out HB4.out))).trans HF45.out)
  have HTK5 := Lib.hid (HTK4.out.fr HF45.out HBTP.out)
  have HTC5 : Hid (EC w5 w.heap.size eE none 0) := Lib.hid ((HTC.out.below (bthen HBQ.out HB4.out)).fr HF45.out (by have := HPL.out; omega))
  clear hw5 c1 cf1
  obtain ⟨z0, z1, z2, z3, zf⟩ := HTK5.out
  clear zf
  rw [HKK.out] at z0
  obtain ⟨y0, y1, y2, y3, yf⟩ := HTC5.out
  have yf0 := yf 0
  have yf1 := yf 1
  have yf2 := yf 2
  have yf3 := yf 3
  clear yf
  go_wp2
  exact bodyPost_ret (v := .agg #[.int .i64 3, .string (bs t.1.2.1), .int .i64 0, .slice none 0 0]) (by simp [results, Try.results58, go_sem, y0, y1, y2, y3]; try rfl) rfl (rfin_par (be := 0) (e := Ex.mk 3 (bs t.1.2.1) 0 []) (rest := some (Ex.mk 3 (bs t.1.2.1) 0 [], r)) HPS5.out (Nat.zero_le _) (.inl rfl) HF5.out ⟨by simp, (fun h => by cases h), fun _ => HRES.out⟩ (fun _ => rfl) (fr4 w5 w.heap.size (.int .i64 3) (.string (bs t.1.2.1)) (.int .i64 0) (.slice none 0 0)) HPL.out)

end Go.Proofs.Ytpabngicbfcdkaa
