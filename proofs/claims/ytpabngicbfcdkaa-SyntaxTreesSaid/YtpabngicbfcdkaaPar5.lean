/-
  The parser: compare.
-/
import Derived.Test.YtpabngicbfcdkaaPar4
namespace Go.Proofs.Ytpabngicbfcdkaa
open Go.RowKit
set_option linter.unusedVariables false
set_option linter.unusedSimpArgs false

set_option maxRecDepth 100000 in
set_option maxHeartbeats 2000000 in
theorem lev4_any (M : Nat) (H : Spec M) (w : World) (pb : Nat) (a : Option Addr) (c : Nat) (ts : List Tk) (bad : Bool) (hp : PS w pb a c ts bad) (hM : (Job.lev 4 ts).wt ≤ M) :
    Calls Try.prog 62 #[.pointer (some ⟨pb, 0, none⟩)] w (ParPost pb w (runJ (.lev 4 ts)) bad ts) := by
  obtain ⟨w1, hw1⟩ : ∃ w1, w1 = w.alloc (.cells #[.int .i64 0, .string ⟨#[]⟩, .int .i64 0, .slice none 0 0] 38) := ⟨_, rfl⟩
  have HB1 : Hid (Below w.heap.size w w1) := Lib.hid (by rw [hw1]; exact below_alloc _ _)
  have HS1 : Hid (w1.heap.size = w.heap.size + 1) := Lib.hid (by rw [hw1]; simp)
  have HTC : Hid (EC w1 w.heap.size eE none 0) := Lib.hid (by rw [hw1]; exact alloc_ec w eE none 0 _)
  have HP1 := Lib.hid (hp.below HB1.out)
  have HC1 : Hid (Calls Try.prog 64 #[.pointer (some ⟨pb, 0, none⟩)] w1 (ParPost pb w1 (runJ (.lev 5 ts)) bad ts)) := Lib.hid (H 5 (by omega) (by omega) w1 pb a c ts bad HP1.out (by simp only [Job.wt] at *; omega))
  have HPL := Lib.hid hp.lt
  have HW1 := Lib.hid hw1
  have HM := Lib.hid hM
  have HSPEC := Lib.hid H
  clear H hw1 hp hM
  go_enter Try.func62, Try.ntmps62
  go_upto_region 1 with fail
  rw [← HW1.out]
  go_upto_region 2 with (refine HC1.out.mono ?_; rintro e w2 ⟨t, v, a2, c2, ts2, bad2, rfl, ⟨aa, cc, rfl, hcc, hra⟩, hps, hlen, hf, hb1, hb2⟩; simp only [exV])
  obtain ⟨w3, hw3⟩ : ∃ w3, w3 = w2.alloc (.cells #[.int .i64 t.kind, .string t.text, .int .i64 t.num, .slice aa t.args.length cc] 38) := ⟨_, rfl⟩
  rw [← hw3]
  have hb3 : Below w2.heap.size w2 w3 := by rw [hw3]; exact below_alloc _ _
  obtain ⟨be, hbe⟩ : ∃ be, be = w2.heap.size := ⟨_, rfl⟩
  have hec : EC w3 be t aa cc := by rw [hw3, hbe]; exact alloc_ec _ _ _ _ _
  have HBE : Hid (w.heap.size < be) := Lib.hid (by have h1 := hf.size; have h2 := HS1.out; omega)
  have HBEP : Hid (¬ (be = pb)) := Lib.hid (by have := HBE.out; have := HPL.out; omega)
  have HF3 : Hid (Fr (fun x => x = pb) w w3) := Lib.hid ((Fr.of_below (S := fun x => x = pb) HB1.out).trans (hf.trans (.of_below hb3)))
  have HPS3 := Lib.hid (hps.below hb3)
  have HRA3 : Hid (RdA (fun i => w.heap.size < i ∧ i ≠ be) w3 t.args aa) := Lib.hid ((hra.mono (fun i h1 h2 => ⟨by have := HS1.out; omega, by omega⟩)).below hb3)
  have HCC := Lib.hid hcc
  have HLEN := Lib.hid hlen
  have HK1 := Lib.hid hb1
  have HK2 := Lib.hid hb2
  have HTC3 : Hid (EC w3 w.heap.size eE none 0) := Lib.hid ((HTC.out.fr hf (by have := HPL.out; omega)).below hb3)
  have HS3 : Hid (w3.heap.size = be + 1) := Lib.hid (by rw [hw3, hbe]; simp)
  rw [← hbe]
  obtain ⟨w4, hw4⟩ : ∃ w4, w4 = w3.alloc (.cells #[.string ⟨#[61, 61]⟩, .string ⟨#[33, 61]⟩, .string ⟨#[60]⟩, .string ⟨#[60, 61]⟩] 9) := ⟨_, rfl⟩
  have HB4 : Hid (Below w3.heap.size w3 w4) := Lib.hid (by rw [hw4]; exact below_alloc _ _)
  have HPS4 := Lib.hid (HPS3.out.below HB4.out)
  have HAT : Hid (Calls Try.prog 54 #[.pointer (some ⟨pb, 0, none⟩), .int .i64 5, .slice (some ⟨w3.heap.size, 0, none⟩) 4 4] w4 fun e w' => e = .returned (.bool (isT 5 (lvlO 4) ts2)) ∧ w4 = w') := Lib.hid (at_any 5 (lvlO 4) (by simp [lvlO]) (by omega) (by simp [lvlO]) w3.heap.size 4 w4 (fun j hj => by
      have hj : j < 4 := hj
      rw [hw4]
      match j, hj with
      | 0, _ => simp; rfl
      | 1, _ => simp; rfl
      | 2, _ => simp; rfl
      | 3, _ => simp; rfl) HPS4.out)
  have HW4 := Lib.hid hw4
  have HEC4 := Lib.hid (hec.below HB4.out)
  have HTC4 := Lib.hid (HTC3.out.below HB4.out)
  have HRA4 := Lib.hid (HRA3.out.below HB4.out)
  have HF4 : Hid (Fr (fun x => x = pb) w w4) := Lib.hid (HF3.out.trans (.of_below HB4.out))
  have HBW : Hid (be < w4.heap.size) := Lib.hid HEC4.out.lt
  clear hw3 hb3 hbe hec hcc hra hps hlen hf hb1 hb2 hw4
  cases hi : isT 5 (lvlO 4) ts2 with
  | false =>
    rw [hi] at HAT
    have HRES : Hid (bad = false → if bad2 = true then runJ (.lev 4 ts) = none else runJ (.lev 4 ts) = some (t, ts2)) := Lib.hid (fun h => by
      have h2 := HK2.out h
      rw [runJ_cmp]; unfold cmpJ
      split at h2
      · rename_i hx; rw [if_pos hx, h2]; rfl
      · rename_i hx; rw [if_neg hx, h2]; show (if isT 5 (lvlO 4) ts2 then _ else _) = _; rw [hi]; rfl)
    clear hi
    obtain ⟨x0, x1, x2, x3, xf⟩ := HEC4.out
    obtain ⟨y0, y1, y2, y3, yf⟩ := HTC4.out
    have yf0 := yf 0
    have yf1 := yf 1
    have yf2 := yf 2
    have yf3 := yf 3
    clear xf yf
    go_wp2_with (go_at_call 54; rw [← HW4.out]; refine HAT.out.mono ?_; rintro e w5 ⟨rfl, rfl⟩)
    exact bodyPost_ret (v := .agg #[.int .i64 t.kind, .string t.text, .int .i64 t.num, .slice aa t.args.length cc]) (by simp [results, Try.results62, go_sem, y0, y1, y2, y3]; try rfl) rfl (fin_par HPS4.out HCC.out HRA4.out HF4.out (ParPost.sofar (pb := pb) (w := w) HLEN.out HK1.out HRES.out) (fun _ => rfl) (fr4 w4 w.heap.size (.int .i64 t.kind) (.string t.text) (.int .i64 t.num) (.slice aa t.args.length cc)) HPL.out)
  | true =>
    obtain ⟨t0, r0, rfl⟩ : ∃ t0 r0, ts2 = t0 :: r0 := by
      cases ts2 with
      | nil => cases hi
      | cons a b => exact ⟨a, b, rfl⟩
    rw [hi] at HAT
    have HTK := Lib.hid (take_any HPS4.out)
    simp only [hdV, tokV, TakePost, List.isEmpty, Bool.or_false, List.tail_cons] at HTK
    have hfld := fld1 (t0.1.1 : Nat) (bs t0.1.2.1) (t0.1.2.2 : Nat) (t0.2 : Nat)
    have HI := Lib.hid hi
    clear hi
    go_upto_region 4 with (first | (go_at_call 54; rw [← HW4.out]; refine HAT.out.mono ?_; rintro e9 w9 ⟨rfl, rfl⟩) | (go_at_call 55; refine HTK.out.mono ?_; rintro e9 w5 ⟨rfl, ⟨a5, c5, hps5⟩, hf5⟩; have HPS5 := Lib.hid hps5; have HF5 := Lib.hid hf5; clear hps5 hf5))
    have HEC5 := Lib.hid (HEC4.out.fr HF5.out HBEP.out).drew
    obtain ⟨x0, x1, x2, x3, xf⟩ := HEC5.out
    have HC5 : Hid (Calls Try.prog 64 #[.pointer (some ⟨pb, 0, none⟩)] w5.drew (ParPost pb w5.drew (runJ (.lev 5 r0)) bad2 r0)) := Lib.hid (HSPEC.out 5 (by omega) (by omega) w5.drew pb a5 c5 r0 bad2 HPS5.out.drew (by have h1 := HM.out; have h2 := HLEN.out; simp only [Job.wt, List.length_cons] at *; omega))
    go_region_with (first
      | (go_at_call 56; refine (call_any _ _ _ _ _).mono ?_; rintro e9 w7 ⟨rfl, hb7⟩; obtain ⟨q0, q1, q2, q3, qf⟩ := (HEC6.out.below (below_alloc _ _)).below hb7; have qf0 := qf 0; have qf1 := qf 1; have qf2 := qf 2; have qf3 := qf 3; clear qf)
      | (go_at_call 64; refine HC5.out.mono ?_; rintro e9 w6 ⟨t6, v6, a6, c6, ts6, bad6, rfl, ⟨aa6, cc6, rfl, hcc6, hra6⟩, hps6, hlen6, hf6, hb6, hb6'⟩; simp only [exV]; have HEC6 := Lib.hid (HEC5.out.fr hf6 HBEP.out); obtain ⟨z0, z1, z2, z3, zf⟩ := HEC6.out; clear zf))
    all_goals
      have HF6 : Hid (Fr (fun x => x = pb) w4 w6) := Lib.hid (HF5.out.drew.trans hf6)
      have HB67 := Lib.hid (bthen (below_alloc w6 (.cells #[.int .i64 t.kind, .string t.text, .int .i64 t.num, .slice aa t.args.length cc, .int .i64 t6.kind, .string t6.text, .int .i64 t6.num, .slice aa6 t6.args.length cc6] 38)) hb7)
      have HW5 : Hid (w4.heap.size ≤ w5.drew.heap.size) := Lib.hid HF5.out.drew.size
      have HW6 : Hid (w4.heap.size ≤ w6.heap.size) := Lib.hid HF6.out.size
      have HRA6 : Hid (RdA (fun i => w.heap.size < i ∧ i ≠ be) w6 t.args aa) := Lib.hid (HRA4.out.fr HF6.out (fun i hi e => by have := HPL.out; omega))
      have HRT6 : Hid (RdA (fun i => w.heap.size < i ∧ i ≠ be) w6 t6.args aa6) := Lib.hid (hra6.mono (fun i h1 h2 => ⟨by have := HBE.out; have := HBW.out; have := HW5.out; omega, by have := HBW.out; have := HW5.out; omega⟩))
      have HRB : Hid (RdA (fun i => w.heap.size < i ∧ i ≠ be) w7 [t, t6] (some ⟨w6.heap.size, 0, none⟩)) := Lib.hid ((rdA_block [(t, aa, cc), (t6, aa6, cc6)] (heap_new_at rfl) rfl ⟨by have := HBE.out; have := HBW.out; have := HW6.out; omega, by have := HBW.out; have := HW6.out; omega⟩ (fun x hx => by
        rcases List.mem_cons.1 hx with rfl | hx
        · exact ⟨HCC.out, HRA6.out.below (below_alloc _ _)⟩
        · rcases List.mem_cons.1 hx with rfl | hx
          · exact ⟨hcc6, HRT6.out.below (below_alloc _ _)⟩
          · cases hx)).below hb7)
      have HEC7 := Lib.hid ((HEC6.out.below (below_alloc _ _)).below hb7)
      have HPS7 := Lib.hid ((hps6.below (below_alloc _ _)).below hb7)
      have HF7 : Hid (Fr (fun x => x = pb) w4 w7) := Lib.hid (HF6.out.trans (.of_below HB67.out))
      have HSO6 : Hid (Sofar (runJ (.lev 4 ts)) (some (callE t0.1.2.1 [t, t6], ts6)) bad bad6 ts ts6) := Lib.hid ⟨by have := HLEN.out; simp only [List.length_cons] at this; omega, fun h => hb6 (HK1.out h), fun h => by
        have h1 := HK2.out h
        rw [runJ_cmp]; unfold cmpJ
        split at h1
        · rename_i hx
          rw [if_pos (hb6 hx), h1]; rfl
        · rename_i hx
          have h2 := hb6' (by simpa using hx)
          rw [h1]
          simp only [Option.bind_some, HI.out, if_true, List.tail_cons]
          split at h2
          · rename_i hy; rw [if_pos hy, h2]; rfl
          · rename_i hy; rw [if_neg hy, h2]; rfl⟩
      have HL6 := Lib.hid hlen6
      clear hra6 hps6 hlen6 hf6 hb6 hb6' hb7 x0 x1 x2 x3 xf z0 z1 z2 z3 q0 q1 q2 q3 qf0 qf1 qf2 qf3 hcc6
      obtain ⟨wf, hwf⟩ : ∃ wf, wf = ((((w7.setCell ⟨be, 0, none⟩ (.int .i64 4)).setCell ⟨be, 1, none⟩ (.string (bs t0.1.2.1))).setCell ⟨be, 2, none⟩ (.int .i64 0)).setCell ⟨be, 3, none⟩ (.slice (some ⟨w6.heap.size, 0, none⟩) 2 2)) := ⟨_, rfl⟩
      rw [← hwf]
      have HFF : Hid (Fr (fun x => x = be) w7 wf) := Lib.hid (by rw [hwf]; exact fr4 w7 be _ _ _ _)
      have HECF : Hid (EC wf be (callE t0.1.2.1 [t, t6]) (some ⟨w6.heap.size, 0, none⟩) 2) := Lib.hid (by rw [hwf]; exact set_ec HEC7.out (callE t0.1.2.1 [t, t6]) (some ⟨w6.heap.size, 0, none⟩) 2)
      have HTCF : Hid (EC wf w.heap.size eE none 0) := Lib.hid ((HTC4.out.fr HF7.out (by have := HPL.out; omega)).fr HFF.out (by have := HBE.out; omega))
      have HPSF := Lib.hid (HPS7.out.fr HFF.out (fun e => HBEP.out e.symm) (fun x hx _ e => by have := HPS7.out.ap x hx; have := HPL.out; have := HBE.out; omega))
      have HRF := Lib.hid (HRB.out.fr HFF.out (fun i hi e => hi.2 e))
      have HFWF : Hid (Fr (fun x => x = pb) w wf) := Lib.hid ((HF4.out.trans HF7.out).then HFF.out (fun i e => .inr (by have := HBE.out; omega)))
      clear hwf
      obtain ⟨y0, y1, y2, y3, yf⟩ := HTCF.out
      have yf0 := yf 0
      have yf1 := yf 1
      have yf2 := yf 2
      have yf3 := yf 3
      obtain ⟨x0, x1, x2, x3, xf⟩ := HECF.out
      change wf.cell? ⟨be, 0, none⟩ = some (.int .i64 4) at x0
      change wf.cell? ⟨be, 1, none⟩ = some (.string (bs t0.1.2.1)) at x1
      change wf.cell? ⟨be, 2, none⟩ = some (.int .i64 0) at x2
      change wf.cell? ⟨be, 3, none⟩ = some (.slice (some ⟨w6.heap.size, 0, none⟩) 2 2) at x3
      clear xf yf
      go_wp2
      exact bodyPost_ret (v := .agg #[.int .i64 4, .string (bs t0.1.2.1), .int .i64 0, .slice (some ⟨w6.heap.size, 0, none⟩) 2 2]) (by simp [results, Try.results62, go_sem, y0, y1, y2, y3]; try rfl) rfl (fin_par (e := callE t0.1.2.1 [t, t6]) HPSF.out (by simp [callE, Ex.args]) HRF.out HFWF.out HSO6.out (fun _ => rfl) (fr4 wf w.heap.size (.int .i64 4) (.string (bs t0.1.2.1)) (.int .i64 0) (.slice (some ⟨w6.heap.size, 0, none⟩) 2 2)) HPL.out)

end Go.Proofs.Ytpabngicbfcdkaa
