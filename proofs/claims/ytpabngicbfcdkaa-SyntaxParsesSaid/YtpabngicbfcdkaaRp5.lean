/-
  The reference's parser: not.
-/
import Derived.Test.YtpabngicbfcdkaaRp4
namespace Go.Proofs.Ytpabngicbfcdkaa
open Go.RowKit
set_option linter.unusedVariables false
set_option linter.unusedSimpArgs false

theorem RParPost.sofar {bad bad' : Bool} {ts ts' : List Tk} {res : Res} {t : Ex} (hlen : ts'.length ≤ ts.length) (hb1 : bad = true → bad' = true) (hb2 : bad = false → if bad' = true then res = none else res = some (t, ts')) : Sofar res (some (t, ts')) bad bad' ts ts' := ⟨hlen, hb1, hb2⟩

set_option maxRecDepth 100000 in
set_option maxHeartbeats 3000000 in
theorem rlev3_any (M : Nat) (H : RSpec M) (w : World) (pb : Nat) (A : RA) (ts : List Tk) (bad : Bool) (hp : RPS w pb A ts bad) (hM : (Job.lev 3 ts).wt ≤ M) :
    Calls Try.prog 24 #[.pointer (some ⟨pb, 0, none⟩), .int .i64 3] w (RParPost pb A w (runJ (.lev 3 ts)) bad ts) := by
  obtain ⟨w1, hw1⟩ : ∃ w1, w1 = w.alloc (.cells #[.int .i64 0, .string ⟨#[]⟩, .int .i64 0, .slice none 0 0] 38) := ⟨_, rfl⟩
  have HB1 : Hid (Below w.heap.size w w1) := Lib.hid (by rw [hw1]; exact below_alloc _ _)
  have HS1 : Hid (w1.heap.size = w.heap.size + 1) := Lib.hid (by rw [hw1]; simp)
  have HP1 := Lib.hid (hp.below HB1.out)
  have HTC : Hid (EC w1 w.heap.size eE none 0) := Lib.hid (by rw [hw1]; exact alloc_ec w eE none 0 _)
  have HLIM := Lib.hid hp.lim
  have HPL := Lib.hid hp.lt
  have HW1 := Lib.hid hw1
  have HM := Lib.hid hM
  have HIS : Hid (Calls Try.prog 42 #[.pointer (some ⟨pb, 0, none⟩), .string ⟨#[110, 111, 116]⟩] w1 fun e w' => e = .returned (.bool (isT 4 [wNot] ts)) ∧ Below w1.heap.size w1 w') := Lib.hid (is_any 4 wNot (by decide) (by omega) (fun t ht h4 he => ht.kind4 h4 (by decide) he) HP1.out)
  clear hw1 hp hM
  cases hi : isT 4 [wNot] ts with
  | true =>
    obtain ⟨t0, r0, rfl⟩ : ∃ t0 r0, ts = t0 :: r0 := by
      cases ts with
      | nil => cases hi
      | cons a b => exact ⟨a, b, rfl⟩
    rw [hi] at HIS
    have HRES : Hid (runJ (.lev 3 (t0 :: r0)) = (runJ (.lev 3 r0)).bind fun x => some (callE wNot [x.1], x.2)) := Lib.hid (by rw [runJ_not]; unfold notJ; rw [hi]; rfl)
    have HN : Hid (∀ (w : World), RPS w pb A r0 bad → Calls Try.prog 24 #[.pointer (some ⟨pb, 0, none⟩), .int .i64 3] w (RParPost pb A w (runJ (.lev 3 r0)) bad r0)) := Lib.hid (fun w h => H 3 (by omega) (by omega) w pb A r0 bad h (by have := HM.out; simp only [Job.wt, List.length_cons] at *; omega))
    clear hi H
    go_enter Try.func24, Try.ntmps24
    go_upto_region 1 with fail
    rw [← HW1.out]
    go_upto_region 2 with (go_at_call 42; refine HIS.out.mono ?_; rintro e w2 ⟨rfl, hb2⟩)
    have HB2 := Lib.hid hb2
    have HP2 := Lib.hid (HP1.out.below hb2)
    obtain ⟨p, b, c1, hpl, -, -, -, -, -, -, -, -, -⟩ := HP2.out.head
    have hp9 : (p : Int) ≤ 1000000 := by have := HLIM.out; omega
    have HC1 := Lib.hid c1
    have cf1 := HP2.out.fz 1
    clear hb2 hpl
    go_upto_region 3 with fail
    obtain ⟨w5, hw5⟩ : ∃ w5, w5 = w2.setCell ⟨pb, 1, none⟩ (.int .i64 ((p : Int) + 1)) := ⟨_, rfl⟩
    rw [← hw5]
    have HPS5 : Hid (RPS w5 pb A r0 bad) := Lib.hid (by rw [hw5]; exact HP2.out.setAt HC1.out rfl)
    have HF5 : Hid (Fr (fun x => x = pb) w1 w5) := Lib.hid (by rw [hw5]; exact (Fr.of_below (S := fun x => x = pb) HB2.out).setCell (p := ⟨pb, 1, none⟩) rfl _)
    have HTC5 := Lib.hid (HTC.out.fr HF5.out (by have := HPL.out; omega))
    clear hw5 c1 cf1
    go_wp2_with (first
      | (go_at_call 24; refine (HN.out _ HPS5.out).mono ?_; rintro e w6 ⟨t, v, ts6, bad6, rfl, ⟨aa, cc, rfl, hcc, hra⟩, hps, hlen, hf, hb1, hb2⟩; simp only [exV]; have HF6 := Lib.hid hf; have HRA := Lib.hid hra; have HPS6 := Lib.hid hps; have HCC := Lib.hid hcc; have HLEN := Lib.hid hlen; have HK1 := Lib.hid hb1; have HK2 := Lib.hid hb2; clear hra hps hf hb1 hb2 hlen hcc)
      | (go_at_call 43; refine (rcall_any _ _ _ _ _).mono ?_; rintro e w7 ⟨rfl, hb7⟩; have HB67 := Lib.hid (bthen (below_alloc w6 (.cells #[.int .i64 t.kind, .string t.text, .int .i64 t.num, .slice aa t.args.length cc] 38)) hb7); have HEC7 := Lib.hid ((HTC5.out.fr HF6.out (by have := HPL.out; omega)).below HB67.out); obtain ⟨y0, y1, y2, y3, yf⟩ := HEC7.out; have yf0 := yf 0; have yf1 := yf 1; have yf2 := yf 2; have yf3 := yf 3; have HRB : Hid (RdA (fun i => w.heap.size < i ∧ i ≠ 0) w7 [t] (some ⟨w6.heap.size, 0, none⟩)) := Lib.hid ((rdA_block [(t, aa, cc)] (heap_new_at rfl) rfl ⟨by have h1 := HF5.out.size; have h2 := HF6.out.size; have h5 := HS1.out; omega, by have h1 := HF5.out.size; have h2 := HF6.out.size; have h5 := HS1.out; omega⟩ (fun x hx => by
          rcases List.mem_cons.1 hx with rfl | hx
          · exact ⟨HCC.out, (HRA.out.mono (fun i _ hi => ⟨by have h3 := HF5.out.size; have h5 := HS1.out; omega, by have h3 := HF5.out.size; have h5 := HS1.out; omega⟩)).below (below_alloc _ _)⟩
          · cases hx)).below hb7); clear hb7 yf))
    exact bodyPost_ret (v := .agg #[.int .i64 4, .string (bs wNot), .int .i64 0, .slice (some ⟨w6.heap.size, 0, none⟩) 1 1]) (by simp [results, Try.results24, go_sem, y0, y1, y2, y3]; try rfl) rfl (rfin_par (be := 0) (e := callE wNot [t]) (rest := some (callE wNot [t], ts6)) (HPS6.out.below HB67.out) (by simp [callE, Ex.args]) HRB.out ((((Fr.of_below (S := fun x => x = pb) HB1.out).trans HF5.out).trans HF6.out).trans (.of_below HB67.out)) ⟨by have := HLEN.out; simp only [List.length_cons]; omega, HK1.out, fun h => by
      have h2 := HK2.out h
      split at h2
      · rename_i hx; rw [if_pos hx, HRES.out, h2]; rfl
      · rename_i hx; rw [if_neg hx, HRES.out, h2]; rfl⟩ (fun _ => rfl) (fr4 w7 w.heap.size (.int .i64 4) (.string (bs wNot)) (.int .i64 0) (.slice (some ⟨w6.heap.size, 0, none⟩) 1 1)) HPL.out)
  | false =>
    rw [hi] at HIS
    have HRES : Hid (runJ (.lev 3 ts) = runJ (.lev 4 ts)) := Lib.hid (by rw [runJ_not]; unfold notJ; rw [hi]; rfl)
    have HN : Hid (∀ (w : World), RPS w pb A ts bad → Calls Try.prog 24 #[.pointer (some ⟨pb, 0, none⟩), .int .i64 4] w (RParPost pb A w (runJ (.lev 4 ts)) bad ts)) := Lib.hid (fun w h => H 4 (by omega) (by omega) w pb A ts bad h (by have := HM.out; simp only [Job.wt] at *; omega))
    clear hi H
    go_enter Try.func24, Try.ntmps24
    go_upto_region 1 with fail
    rw [← HW1.out]
    go_wp2_with (first
      | (go_at_call 42; refine HIS.out.mono ?_; rintro e w2 ⟨rfl, hb2⟩; have HB2 := Lib.hid hb2; have HP2 := Lib.hid (HP1.out.below hb2); clear hb2)
      | (go_at_call 24; refine (HN.out _ HP2.out).mono ?_; rintro e w6 ⟨t, v, ts6, bad6, rfl, ⟨aa, cc, rfl, hcc, hra⟩, hps, hlen, hf, hb1, hb2⟩; simp only [exV]))
    obtain ⟨w3, hw3⟩ : ∃ w3, w3 = w6.alloc (.cells #[.int .i64 t.kind, .string t.text, .int .i64 t.num, .slice aa t.args.length cc] 38) := ⟨_, rfl⟩
    rw [← hw3]
    have hb3 : Below w6.heap.size w6 w3 := by rw [hw3]; exact below_alloc _ _
    obtain ⟨be, hbe⟩ : ∃ be, be = w6.heap.size := ⟨_, rfl⟩
    have HEC3 : Hid (EC w3 be t aa cc) := Lib.hid (by rw [hw3, hbe]; exact alloc_ec _ _ _ _ _)
    have hwf3 : Fr (fun x => x = pb) w w3 := (Fr.of_below (S := fun x => x = pb) (bthen HB1.out HB2.out)).trans (hf.trans (.of_below hb3))
    have HTC3 : Hid (EC w3 w.heap.size eE none 0) := Lib.hid (((HTC.out.below HB2.out).fr hf (by have := HPL.out; omega)).below hb3)
    have HPS3 : Hid (RPS w3 pb A ts6 bad6) := Lib.hid (hps.below hb3)
    have HEND : Hid (∀ nq wf, Fr (fun x => x = w.heap.size) (w3.drewN nq) wf → RParPost pb A w (runJ (.lev 3 ts)) bad ts (.returned (exV t aa cc)) wf) := Lib.hid (fun nq wf hff => by
      rw [HRES.out]
      exact rfin_par (be := 0) (hps.below (bthen hb3 (BQ nq))) hcc ((hra.mono (fun i h1 h2 => ⟨by have := HS1.out; have := HB2.out.size; omega, by have := HS1.out; have := HB2.out.size; omega⟩)).below (bthen hb3 (BQ nq))) (hwf3.trans (.of_below (BQ nq))) ⟨hlen, hb1, hb2⟩ (fun _ => rfl) hff HPL.out)
    have HQ3 : Hid (∀ nq, EC (w3.drewN nq) be t aa cc ∧ EC (w3.drewN nq) w.heap.size eE none 0) := Lib.hid (fun nq => ⟨HEC3.out.below (BQ nq), HTC3.out.below (BQ nq)⟩)
    rw [← hbe]
    clear hw3 hb3 hbe hwf3 hcc hra hps hlen hf hb1 hb2
    go_loopw [6] (fun _ wr => wr = w3) (fun _ _ => 0)
    case atStart => rfl
    case round =>
      subst hrel
      obtain ⟨x0, x1, x2, x3, xf⟩ := HEC3.out
      obtain ⟨y0, y1, y2, y3, yf⟩ := HTC3.out
      have yf0 := yf 0
      have yf1 := yf 1
      have yf2 := yf 2
      have yf3 := yf 3
      have c2 := HPS3.out.c2
      have c0 := HPS3.out.c0
      obtain ⟨N, hN⟩ : ∃ N, N = A.all.length := ⟨_, rfl⟩
      rw [← hN] at c0
      have hNi : (N : Int) ≤ 1000000 := by have := HLIM.out; omega
      clear xf yf
      cases hbd : bad6 with
      | true =>
        subst hbd
        go_wp2
        go_quiet (fail)
        go_wp2
        exact bodyPost_ret (v := .agg #[.int .i64 t.kind, .string t.text, .int .i64 t.num, .slice aa t.args.length cc]) (by simp [results, Try.results24, go_sem, y0, y1, y2, y3]; try rfl) rfl (HEND.out nq _ (fr4 _ w.heap.size (.int .i64 t.kind) (.string t.text) (.int .i64 t.num) (.slice aa t.args.length cc)))
      | false =>
        subst hbd
        cases hts : ts6 with
        | nil =>
          subst hts
          obtain ⟨p, c1, hd, hl⟩ := HPS3.out.c1
          have hpe : p = N := by
            have h2 : (A.all.drop p).length = 0 := by rw [← hd]; rfl
            rw [List.length_drop] at h2; omega
          rw [hpe] at c1
          clear hd hl hpe hN
          go_wp2
          go_quiet (fail)
          go_wp2
          exact bodyPost_ret (v := .agg #[.int .i64 t.kind, .string t.text, .int .i64 t.num, .slice aa t.args.length cc]) (by simp [results, Try.results24, go_sem, y0, y1, y2, y3]; try rfl) rfl (HEND.out nq _ (fr4 _ w.heap.size (.int .i64 t.kind) (.string t.text) (.int .i64 t.num) (.slice aa t.args.length cc)))
        | cons t0 r0 =>
          subst hts
          obtain ⟨p, b, c1, hpl, hdrop, ha, hb, k0, k1, k2, k3, hwt, hb8⟩ := HPS3.out.head
          rw [ha] at c0
          have hpi : (p : Int) < (N : Int) := by omega
          have hpn : p < N := by omega
          have HLV : Hid (∀ w, Calls Try.prog 45 #[.string (bs t0.1.2.1)] w fun e w' => e = .returned (.int .i64 (lvR t0.1.2.1 : Nat)) ∧ w' = w) := Lib.hid (fun w => (rLevel_any t0.1.2.1 hb8 w).mono (fun e w' h => ⟨h.1, h.2.symm⟩))
          have hl7 := lvR_lt t0.1.2.1
          obtain ⟨lv, hlv⟩ : ∃ lv, lv = lvR t0.1.2.1 := ⟨_, rfl⟩
          rw [← hlv] at HLV hl7
          have hqb : ((lv : Int) == 3) = false := by rw [beq_eq_false_iff_ne]; omega
          have hl9 : (lv : Int) ≤ 7 := by omega
          clear hpl hdrop ha hb hwt hb8 hN hl7 hlv
          by_cases hk : 4 ≤ t0.1.1
          · have g4 : (4 : Int) ≤ (t0.1.1 : Int) := by omega
            clear hk
            go_wp2
            go_quiet (first | (go_at_call 45; exact Calls.quiet_of_same (HLV.out _)))
            go_wp2
            exact bodyPost_ret (v := .agg #[.int .i64 t.kind, .string t.text, .int .i64 t.num, .slice aa t.args.length cc]) (by simp [results, Try.results24, go_sem, y0, y1, y2, y3]; try rfl) rfl (HEND.out nq _ (fr4 _ w.heap.size (.int .i64 t.kind) (.string t.text) (.int .i64 t.num) (.slice aa t.args.length cc)))
          · have g4 : decide ((4 : Int) ≤ (t0.1.1 : Int)) = false := decide_eq_false (by omega)
            clear hk
            go_wp2
            go_quiet (fail)
            go_wp2
            exact bodyPost_ret (v := .agg #[.int .i64 t.kind, .string t.text, .int .i64 t.num, .slice aa t.args.length cc]) (by simp [results, Try.results24, go_sem, y0, y1, y2, y3]; try rfl) rfl (HEND.out nq _ (fr4 _ w.heap.size (.int .i64 t.kind) (.string t.text) (.int .i64 t.num) (.slice aa t.args.length cc)))

end Go.Proofs.Ytpabngicbfcdkaa
