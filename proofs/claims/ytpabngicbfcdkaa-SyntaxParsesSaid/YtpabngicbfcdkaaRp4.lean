/-
  The reference's parser: comparisons.
-/
import Derived.Test.YtpabngicbfcdkaaRp3
namespace Go.Proofs.Ytpabngicbfcdkaa
open Go.RowKit
set_option linter.unusedVariables false
set_option linter.unusedSimpArgs false

/-- what a comparison does behind its first operand -/
def cmpK (e : Ex) (ts : List Tk) : Res := if isT 5 (lvlO 4) ts then (runJ (.lev 5 ts.tail)).bind fun y => some (callE (hdT ts) [e, y.1], y.2) else some (e, ts)
theorem runJ_cmp4 (ts : List Tk) : runJ (.lev 4 ts) = (runJ (.lev 5 ts)).bind fun x => cmpK x.1 x.2 := by
  rw [runJ_cmp]; rfl
def RCH4 (w : World) (pb be : Nat) (A : RA) (all : Res) (bad : Bool) (ts : List Tk) (wr : World) (e : Ex) (ts' : List Tk) (bad' : Bool) : Prop :=
  RPS wr pb A ts' bad' ∧ (∃ aa cc, EC wr be e aa cc ∧ e.args.length ≤ cc ∧ RdA (fun i => w.heap.size < i ∧ i ≠ be) wr e.args aa) ∧ Fr (fun x => x = pb) w wr ∧
  Sofar all (cmpK e ts') bad bad' ts ts'

set_option maxRecDepth 100000 in
set_option maxHeartbeats 3000000 in
theorem rlev4_any (n : Nat) (h4 : n = 4) (M : Nat) (H : RSpec M) (w : World) (pb : Nat) (A : RA) (ts : List Tk) (bad : Bool) (hp : RPS w pb A ts bad) (hM : (Job.lev n ts).wt ≤ M) :
    Calls Try.prog 24 #[.pointer (some ⟨pb, 0, none⟩), .int .i64 (n : Nat)] w (RParPost pb A w (runJ (.lev n ts)) bad ts) := by
  obtain ⟨w1, hw1⟩ : ∃ w1, w1 = w.alloc (.cells #[.int .i64 0, .string ⟨#[]⟩, .int .i64 0, .slice none 0 0] 38) := ⟨_, rfl⟩
  have HB1 : Hid (Below w.heap.size w w1) := Lib.hid (by rw [hw1]; exact below_alloc _ _)
  have HS1 : Hid (w1.heap.size = w.heap.size + 1) := Lib.hid (by rw [hw1]; simp)
  have HP1 := Lib.hid (hp.below HB1.out)
  have HTC : Hid (EC w1 w.heap.size eE none 0) := Lib.hid (by rw [hw1]; exact alloc_ec w eE none 0 _)
  have hlim := hp.lim
  obtain ⟨n1, hn1⟩ : ∃ n1, n1 = n + 1 := ⟨_, rfl⟩
  have hni : (n : Int) + 1 = (n1 : Int) := by omega
  have HC1 := Lib.hid (H n1 (by omega) (by omega) w1 pb A ts bad HP1.out (by simp only [Job.wt] at *; omega))
  have HGG : Hid (∀ (w : World) (ts' : List Tk) (bad : Bool), RPS w pb A ts' bad → ts'.length < ts.length → Calls Try.prog 24 #[.pointer (some ⟨pb, 0, none⟩), .int .i64 (n1 : Nat)] w (RParPost pb A w (runJ (.lev n1 ts')) bad ts')) := Lib.hid (fun w ts' bad h hl => H n1 (by omega) (by omega) w pb A ts' bad h (by simp only [Job.wt] at *; omega))
  have HPL := Lib.hid hp.lt
  have HW1 := Lib.hid hw1
  have HM := Lib.hid hM
  have HN1 := Lib.hid hn1
  have hw9 : IntKind.i64.wrap (n1 : Int) = (n1 : Int) := IntWalk.i64_in _ (by omega)
  have HN : Hid (1 ≤ n ∧ n ≤ 7 ∧ n ≠ 3 ∧ n = 4) := Lib.hid ⟨by omega, by omega, by omega, h4⟩
  have b3 : ((n : Int) == 3) = false := by rw [beq_eq_false_iff_ne]; omega
  have b8 : ((n : Int) == 8) = false := by rw [beq_eq_false_iff_ne]; omega
  have b4 : ((n : Int) == 4) = true := by rw [beq_iff_eq]; omega
  have hn7 : (n : Int) ≤ 7 := by omega
  have HLIM := Lib.hid hlim
  clear H hw1 hp hM hn1 h4 hlim
  go_enter Try.func24, Try.ntmps24
  go_upto_region 1 with fail
  rw [← HW1.out]
  go_wp2_with (go_at_call 24; refine HC1.out.mono ?_; rintro e w2 ⟨t, v, ts2, bad2, rfl, ⟨aa, cc, rfl, hcc, hra⟩, hps, hlen, hf, hb1, hb2⟩; simp only [exV])
  obtain ⟨w3, hw3⟩ : ∃ w3, w3 = w2.alloc (.cells #[.int .i64 t.kind, .string t.text, .int .i64 t.num, .slice aa t.args.length cc] 38) := ⟨_, rfl⟩
  rw [← hw3]
  have hb3 : Below w2.heap.size w2 w3 := by rw [hw3]; exact below_alloc _ _
  obtain ⟨be, hbe⟩ : ∃ be, be = w2.heap.size := ⟨_, rfl⟩
  have hec : EC w3 be t aa cc := by rw [hw3, hbe]; exact alloc_ec _ _ _ _ _
  have HBE : Hid (w.heap.size < be) := Lib.hid (by have h1 := hf.size; have h2 := HS1.out; omega)
  have hfw3 : Fr (fun x => x = pb) w w3 := (Fr.of_below (S := fun x => x = pb) HB1.out).trans (hf.trans (.of_below hb3))
  have HCH : Hid (RCH4 w pb be A (runJ (.lev n ts)) bad ts w3 t ts2 bad2) := Lib.hid ⟨hps.below hb3, ⟨aa, cc, hec, hcc, (hra.mono (fun i h1 h2 => ⟨by have := HS1.out; omega, by omega⟩)).below hb3⟩, hfw3, hlen, hb1, fun h => by
    have h2 := hb2 h
    rw [HN1.out] at h2
    rw [HN.out.2.2.2, runJ_cmp4]
    rw [show n + 1 = 5 by have := HN.out.2.2.2; omega] at h2
    split at h2
    · rename_i hx; rw [if_pos hx, h2]; rfl
    · rename_i hx; rw [if_neg hx, h2]; rfl⟩
  have HTC3 : Hid (EC w3 w.heap.size eE none 0) := Lib.hid ((HTC.out.fr hf (by have := HPL.out; omega)).below hb3)
  rw [← hbe]
  clear hw3 hb3 hbe hec hfw3 hcc hra hps hlen hf hb1 hb2
  go_loopg [6] (ts.length + 1) (fun gg nv wr => ∃ (e : Ex) (ts' : List Tk) (bad' : Bool), ts'.length + 1 ≤ gg ∧ ts'.length ≤ ts.length ∧ RCH4 w pb be A (runJ (.lev n ts)) bad ts wr e ts' bad' ∧ EC wr w.heap.size eE none 0)
  case atStart => exact ⟨t, ts2, bad2, by have := HCH.out.2.2.2.1; omega, HCH.out.2.2.2.1, HCH.out, HTC3.out⟩
  case round =>
    clear HCH HTC3
    obtain ⟨e, ts', bad', hgg, hle, ⟨hps, ⟨aa, cc, hec, hcc, hra⟩, hfr, hso⟩, htc⟩ := hrel
    have HLE := Lib.hid hle
    have HGQ := Lib.hid hgg
    have HPS := Lib.hid hps
    have HRA := Lib.hid hra
    have HFR := Lib.hid hfr
    have HSO := Lib.hid hso
    have HEC := Lib.hid hec
    have HTCR := Lib.hid htc
    have HCC := Lib.hid hcc
    have c2 := hps.c2
    have c0 := hps.c0
    obtain ⟨N, hN⟩ : ∃ N, N = A.all.length := ⟨_, rfl⟩
    rw [← hN] at c0
    have hNi : (N : Int) ≤ 1000000 := by have := HLIM.out; omega
    obtain ⟨x0, x1, x2, x3, xf⟩ := hec
    obtain ⟨y0, y1, y2, y3, yf⟩ := htc
    have yf0 := yf 0
    have yf1 := yf 1
    have yf2 := yf 2
    have yf3 := yf 3
    clear yf
    clear hgg hle hps hra hfr hso hcc xf
    have HEND : Hid (∀ nq, (bad' = false → cmpK e ts' = some (e, ts')) → ∀ wf, Fr (fun x => x = w.heap.size) (wr.drewN nq) wf → RParPost pb A w (runJ (.lev n ts)) bad ts (.returned (exV e aa cc)) wf) := Lib.hid (fun nq hend wf hf => rfin_par (HPS.out.below (BQ nq)) HCC.out (HRA.out.below (BQ nq)) (HFR.out.trans (.of_below (BQ nq))) HSO.out hend hf HPL.out)
    cases hbd : bad' with
    | true =>
      subst hbd
      go_wp2
      go_quiet (fail)
      go_wp2
      exact bodyPost_ret (v := .agg #[.int .i64 e.kind, .string e.text, .int .i64 e.num, .slice aa e.args.length cc]) (by simp [results, Try.results24, go_sem, y0, y1, y2, y3]; try rfl) rfl (HEND.out nq (fun h => by cases h) _ (fr4 _ w.heap.size (.int .i64 e.kind) (.string e.text) (.int .i64 e.num) (.slice aa e.args.length cc)))
    | false =>
      subst hbd
      cases hts : ts' with
      | nil =>
        subst hts
        obtain ⟨p, c1, hd, hl⟩ := HPS.out.c1
        have hpe : p = N := by
          have h2 : (A.all.drop p).length = 0 := by rw [← hd]; rfl
          rw [List.length_drop] at h2; omega
        have HRES : Hid (cmpK e [] = some (e, [])) := Lib.hid rfl
        rw [hpe] at c1
        clear hd hl hpe hN
        go_wp2
        go_quiet (fail)
        go_wp2
        exact bodyPost_ret (v := .agg #[.int .i64 e.kind, .string e.text, .int .i64 e.num, .slice aa e.args.length cc]) (by simp [results, Try.results24, go_sem, y0, y1, y2, y3]; try rfl) rfl (HEND.out nq (fun _ => HRES.out) _ (fr4 _ w.heap.size (.int .i64 e.kind) (.string e.text) (.int .i64 e.num) (.slice aa e.args.length cc)))
      | cons t0 r0 =>
        subst hts
        obtain ⟨p, b, c1, hpl, hdrop, ha, hb, k0, k1, k2, k3, hwt, hb8⟩ := HPS.out.head
        rw [ha] at c0
        have hpi : (p : Int) < (N : Int) := by omega
        have hpn : p < N := by omega
        have HIS : Hid (isT (lvlK n) (lvlO n) (t0 :: r0) = (decide (4 ≤ t0.1.1) && decide (lvR t0.1.2.1 = n))) := Lib.hid (lvl_isT n HN.out.1 HN.out.2.1 HN.out.2.2.1 hwt)
        have HLV : Hid (∀ w, Calls Try.prog 45 #[.string (bs t0.1.2.1)] w fun e w' => e = .returned (.int .i64 (lvR t0.1.2.1 : Nat)) ∧ w' = w) := Lib.hid (fun w => (rLevel_any t0.1.2.1 hb8 w).mono (fun e w' h => ⟨h.1, h.2.symm⟩))
        have hl7 := (lvR_lt t0.1.2.1).1
        clear hpl hdrop ha hb hwt hb8 hN
        by_cases hk : 4 ≤ t0.1.1
        · have g4 : (4 : Int) ≤ (t0.1.1 : Int) := by omega
          obtain ⟨lv, hlv⟩ : ∃ lv, lv = lvR t0.1.2.1 := ⟨_, rfl⟩
          rw [← hlv] at HLV HIS hl7
          by_cases hq : lv = n
          · have hqb : ((lv : Int) == (n : Int)) = true := by rw [beq_iff_eq]; omega
            have hqb2 : (lv == n) = true := by rw [beq_iff_eq]; omega
            have hqb3 : decide (lv = n) = true := decide_eq_true hq
            have HRES : Hid (cmpK e (t0 :: r0) = (runJ (.lev n1 r0)).bind fun x => some (callE t0.1.2.1 [e, x.1], x.2)) := Lib.hid (by
              have h9 := HIS.out
              rw [hqb3, decide_eq_true hk, HN.out.2.2.2] at h9
              unfold cmpK; rw [show isT 5 (lvlO 4) (t0 :: r0) = true from h9, HN1.out, HN.out.2.2.2]; rfl)
            subst hq
            clear hk hlv hl7
            go_wp2
            go_quiet (first | (go_at_call 45; exact Calls.quiet_of_same (HLV.out _)))
            obtain ⟨wq, hwq⟩ : ∃ wq, wq = wr.drewN nq := ⟨_, rfl⟩
            rw [← hwq]
            have HBQ : Hid (Below wr.heap.size wr wq) := Lib.hid (by rw [hwq]; exact BQ nq)
            have HPSQ := Lib.hid (HPS.out.below HBQ.out)
            have q0 := below_cell HBQ.out c0
            have q1 := below_cell HBQ.out c1
            have q3 := below_cell HBQ.out k1
            clear hwq x0 x1 x2 x3 y0 y1 y2 y3 yf0 yf1 yf2 yf3 c0 c1 c2 k0 k1 k2 k3
            go_upto_region 8 with fail
            go_quiet (fail)
            obtain ⟨wp, hwp⟩ : ∃ wp, wp = wq.drewN nq := ⟨_, rfl⟩
            rw [← hwp]
            have HBP : Hid (Below wr.heap.size wr wp) := Lib.hid (bthen HBQ.out (by rw [hwp]; exact BQ nq))
            have HPSP := Lib.hid (HPS.out.below HBP.out)
            have HBP2 : Hid (Below wq.heap.size wq wp) := Lib.hid (by rw [hwp]; exact BQ nq)
            have hc1 := below_cell HBP2.out q1
            have HC1P := Lib.hid hc1
            have cf1 := HPSP.out.fz 1
            have hpl9 : (p : Int) ≤ 1000000 := by omega
            clear hwp q0 q1 q3
            go_upto_region 10 with fail
            obtain ⟨w5, hw5⟩ : ∃ w5, w5 = wp.setCell ⟨pb, 1, none⟩ (.int .i64 ((p : Int) + 1)) := ⟨_, rfl⟩
            rw [← hw5]
            have HPS5 : Hid (RPS w5 pb A r0 false) := Lib.hid (by rw [hw5]; exact HPSP.out.setAt HC1P.out rfl)
            have HF5 : Hid (Fr (fun x => x = pb) wr w5) := Lib.hid (by rw [hw5]; exact (Fr.of_below (S := fun x => x = pb) HBP.out).setCell (p := ⟨pb, 1, none⟩) rfl _)
            clear hw5 hc1 cf1
            have HBEP : Hid (¬ (be = pb)) := Lib.hid (by have := HBE.out; have := HPL.out; omega)
            have HEC5 := Lib.hid (HEC.out.fr HF5.out HBEP.out).drew
            obtain ⟨x0, x1, x2, x3, xf⟩ := HEC5.out
            have HC5 := Lib.hid (HGG.out w5.drew r0 false HPS5.out.drew (by have h2 := HLE.out; simp only [List.length_cons] at *; omega))
            go_region_with (first
              | (go_at_call 43; refine (rcall_any _ _ _ _ _).mono ?_; rintro e9 w7 ⟨rfl, hb7⟩; obtain ⟨q0, q1, q2, q3, qf⟩ := (HEC6.out.below (below_alloc _ _)).below hb7; have qf0 := qf 0; have qf1 := qf 1; have qf2 := qf 2; have qf3 := qf 3; clear qf)
              | (go_at_call 24; refine HC5.out.mono ?_; rintro e9 w6 ⟨t6, v6, ts6, bad6, rfl, ⟨aa6, cc6, rfl, hcc6, hra6⟩, hps6, hlen6, hf6, hb6, hb6'⟩; simp only [exV]; have HEC6 := Lib.hid (HEC5.out.fr hf6 HBEP.out); obtain ⟨z0, z1, z2, z3, zf⟩ := HEC6.out; clear zf))
            all_goals
              have HF6 : Hid (Fr (fun x => x = pb) wr w6) := Lib.hid (HF5.out.drew.trans hf6)
              have HB67 := Lib.hid (bthen (below_alloc w6 (.cells #[.int .i64 e.kind, .string e.text, .int .i64 e.num, .slice aa e.args.length cc, .int .i64 t6.kind, .string t6.text, .int .i64 t6.num, .slice aa6 t6.args.length cc6] 38)) hb7)
              have HBW : Hid (be < wr.heap.size) := Lib.hid HEC.out.lt
              have HW5 : Hid (wr.heap.size ≤ w5.drew.heap.size) := Lib.hid HF5.out.drew.size
              have HW6 : Hid (wr.heap.size ≤ w6.heap.size) := Lib.hid HF6.out.size
              have HRA6 : Hid (RdA (fun i => w.heap.size < i ∧ i ≠ be) w6 e.args aa) := Lib.hid (HRA.out.fr HF6.out (fun i hi e => by have := HPL.out; omega))
              have HRT6 : Hid (RdA (fun i => w.heap.size < i ∧ i ≠ be) w6 t6.args aa6) := Lib.hid (hra6.mono (fun i h1 h2 => ⟨by have := HBE.out; have := HBW.out; have := HW5.out; omega, by have := HBW.out; have := HW5.out; omega⟩))
              have HRB : Hid (RdA (fun i => w.heap.size < i ∧ i ≠ be) w7 [e, t6] (some ⟨w6.heap.size, 0, none⟩)) := Lib.hid ((rdA_block [(e, aa, cc), (t6, aa6, cc6)] (heap_new_at rfl) rfl ⟨by have := HBE.out; have := HBW.out; have := HW6.out; omega, by have := HBW.out; have := HW6.out; omega⟩ (fun x hx => by
                rcases List.mem_cons.1 hx with rfl | hx
                · exact ⟨HCC.out, HRA6.out.below (below_alloc _ _)⟩
                · rcases List.mem_cons.1 hx with rfl | hx
                  · exact ⟨hcc6, HRT6.out.below (below_alloc _ _)⟩
                  · cases hx)).below hb7)
              have HEC7 := Lib.hid ((HEC6.out.below (below_alloc _ _)).below hb7)
              have HPS7 := Lib.hid ((hps6.below (below_alloc _ _)).below hb7)
              have HF7 : Hid (Fr (fun x => x = pb) wr w7) := Lib.hid (HF6.out.trans (.of_below HB67.out))
              have HSO6 : Hid (Sofar (runJ (.lev lv ts)) (some (callE t0.1.2.1 [e, t6], ts6)) bad bad6 ts ts6) := Lib.hid ⟨by have := HLE.out; simp only [List.length_cons] at this; omega, fun h => (by have := HSO.out.2.1 h; cases this), fun h => by
                have h1 := HSO.out.2.2 h
                rw [if_neg (by simp), HRES.out] at h1
                have h2 := hb6' (by first | rfl | trivial)
                split at h2
                · rename_i hx; rw [if_pos hx, h1, h2]; rfl
                · rename_i hx; rw [if_neg hx, h1, h2]; rfl⟩
              have HL6 := Lib.hid hlen6
              clear hra6 hps6 hlen6 hf6 hb6 hb6' hb7 x0 x1 x2 x3 xf z0 z1 z2 z3 q0 q1 q2 q3 qf0 qf1 qf2 qf3 hcc6
              obtain ⟨wf, hwf⟩ : ∃ wf, wf = ((((w7.setCell ⟨be, 0, none⟩ (.int .i64 4)).setCell ⟨be, 1, none⟩ (.string (bs t0.1.2.1))).setCell ⟨be, 2, none⟩ (.int .i64 0)).setCell ⟨be, 3, none⟩ (.slice (some ⟨w6.heap.size, 0, none⟩) 2 2)) := ⟨_, rfl⟩
              rw [← hwf]
              have HFF : Hid (Fr (fun x => x = be) w7 wf) := Lib.hid (by rw [hwf]; exact fr4 w7 be _ _ _ _)
              have HECF : Hid (EC wf be (callE t0.1.2.1 [e, t6]) (some ⟨w6.heap.size, 0, none⟩) 2) := Lib.hid (by rw [hwf]; exact set_ec HEC7.out (callE t0.1.2.1 [e, t6]) (some ⟨w6.heap.size, 0, none⟩) 2)
              clear hwf
              obtain ⟨x0, x1, x2, x3, xf⟩ := HECF.out
              obtain ⟨y0, y1, y2, y3, yf⟩ := (HTCR.out.fr HF7.out (by have := HPL.out; omega)).fr HFF.out (by have := HBE.out; omega)
              have yf0 := yf 0
              have yf1 := yf 1
              have yf2 := yf 2
              have yf3 := yf 3
              clear xf yf
              change wf.cell? ⟨be, 0, none⟩ = some (.int .i64 4) at x0
              change wf.cell? ⟨be, 1, none⟩ = some (.string (bs t0.1.2.1)) at x1
              change wf.cell? ⟨be, 2, none⟩ = some (.int .i64 0) at x2
              change wf.cell? ⟨be, 3, none⟩ = some (.slice (some ⟨w6.heap.size, 0, none⟩) 2 2) at x3
              go_wp2
              exact bodyPost_ret (v := .agg #[.int .i64 4, .string (bs t0.1.2.1), .int .i64 0, .slice (some ⟨w6.heap.size, 0, none⟩) 2 2]) (by simp [results, Try.results24, go_sem, y0, y1, y2, y3]; try rfl) rfl (rfin_par (be := be) (e := callE t0.1.2.1 [e, t6]) (HPS7.out.fr HFF.out (fun i hi e => by have := HBE.out; have := HPL.out; omega)) (by simp [callE, Ex.args]) (HRB.out.fr HFF.out (fun i hi e => hi.2 e)) ((HFR.out.trans HF7.out).then HFF.out (fun i e => .inr (by have := HBE.out; omega))) HSO6.out (fun _ => rfl) (fr4 wf w.heap.size (.int .i64 4) (.string (bs t0.1.2.1)) (.int .i64 0) (.slice (some ⟨w6.heap.size, 0, none⟩) 2 2)) HPL.out)
          · have hqb : ((lv : Int) == (n : Int)) = false := by rw [beq_eq_false_iff_ne]; omega
            have hqb2 : (lv == n) = false := by rw [beq_eq_false_iff_ne]; omega
            have hqb3 : decide (lv = n) = false := decide_eq_false hq
            have HRES : Hid (cmpK e (t0 :: r0) = some (e, t0 :: r0)) := Lib.hid (by
              have h9 := HIS.out
              rw [hqb3, Bool.and_false] at h9
              rw [HN.out.2.2.2] at h9; unfold cmpK; rw [show isT 5 (lvlO 4) (t0 :: r0) = false from h9]; rfl)
            clear hk hlv hl7 hq
            go_wp2
            go_quiet (first | (go_at_call 45; exact Calls.quiet_of_same (HLV.out _)))
            go_wp2
            exact bodyPost_ret (v := .agg #[.int .i64 e.kind, .string e.text, .int .i64 e.num, .slice aa e.args.length cc]) (by simp [results, Try.results24, go_sem, y0, y1, y2, y3]; try rfl) rfl (HEND.out nq (fun _ => HRES.out) _ (fr4 _ w.heap.size (.int .i64 e.kind) (.string e.text) (.int .i64 e.num) (.slice aa e.args.length cc)))
        · have g4 : decide ((4 : Int) ≤ (t0.1.1 : Int)) = false := decide_eq_false (by omega)
          have HRES : Hid (cmpK e (t0 :: r0) = some (e, t0 :: r0)) := Lib.hid (by
            have h9 := HIS.out
            rw [decide_eq_false hk, Bool.false_and] at h9
            rw [HN.out.2.2.2] at h9; unfold cmpK; rw [show isT 5 (lvlO 4) (t0 :: r0) = false from h9]; rfl)
          clear hk hl7
          go_wp2
          go_quiet (fail)
          go_wp2
          exact bodyPost_ret (v := .agg #[.int .i64 e.kind, .string e.text, .int .i64 e.num, .slice aa e.args.length cc]) (by simp [results, Try.results24, go_sem, y0, y1, y2, y3]; try rfl) rfl (HEND.out nq (fun _ => HRES.out) _ (fr4 _ w.heap.size (.int .i64 e.kind) (.string e.text) (.int .i64 e.num) (.slice aa e.args.length cc)))

end Go.Proofs.Ytpabngicbfcdkaa
