/-
  The reference's parser: calls.
-/
import Derived.Test.YtpabngicbfcdkaaRp7
import Derived.Deep.RegionLaw
namespace Go.Proofs.Ytpabngicbfcdkaa
open Go.RowKit
set_option linter.unusedVariables false
set_option linter.unusedSimpArgs false

/-- the walk of arguments between its rounds -/
structure RCHA (w : World) (pb be : Nat) (A : RA) (name : List Nat) (all : Res) (ts : List Tk) (wr : World) (L : List TV) (ra : Option Addr) (rc : Nat) (ts' : List Tk) (bad' : Bool) : Prop where
  ps : RPS wr pb A ts' bad'
  ec : EC wr be (callE name (L.map (·.1))) ra rc
  row : Row wr (be + 1) 38 4 (.slice ra L.length rc) L.length (cellsX L)
  tr : ∀ x ∈ L, x.1.args.length ≤ x.2.2 ∧ RdA (fun i => w.heap.size < i ∧ i ≠ be ∧ (Value.slice ra L.length rc).ownBlock ≠ some i) wr x.1.args x.2.1
  fr : Fr (fun x => x = pb) w wr
  so : Sofar all (runJ (.args name (L.map (·.1)) ts')) false bad' ts ts'
  ln : L.length + ts'.length ≤ ts.length
  tl : bad' = false → ts'.length ≤ ts.tail.length
theorem RCHA.rd {w pb be A name all ts wr L ra rc ts' bad'} (h : RCHA w pb be A name all ts wr L ra rc ts' bad') (hbe : w.heap.size < be) : RdA (fun i => w.heap.size < i ∧ i ≠ be) wr (callE name (L.map (·.1))).args ra := by
  refine rdA_row L h.row (fun g hg => ?_) (fun x hx => ⟨(h.tr x hx).1, (h.tr x hx).2.mono (fun i _ hi => ⟨hi.1, hi.2.1⟩)⟩)
  have := (Row.block_lt h.row hg).2
  exact ⟨by omega, by omega⟩
theorem rps_push {wr w6 w7 : World} {pb be : Nat} {L : List TV} {ra a7 : Option Addr} {rc c7 : Nat} {o : Obj} {A : RA} {ts : List Tk} {b : Bool}
    (row : Row wr (be + 1) 38 4 (.slice ra L.length rc) L.length (cellsX L)) (hpb : pb < be)
    (hgf : Fr (fun x => (Value.slice ra L.length rc).ownBlock = some x) (w6.alloc o) w7) (hp : RPS w6 pb A ts b) : RPS (w7.setCell ⟨be, 3, none⟩ (.slice a7 (L.length + 1) c7)) pb A ts b := by
  have hob : ∀ g, (Value.slice ra L.length rc).ownBlock = some g → be < g := fun g hg => by have := Row.block_lt row hg; omega
  have hs : Fr (fun x => x = be) w7 (w7.setCell ⟨be, 3, none⟩ (.slice a7 (L.length + 1) c7)) := (Fr.refl (fun x => x = be) w7).setCell (p := ⟨be, 3, none⟩) rfl _
  exact ((hp.below (below_alloc w6 o)).fr hgf (fun i hi e => by have := hob _ e; omega)).fr hs (fun i hi e => by omega)

set_option maxRecDepth 100000 in
set_option maxHeartbeats 6000000 in
theorem prim_word (M : Nat) (H : RSpec M) (w : World) (pb : Nat) (A : RA) (t : Tk) (r : List Tk) (hp : RPS w pb A (t :: r) false) (hk : t.1.1 = 4) (hx : t.1.2.1 ≠ [97, 110, 100] ∧ t.1.2.1 ≠ [111, 114] ∧ t.1.2.1 ≠ [110, 111, 116]) (hM : (Job.lev 9 (t :: r)).wt ≤ M) :
    Calls Try.prog 58 #[.pointer (some ⟨pb, 0, none⟩)] w (RParPost pb A w (runJ (.lev 9 (t :: r))) false (t :: r)) := by
  obtain ⟨name, hname⟩ : ∃ name, name = t.1.2.1 := ⟨_, rfl⟩
  obtain ⟨ts, hts⟩ : ∃ ts, ts = r := ⟨_, rfl⟩
  have HTS := Lib.hid hts
  have hwt0 : WT t := by
    obtain ⟨_, _, _, _, _, _, _, _, _, _, _, h, _⟩ := hp.head
    exact h
  have HRES : Hid (runJ (.lev 9 (t :: r)) = argsRes name ts) := Lib.hid (by
    have hnm : isNm t.1.2.1 = true := by
      have h := hwt0.2.2.1 hk
      simp [isNm, wNot, hx, h.1]
      simpa using h.2
    rw [hts, runJ_prim]; unfold primJ argsRes; simp [hk, hname, hnm])
  have HQ : Hid (∀ (w : World) (ts' : List Tk) (bad : Bool), RPS w pb A ts' bad → ts'.length ≤ ts.tail.length → Calls Try.prog 24 #[.pointer (some ⟨pb, 0, none⟩), .int .i64 1] w (RParPost pb A w (runJ (.lev 1 ts')) bad ts')) := Lib.hid (fun w ts' bad h hl => H 1 (by omega) (by omega) w pb A ts' bad h (by rw [hts] at hl; simp only [Job.wt, List.length_cons, List.length_tail] at *; omega))
  have HKK := Lib.hid hk
  have HX := Lib.hid hx
  have HNAME := Lib.hid hname
  clear hk hx H hM hwt0 hname hts
  obtain ⟨w1, hw1⟩ : ∃ w1, w1 = w.alloc (.cells #[.int .i64 0, .string ⟨#[]⟩, .int .i64 0, .slice none 0 0] 38) := ⟨_, rfl⟩
  have HB1 : Hid (Below w.heap.size w w1) := Lib.hid (by rw [hw1]; exact below_alloc _ _)
  have HS1 : Hid (w1.heap.size = w.heap.size + 1) := Lib.hid (by rw [hw1]; simp)
  have HP1 := Lib.hid (hp.below HB1.out)
  have HTC : Hid (EC w1 w.heap.size eE none 0) := Lib.hid (by rw [hw1]; exact alloc_ec w eE none 0 _)
  have HLIM := Lib.hid hp.lim
  have HPL := Lib.hid hp.lt
  have HW1 := Lib.hid hw1
  obtain ⟨p, b, c1, hpl, hdrop, ha, hb, k0, k1, k2, k3, hwt, hb8⟩ := HP1.out.head
  have c0 := HP1.out.c0
  have c2 := HP1.out.c2
  rw [ha] at c0
  obtain ⟨N, hN⟩ : ∃ N, N = A.all.length := ⟨_, rfl⟩
  rw [← hN] at c0
  have hNi : (N : Int) ≤ 1000000 := by have := HLIM.out; omega
  have hpi : (p : Int) < (N : Int) := by omega
  have hpn : p < N := by omega
  have hpd : decide (N ≤ p) = false := decide_eq_false (by omega)
  have hpdi : decide ((N : Int) ≤ (p : Int)) = false := decide_eq_false (by omega)
  have hb8 := Lib.hid hb8
  have hwt := Lib.hid hwt
  have HBPB := Lib.hid hb
  clear hpl hdrop ha hb hN hw1
  go_enter Try.func58, Try.ntmps58
  go_upto_region 1 with fail
  rw [← HW1.out]
  go_quiet (fail)
  obtain ⟨wq, hwq⟩ : ∃ wq, wq = w1.drewN nq := ⟨_, rfl⟩
  rw [← hwq]
  have HBQ : Hid (Below w1.heap.size w1 wq) := Lib.hid (by rw [hwq]; exact BQ nq)
  have q0 := below_cell HBQ.out c0
  have q1 := below_cell HBQ.out c1
  have m0 := below_cell HBQ.out k0
  have m1 := below_cell HBQ.out k1
  have m2 := below_cell HBQ.out k2
  have m3 := below_cell HBQ.out k3
  clear hwq c0 c1 c2 k0 k1 k2 k3
  go_upto_region 4 with fail
  have hn1 : ¬ (b = wq.heap.size) := by have h1 := HPL.out; have h2 := HB1.out.size; have h3 := HBQ.out.size; have h4 := HBPB.out; omega
  have hn2 : ¬ (pb = wq.heap.size) := by have h1 := HPL.out; have h2 := HB1.out.size; have h3 := HBQ.out.size; omega
  have hn3 : ¬ (wq.heap.size = b) := fun e => hn1 e.symm
  have hn4 : ¬ (wq.heap.size = pb) := fun e => hn2 e.symm
  have hl1 : b < wq.heap.size := World.block_lt_of_cell? wq _ m0
  have hl2 : pb < wq.heap.size := World.block_lt_of_cell? wq _ q0
  go_region_held3 (fun w' => w'.cell? ⟨pb, 0, none⟩ = some (.slice (some ⟨b, 0, none⟩) N A.c) ∧ w'.cell? ⟨pb, 1, none⟩ = some (.int .i64 (p : Nat)) ∧ w'.cell? ⟨b, p * 4, none⟩ = some (.int .i64 (t.1.1 : Nat)) ∧ w'.cell? ⟨b, p * 4 + 1, none⟩ = some (.string (bs t.1.2.1)) ∧ w'.cell? ⟨b, p * 4 + 2, none⟩ = some (.int .i64 (t.1.2.2 : Nat)) ∧ w'.cell? ⟨b, p * 4 + 3, none⟩ = some (.int .i64 (t.2 : Nat))) (go_keep) (fail)
  obtain ⟨w4, hw4⟩ : ∃ w4, w4 = (wq.alloc (.cells #[.int .i64 (t.1.1 : Nat), .string (bs t.1.2.1), .int .i64 (t.1.2.2 : Nat), .int .i64 (t.2 : Nat)] 34)).drew := ⟨_, rfl⟩
  rw [← hw4]
  obtain ⟨bt, hbt⟩ : ∃ bt, bt = wq.heap.size := ⟨_, rfl⟩
  have HB4 : Hid (Below wq.heap.size wq w4) := Lib.hid (by rw [hw4]; exact (below_alloc _ _).drew)
  have HTK4 : Hid (TC w4 bt (t.1.1 : Nat) (bs t.1.2.1) (t.1.2.2 : Nat) (t.2 : Nat)) := Lib.hid (by
    have h := alloc_tc wq (t.1.1 : Nat) (bs t.1.2.1) (t.1.2.2 : Nat) (t.2 : Nat) 34
    rw [hw4, hbt]; exact ⟨h.c0, h.c1, h.c2, h.c3, h.fz⟩)
  have HBT : Hid (w.heap.size < bt) := Lib.hid (by have h1 := HBQ.out.size; have h2 := HS1.out; omega)
  have HP4 := Lib.hid (HP1.out.below (bthen HBQ.out HB4.out))
  have c1 := below_cell HB4.out q1
  have HC1 := Lib.hid c1
  have cf1 := HP4.out.fz 1
  have hp9 : (p : Int) ≤ 1000000 := by omega
  rw [← hbt]
  clear hw4 hbt hn1 hn2 hn3 hn4 hl1 hl2 q0 q1 m0 m1 m2 m3
  go_upto_region 6 with fail
  obtain ⟨w5, hw5⟩ : ∃ w5, w5 = w4.setCell ⟨pb, 1, none⟩ (.int .i64 ((p : Int) + 1)) := ⟨_, rfl⟩
  rw [← hw5]
  have HPS5 : Hid (RPS w5 pb A r false) := Lib.hid (by rw [hw5]; exact HP4.out.setAt HC1.out rfl)
  have HF45 : Hid (Fr (fun x => x = pb) w4 w5) := Lib.hid (by rw [hw5]; exact (Fr.refl (fun x => x = pb) w4).setCell (p := ⟨pb, 1, none⟩) rfl _)
  have HBTP : Hid (¬ (bt = pb)) := Lib.hid (by have := HBT.out; have := HPL.out; omega)
  have HF5 : Hid (Fr (fun x => x = pb) w w5) := Lib.hid ((Fr.of_below (S := fun x => x = pb) (bthen HB1.out (bthen HBQ.out HB4.out))).trans HF45.out)
  have HTK5 := Lib.hid (HTK4.out.fr HF45.out HBTP.out)
  have HTC5 : Hid (EC w5 w.heap.size eE none 0) := Lib.hid ((HTC.out.below (bthen HBQ.out HB4.out)).fr HF45.out (by have := HPL.out; omega))
  clear hw5 c1 cf1
  obtain ⟨z0, z1, z2, z3, zf⟩ := HTK5.out
  clear zf
  rw [HKK.out] at z0
  have f0 : ((bs t.1.2.1).toList == [97, 110, 100]) = false := sq_eq hb8.out [97, 110, 100] (by decide) _ rfl (by rw [beq_eq_false_iff_ne]; exact HX.out.1)
  have f1 : ((bs t.1.2.1).toList == [111, 114]) = false := sq_eq hb8.out [111, 114] (by decide) _ rfl (by rw [beq_eq_false_iff_ne]; exact HX.out.2.1)
  have f2 : ((bs t.1.2.1).toList == [110, 111, 116]) = false := sq_eq hb8.out [110, 111, 116] (by decide) _ rfl (by rw [beq_eq_false_iff_ne]; exact HX.out.2.2)
  rw [← HNAME.out] at z1 f0 f1 f2
  rw [← HTS.out] at HPS5
  go_upto_region 20 with (go_at_call 43; refine (rcall_any _ _ _ _ _).mono ?_; rintro e w6 ⟨rfl, hb6⟩)
  obtain ⟨w3, hw3⟩ : ∃ w3, w3 = w6.alloc (.cells #[.int .i64 4, .string (bs name), .int .i64 0, .slice none 0 0] 38) := ⟨_, rfl⟩
  rw [← hw3]
  have HB3 : Hid (Below w5.heap.size w5 w3) := Lib.hid (bthen hb6 (by rw [hw3]; exact below_alloc _ _))
  obtain ⟨be, hbe⟩ : ∃ be, be = w6.heap.size := ⟨_, rfl⟩
  have HEC3 : Hid (EC w3 be (callE name []) none 0) := Lib.hid (by rw [hw3, hbe]; exact alloc_ec w6 (callE name []) none 0 _)
  have HBE : Hid (w.heap.size < be) := Lib.hid (by have h1 := hb6.size; have h2 := HTK5.out.lt; have h3 := HBT.out; omega)
  have HBEP : Hid (¬ (be = pb)) := Lib.hid (by have := HBE.out; have := HPL.out; omega)
  have HPS3 := Lib.hid (HPS5.out.below HB3.out)
  have HTC3 := Lib.hid (HTC5.out.below HB3.out)
  have HFW3 : Hid (Fr (fun x => x = pb) w w3) := Lib.hid (HF5.out.trans (.of_below HB3.out))
  rw [← hbe]
  clear hw3 hbe hb6 z0 z1 z2 z3 f0 f1 f2
  obtain ⟨ts4, hts4⟩ : ∃ x, x = (if isT 5 [[40]] ts then ts.tail else ts) := ⟨_, rfl⟩
  obtain ⟨bad4, hbad4⟩ : ∃ x, x = (if isT 5 [[40]] ts then false else true) := ⟨_, rfl⟩
  have HMU : Hid (Calls Try.prog 59 #[.pointer (some ⟨pb, 0, none⟩), .string ⟨#[40]⟩] w3 fun e w' => e = .returned (.tuple #[]) ∧ RPS w' pb A ts4 bad4 ∧ Fr (fun x => x = pb) w3 w') := Lib.hid (by rw [hts4, hbad4]; exact must_any [40] (by simp) (by decide) HPS3.out)
  have HL4 : Hid (ts4.length ≤ ts.length) := Lib.hid (by rw [hts4]; split <;> simp)
  have HT4 : Hid (bad4 = false → ts4 = ts.tail) := Lib.hid (fun h => by
    rw [hbad4] at h; rw [hts4]
    split at h
    · rename_i h1; rw [if_pos h1]
    · cases h)
  have HR4 : Hid (if bad4 = true then argsRes name ts = none else argsRes name ts = if isT 5 [[41]] ts4 then some (callE name [], ts4.tail) else runJ (.args name [] ts4)) := Lib.hid (by
    rw [hts4, hbad4]; unfold argsRes
    cases isT 5 [[40]] ts <;> simp)
  clear hts4 hbad4
  go_upto_region 21 with (go_at_call 59; refine HMU.out.mono ?_; rintro e9 wm ⟨rfl, hps4, hf4⟩; have HPS4 := Lib.hid hps4; have HF4 := Lib.hid hf4; clear hps4 hf4)
  have HEC4 := Lib.hid (HEC3.out.fr HF4.out HBEP.out)
  have HTC4 := Lib.hid (HTC3.out.fr HF4.out (by have := HPL.out; omega))
  have HFW4 : Hid (Fr (fun x => x = pb) w wm) := Lib.hid (HFW3.out.trans HF4.out)
  have HIS := Lib.hid (is_any 5 [41] (by simp) (by omega) (fun t ht h4 he => ht.kind5 h4 (by decide) he) HPS4.out)
  change Hid (Calls Try.prog 42 #[.pointer (some ⟨pb, 0, none⟩), .string ⟨#[41]⟩] wm _) at HIS
  cases hi : isT 5 [[41]] ts4 with
  | true =>
    rw [hi] at HIS
    have HR5 : Hid (if bad4 = true then argsRes name ts = none else argsRes name ts = some (callE name [], ts4.tail)) := Lib.hid (by have := HR4.out; rw [hi] at this; exact this)
    obtain ⟨t9, r9, rfl⟩ : ∃ t9 r9, ts4 = t9 :: r9 := by
      cases ts4 with
      | nil => cases hi
      | cons a b => exact ⟨a, b, rfl⟩
    clear hi
    go_upto_region 22 with (go_at_call 42; refine HIS.out.mono ?_; rintro e9 wn ⟨rfl, hbn⟩; have HBN := Lib.hid hbn; clear hbn)
    have HPSN := Lib.hid (HPS4.out.below HBN.out)
    obtain ⟨p9, b9, c1, hpl9, -, -, -, -, -, -, -, -, -⟩ := HPSN.out.head
    have HC19 := Lib.hid c1
    have hp99 : (p9 : Int) ≤ 1000000 := by have := HLIM.out; omega
    have cf1 := HPSN.out.fz 1
    clear hpl9
    go_upto_region 23 with fail
    obtain ⟨wo, hwo⟩ : ∃ wo, wo = wn.setCell ⟨pb, 1, none⟩ (.int .i64 ((p9 : Int) + 1)) := ⟨_, rfl⟩
    rw [← hwo]
    have HPSO : Hid (RPS wo pb A r9 bad4) := Lib.hid (by rw [hwo]; exact HPSN.out.setAt HC19.out rfl)
    have HF6 : Hid (Fr (fun x => x = pb) wm wo) := Lib.hid (by rw [hwo]; exact (Fr.of_below (S := fun x => x = pb) HBN.out).setCell (p := ⟨pb, 1, none⟩) rfl _)
    clear hwo c1 cf1
    obtain ⟨x0, x1, x2, x3, xf⟩ := HEC4.out.fr HF6.out HBEP.out
    change wo.cell? ⟨be, 0, none⟩ = some (.int .i64 4) at x0
    change wo.cell? ⟨be, 1, none⟩ = some (.string (bs name)) at x1
    change wo.cell? ⟨be, 2, none⟩ = some (.int .i64 0) at x2
    change wo.cell? ⟨be, 3, none⟩ = some (.slice none 0 0) at x3
    obtain ⟨y0, y1, y2, y3, yf⟩ := HTC4.out.fr HF6.out (by have := HPL.out; omega)
    have yf0 := yf 0
    have yf1 := yf 1
    have yf2 := yf 2
    have yf3 := yf 3
    clear yf
    clear xf
    go_wp2
    exact bodyPost_ret (v := .agg #[.int .i64 4, .string (bs name), .int .i64 0, .slice none 0 0]) (by simp [results, Try.results58, go_sem, y0, y1, y2, y3]; try rfl) rfl (rfin_par (be := be) (e := callE name []) (rest := some (callE name [], r9)) HPSO.out (by simp [callE, Ex.args]) (.inl rfl) (HFW4.out.trans HF6.out) ⟨by have := HL4.out; have := HTS.out; subst this; simp only [List.length_cons] at *; omega, (fun h => by cases h), fun _ => by rw [HRES.out]; exact HR5.out⟩ (fun _ => rfl) (fr4 wo w.heap.size (.int .i64 4) (.string (bs name)) (.int .i64 0) (.slice none 0 0)) HPL.out)
  | false =>
    rw [hi] at HIS
    have HR6 : Hid (if bad4 = true then argsRes name ts = none else argsRes name ts = runJ (.args name [] ts4)) := Lib.hid (by have := HR4.out; rw [hi] at this; exact this)
    clear hi
    go_wp2_with (go_at_call 42; refine HIS.out.mono ?_; rintro e9 wn ⟨rfl, hbn⟩; have HBN := Lib.hid hbn; clear hbn)
    have HCH : Hid (RCHA w pb be A name (argsRes name ts) ts wn [] none 0 ts4 bad4) := Lib.hid ⟨HPS4.out.below HBN.out, HEC4.out.below HBN.out, World.ownsRow_nil _ _ _ _, (fun x hx => by cases hx), HFW4.out.trans (.of_below HBN.out), ⟨HL4.out, (fun h => by cases h), fun _ => HR6.out⟩, by have := HL4.out; simpa using this, fun h => by rw [HT4.out h]; omega⟩
    have HTCN := Lib.hid (HTC4.out.below HBN.out)
    go_loopg [119] (ts.length + 1) (fun gg nv wr => ∃ (L : List TV) (ra : Option Addr) (rc : Nat) (ts' : List Tk) (bad' : Bool), ts'.length + 1 ≤ gg ∧ RCHA w pb be A name (argsRes name ts) ts wr L ra rc ts' bad' ∧ EC wr w.heap.size eE none 0)
    case atStart => exact ⟨[], none, 0, ts4, bad4, by have := HL4.out; omega, HCH.out, HTCN.out⟩
    case round =>
      clear HCH HTCN HBN HIS HR6 HFW4 HTC4 HEC4 HPS4 HF4 HR4 HT4 HL4 HMU HFW3 HTC3 HPS3 HEC3 HB3 HTC5 HTK5 HF5 HF45 HPS5 HP4 HTK4 HB4 HBQ HC1
      obtain ⟨L, ra, rc, ts', bad', hgg, hch, htc⟩ := hrel
      have hps := hch.ps
      have HGQ := Lib.hid hgg
      have HCH := Lib.hid hch
      have HTCR := Lib.hid htc
      have HPS := Lib.hid hps
      have c2 := hps.c2
      clear hgg hps htc hch
      cases hbd : bad' with
      | true =>
        subst hbd
        obtain ⟨tsX, htsX⟩ : ∃ x, x = (if isT 5 [[41]] ts' then ts'.tail else ts') := ⟨_, rfl⟩
        have HLX : Hid (tsX.length ≤ ts.length) := Lib.hid (by
          have h1 := HCH.out.ln
          have h2 : tsX.length ≤ ts'.length := by rw [htsX]; split <;> simp
          omega)
        have HEX : Hid (Calls Try.prog 59 #[.pointer (some ⟨pb, 0, none⟩), .string ⟨#[41]⟩] wr fun e w' => e = .returned (.tuple #[]) ∧ RPS w' pb A tsX true ∧ Fr (fun x => x = pb) wr w') := Lib.hid (by
          have h := must_any [41] (by simp) (by decide) HPS.out
          rw [← htsX, ite_self] at h
          exact h)
        have HNO : Hid (argsRes name ts = none) := Lib.hid (by have := HCH.out.so.2.2 rfl; simpa using this)
        obtain ⟨E, hE⟩ : ∃ E, E = callE name (L.map (·.1)) := ⟨_, rfl⟩
        have HEE := Lib.hid hE
        clear htsX hE
        go_upto_region 29 with (go_at_call 59; refine HEX.out.mono ?_; rintro e9 w9 ⟨rfl, hps9, hf9⟩; have HPS9 := Lib.hid hps9; have HF9 := Lib.hid hf9; clear hps9 hf9)
        have HEC9 : Hid (EC w9 be E ra rc) := Lib.hid (by rw [HEE.out]; exact HCH.out.ec.fr HF9.out HBEP.out)
        obtain ⟨x0, x1, x2, x3, xf⟩ := HEC9.out
        obtain ⟨y0, y1, y2, y3, yf⟩ := HTCR.out.fr HF9.out (by have := HPL.out; omega)
        have yf0 := yf 0
        have yf1 := yf 1
        have yf2 := yf 2
        have yf3 := yf 3
        clear yf
        clear xf c2
        go_wp2
        exact bodyPost_ret (v := .agg #[.int .i64 E.kind, .string E.text, .int .i64 E.num, .slice ra E.args.length rc]) (by simp [results, Try.results58, go_sem, y0, y1, y2, y3]; try rfl) rfl (rfin_par (be := be) (e := E) (rest := none) HPS9.out (by rw [HEE.out]; simp only [callE, Ex.args, List.length_map]; exact Row.cap HCH.out.row) (by rw [HEE.out]; exact (HCH.out.rd HBE.out).fr HF9.out (fun i hi e => by have := HPL.out; omega)) (HCH.out.fr.trans HF9.out) ⟨by have := HLX.out; have := HTS.out; subst this; simp only [List.length_cons]; omega, (fun h => by cases h), fun _ => by rw [if_pos rfl, HRES.out]; exact HNO.out⟩ (fun h => by cases h) (fr4 w9 w.heap.size (.int .i64 E.kind) (.string E.text) (.int .i64 E.num) (.slice ra E.args.length rc)) HPL.out)
      | false =>
        subst hbd
        have HROW := Lib.hid HCH.out.row
        have hx3 : wr.cell? ⟨be, 3, none⟩ = some (.slice ra L.length rc) := by have := HCH.out.ec.c3; simpa [callE, Ex.args] using this
        have HX3 := Lib.hid hx3
        have HROWB : Hid (∀ g, (Value.slice ra L.length rc).ownBlock = some g → be < g) := Lib.hid (fun g hg => by have := (Row.block_lt HCH.out.row hg).2; omega)
        have HTL := Lib.hid (HCH.out.tl rfl)
        have HC6 := Lib.hid (HQ.out wr.drew ts' false HPS.out.drew HTL.out)
        have HLN := Lib.hid HCH.out.ln
        have HTSL : Hid (ts.length ≤ 1000000) := Lib.hid (by
          have h1 := HTS.out
          have h2 := HLIM.out
          obtain ⟨p8, _, h3, h4⟩ := HP1.out.c1
          have h5 := congrArg List.length h3
          rw [List.length_drop, List.length_cons] at h5
          subst h1; omega)
        have HBW : Hid (be < wr.heap.size) := Lib.hid HCH.out.ec.lt
        have hx3d : wr.drew.cell? ⟨be, 3, none⟩ = some (.slice ra L.length rc) := hx3
        go_wp2
        clear hx3
        go_region_law (first
          | (refine step_app_row_at (.tmp 122) (.tmp 125) EExpr rfl rfl (be + 1) (.slice ra L.length rc) L.length (cellsX L) rfl (Row.below HROW6.out (below_alloc w6 _)) (some ⟨_, 0, none⟩) 1 1 [.int .i64 t6.kind, .string t6.text, .int .i64 t6.num, .slice aa6 t6.args.length cc6] rfl (RdG.lits w6 4 38 1 [.int .i64 t6.kind, .string t6.text, .int .i64 t6.num, .slice aa6 t6.args.length cc6] rfl) (by simp [Value.oneCell']) (by have := HLN.out; have := HTSL.out; omega) (by decide) (by have := HBW.out; have := HW6.out; simp; omega) ?_; intro a7 c7 w7 hr7 hg7 hat7; have HR7 := Lib.hid hr7; have HG7 := Lib.hid hg7; have HAT7 := Lib.hid hat7; have HGF7 : Hid (Fr (fun x => (Value.slice ra L.length rc).ownBlock = some x) (w6.alloc (.cells #[.int .i64 t6.kind, .string t6.text, .int .i64 t6.num, .slice aa6 t6.args.length cc6] 38)) w7) := Lib.hid (Fr.of_grown hg7 (fun k hk => hk)); have HEC7 := Lib.hid ((HEC6.out.below (below_alloc _ _)).fr HGF7.out (fun e => by have := HROWB.out _ e; omega)); have p3 := HEC7.out.c3; have pf3 := HEC7.out.fz 3; clear hr7 hg7 hat7)
          | (go_simp; go_at_call 24; refine HC6.out.mono ?_; rintro e9 w6 ⟨t6, v6, ts6, bad6, rfl, ⟨aa6, cc6, rfl, hcc6, hra6⟩, hps6, hlen6, hf6, hb6, hb6'⟩; simp only [exV]; have HF6 : Hid (Fr (fun x => x = pb) wr w6) := Lib.hid ((Fr.refl (fun x => x = pb) wr).drew.trans hf6); have HEC6 := Lib.hid (HCH.out.ec.fr HF6.out HBEP.out); have HW6 := Lib.hid HF6.out.size; have HROW6 := Lib.hid (HROW.out.fr HF6.out (fun g hg e => by have h1 := HROWB.out g hg; have h2 := HBE.out; have h3 := HPL.out; omega)); have hx36 : w6.cell? ⟨be, 3, none⟩ = some (.slice ra L.length rc) := HF6.out.cell HX3.out HBEP.out; have hx3a : (w6.alloc (.cells #[.int .i64 t6.kind, .string t6.text, .int .i64 t6.num, .slice aa6 t6.args.length cc6] 38)).cell? ⟨be, 3, none⟩ = some (.slice ra L.length rc) := below_cell (below_alloc _ _) hx36))
        all_goals
          have hpsh := rps_push (a7 := a7) (c7 := c7) HROW.out (by have := HBE.out; have := HPL.out; omega) HGF7.out hps6
          have hpush := cha_push HEC6.out HROW.out HCH.out.tr HCH.out.fr HPL.out HBE.out HBW.out HF6.out hcc6 (hra6.mono (fun i _ hi => hi)) HR7.out HGF7.out HAT7.out
          obtain ⟨wA, hwA⟩ : ∃ wA, wA = w7.setCell ⟨be, 3, none⟩ (.slice a7 (L.length + 1) c7) := ⟨_, rfl⟩
          rw [← hwA] at hpush hpsh ⊢
          obtain ⟨hecA, hrowA, htrA, hfrA, -, htcA⟩ := hpush
          have HECA := Lib.hid hecA
          have HROWA := Lib.hid hrowA
          have HTRA := Lib.hid htrA
          have HFRA := Lib.hid hfrA
          have HPSA := Lib.hid hpsh
          have HTCA := Lib.hid (htcA (HTCR.out.fr HF6.out (by have := HPL.out; omega)))
          have HL6 := Lib.hid hlen6
          have HK6 := Lib.hid (hb6' (by first | rfl | trivial))
          have HSO := Lib.hid HCH.out.so
          clear hwA hecA hrowA htrA hfrA hpsh htcA hps6 hlen6 hb6 hb6' hf6 hra6 hcc6 hx3d hx36 hx3a p3 pf3
          obtain ⟨L', hL'⟩ : ∃ L', L' = L ++ [(t6, aa6, cc6)] := ⟨_, rfl⟩
          have HLL : Hid (L'.length = L.length + 1) := Lib.hid (by rw [hL']; simp)
          have HS7 : Hid (if bad6 = true then argsRes name ts = none else argsRes name ts = if isT 5 [[44]] ts6 then runJ (.args name (L'.map (·.1)) ts6.tail) else if isT 5 [[41]] ts6 then some (callE name (L'.map (·.1)), ts6.tail) else none) := Lib.hid (by
            have h1 := HSO.out.2.2 rfl
            rw [if_neg (by simp), runJ_args] at h1
            unfold argsJ at h1
            have h2 := HK6.out
            split at h2
            · rename_i hx; rw [if_pos hx, h1, h2]; rfl
            · rename_i hx; rw [if_neg hx, h1, h2, hL']; simp only [Option.bind_some, List.map_append, List.map_cons, List.map_nil])
          rw [← hL'] at HECA HROWA HTRA
          clear hL'
          have HIS7 := Lib.hid (is_any 5 [44] (by simp) (by omega) (fun t ht h4 he => ht.kind5 h4 (by decide) he) HPSA.out)
          change Hid (Calls Try.prog 42 #[.pointer (some ⟨pb, 0, none⟩), .string ⟨#[44]⟩] wA _) at HIS7
          have HRDA : Hid (RdA (fun i => w.heap.size < i ∧ i ≠ be) wA (L'.map (·.1)) a7) := Lib.hid (rdA_row L' HROWA.out (fun g hg => by have := (Row.block_lt HROWA.out hg).2; have := HBE.out; exact ⟨by omega, by omega⟩) (fun x hx => ⟨(HTRA.out x hx).1, (HTRA.out x hx).2.mono (fun i _ hi => ⟨hi.1, hi.2.1⟩)⟩))
          cases hi : isT 5 [[44]] ts6 with
          | true =>
            rw [hi] at HIS7
            have HS8 : Hid (if bad6 = true then argsRes name ts = none else argsRes name ts = runJ (.args name (L'.map (·.1)) ts6.tail)) := Lib.hid (by have := HS7.out; rw [hi] at this; exact this)
            obtain ⟨t9, r9, rfl⟩ : ∃ t9 r9, ts6 = t9 :: r9 := by
              cases ts6 with
              | nil => cases hi
              | cons a b => exact ⟨a, b, rfl⟩
            clear hi c2
            go_upto_region 27 with (go_at_call 42; refine HIS7.out.mono ?_; rintro e9 wB ⟨rfl, hbB⟩; have HBB := Lib.hid hbB; clear hbB)
            have HPSB := Lib.hid (HPSA.out.below HBB.out)
            obtain ⟨p9, b9, c1, hpl9, -, -, -, -, -, -, -, -, -⟩ := HPSB.out.head
            have HC19 := Lib.hid c1
            have hp99 : (p9 : Int) ≤ 1000000 := by have := HLIM.out; omega
            have cf1 := HPSB.out.fz 1
            clear hpl9
            go_wp2
            obtain ⟨wC, hwC⟩ : ∃ wC, wC = wB.setCell ⟨pb, 1, none⟩ (.int .i64 ((p9 : Int) + 1)) := ⟨_, rfl⟩
            rw [← hwC]
            have HPSC : Hid (RPS wC pb A r9 bad6) := Lib.hid (by rw [hwC]; exact HPSB.out.setAt HC19.out rfl)
            have HFC : Hid (Fr (fun x => x = pb) wB wC) := Lib.hid (by rw [hwC]; exact (Fr.refl (fun x => x = pb) wB).setCell (p := ⟨pb, 1, none⟩) rfl _)
            clear hwC c1 cf1
            go_roundg (r9.length + 1)
            case measure => have h1 := HGQ.out; have h2 := HL6.out; simp only [List.length_cons] at *; omega
            case rel =>
              have h6 := HL6.out
              have hll := HLL.out
              have hln := HLN.out
              have htl := HTL.out
              simp only [List.length_cons] at h6
              exact ⟨L', a7, c7, r9, bad6, by omega, ⟨HPSC.out, (HECA.out.below HBB.out).fr HFC.out HBEP.out, Row.fr (Row.below HROWA.out HBB.out) HFC.out (fun g hg e => by have := (Row.block_lt HROWA.out hg).2; have := HBE.out; have := HPL.out; omega), fun x hx => ⟨(HTRA.out x hx).1, ((HTRA.out x hx).2.below HBB.out).fr HFC.out (fun i hi e => by have := HPL.out; omega)⟩, (HFRA.out.trans (.of_below HBB.out)).trans HFC.out, ⟨by omega, (fun h => by cases h), fun _ => HS8.out⟩, by omega, fun _ => by omega⟩, (HTCA.out.below HBB.out).fr HFC.out (by have := HPL.out; omega)⟩
          | false =>
            rw [hi] at HIS7
            obtain ⟨tsX, htsX⟩ : ∃ x, x = (if isT 5 [[41]] ts6 then ts6.tail else ts6) := ⟨_, rfl⟩
            obtain ⟨badX, hbadX⟩ : ∃ x, x = (if isT 5 [[41]] ts6 then bad6 else true) := ⟨_, rfl⟩
            have HLX : Hid (tsX.length ≤ ts.length) := Lib.hid (by
              have h1 := HLN.out
              have h2 := HL6.out
              have h3 : tsX.length ≤ ts6.length := by rw [htsX]; split <;> simp
              omega)
            have HEX : Hid (∀ w9, Below wA.heap.size wA w9 → Calls Try.prog 59 #[.pointer (some ⟨pb, 0, none⟩), .string ⟨#[41]⟩] w9 fun e w' => e = .returned (.tuple #[]) ∧ RPS w' pb A tsX badX ∧ Fr (fun x => x = pb) w9 w') := Lib.hid (fun w9 h9 => by rw [htsX, hbadX]; exact must_any [41] (by simp) (by decide) (HPSA.out.below h9))
            have HNO : Hid (if badX = true then argsRes name ts = none else argsRes name ts = some (callE name (L'.map (·.1)), tsX)) := Lib.hid (by
              have h := HS7.out
              rw [hi] at h
              rw [htsX, hbadX]
              cases hx : isT 5 [[41]] ts6 with
              | true =>
                rw [hx] at h
                simpa using h
              | false =>
                rw [hx] at h
                simp only [Bool.false_eq_true, if_false, if_true] at h ⊢
                split at h <;> exact h)
            obtain ⟨E, hE⟩ : ∃ E, E = callE name (L'.map (·.1)) := ⟨_, rfl⟩
            have HEE := Lib.hid hE
            clear htsX hbadX hE hi c2
            go_upto_region 29 with (first
              | (go_at_call 42; refine HIS7.out.mono ?_; rintro e9 wB ⟨rfl, hbB⟩; have HBB := Lib.hid hbB; clear hbB)
              | (go_at_call 59; refine (HEX.out _ HBB.out).mono ?_; rintro e9 w9 ⟨rfl, hps9, hf9⟩; have HPS9 := Lib.hid hps9; have HF9 := Lib.hid hf9; clear hps9 hf9))
            have HEC9 : Hid (EC w9 be E a7 c7) := Lib.hid (by rw [HEE.out]; exact (HECA.out.below HBB.out).fr HF9.out HBEP.out)
            obtain ⟨x0, x1, x2, x3, xf⟩ := HEC9.out
            obtain ⟨y0, y1, y2, y3, yf⟩ := (HTCA.out.below HBB.out).fr HF9.out (by have := HPL.out; omega)
            have yf0 := yf 0
            have yf1 := yf 1
            have yf2 := yf 2
            have yf3 := yf 3
            clear yf
            clear xf
            go_wp2
            exact bodyPost_ret (v := .agg #[.int .i64 E.kind, .string E.text, .int .i64 E.num, .slice a7 E.args.length c7]) (by simp [results, Try.results58, go_sem, y0, y1, y2, y3]; try rfl) rfl (rfin_par (be := be) (e := E) (rest := some (E, tsX)) HPS9.out (by rw [HEE.out]; simp only [callE, Ex.args, List.length_map]; exact Row.cap HROWA.out) (by rw [HEE.out]; exact (HRDA.out.below HBB.out).fr HF9.out (fun i hi e => by have := HPL.out; omega)) ((HFRA.out.trans (.of_below HBB.out)).trans HF9.out) ⟨by have := HLX.out; have := HTS.out; subst this; simp only [List.length_cons]; omega, (fun h => by cases h), fun _ => by rw [HEE.out, HRES.out]; exact HNO.out⟩ (fun _ => rfl) (fr4 w9 w.heap.size (.int .i64 E.kind) (.string E.text) (.int .i64 E.num) (.slice a7 E.args.length c7)) HPL.out)

end Go.Proofs.Ytpabngicbfcdkaa
