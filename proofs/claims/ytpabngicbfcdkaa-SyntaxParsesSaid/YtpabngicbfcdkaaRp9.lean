/-
  The reference's parser: post; every level.
-/
import Derived.Test.YtpabngicbfcdkaaRp8
namespace Go.Proofs.Ytpabngicbfcdkaa
open Go.RowKit
set_option linter.unusedVariables false
set_option linter.unusedSimpArgs false

theorem rprim_any (M : Nat) (H : RSpec M) (w : World) (pb : Nat) (A : RA) (ts : List Tk) (bad : Bool) (hp : RPS w pb A ts bad) (hM : (Job.lev 9 ts).wt ≤ M) :
    Calls Try.prog 58 #[.pointer (some ⟨pb, 0, none⟩)] w (RParPost pb A w (runJ (.lev 9 ts)) bad ts) := by
  cases bad with
  | true => exact prim_end w pb A ts true hp (.inl rfl)
  | false =>
    cases ts with
    | nil => exact prim_end w pb A [] false hp (.inr rfl)
    | cons t r =>
      have hwt : WT t := by
        obtain ⟨_, _, _, _, _, _, _, _, _, _, _, h, _⟩ := hp.head
        exact h
      have hk : t.1.1 = 1 ∨ t.1.1 = 2 ∨ t.1.1 = 3 ∨ t.1.1 = 4 ∨ t.1.1 = 5 := by have := hwt.1; have := hwt.2.1; omega
      rcases hk with h | h | h | h | h
      · exact prim_num w pb A t r hp h
      · exact prim_str w pb A t r hp h
      · exact prim_ref w pb A t r hp h
      · by_cases e1 : t.1.2.1 = [97, 110, 100]
        · exact prim_and w pb A t r hp h e1
        by_cases e2 : t.1.2.1 = [111, 114]
        · exact prim_or w pb A t r hp h e2
        by_cases e3 : t.1.2.1 = [110, 111, 116]
        · exact prim_not w pb A t r hp h e3
        · exact prim_word M H w pb A t r hp h ⟨e1, e2, e3⟩ hM
      · by_cases e1 : t.1.2.1 = [40]
        · exact prim_par M H w pb A t r hp h e1 hM
        · exact prim_sign w pb A t r hp h e1

def RCHP (w : World) (pb be : Nat) (A : RA) (all : Res) (bad : Bool) (ts : List Tk) (wr : World) (e : Ex) (ts' : List Tk) (bad' : Bool) : Prop :=
  RPS wr pb A ts' bad' ∧ (∃ aa cc, EC wr be e aa cc ∧ e.args.length ≤ cc ∧ RdA (fun i => w.heap.size < i ∧ i ≠ be) wr e.args aa) ∧ Fr (fun x => x = pb) w wr ∧
  Sofar all (runJ (.post e ts')) bad bad' ts ts'

set_option maxRecDepth 100000 in
set_option maxHeartbeats 3000000 in
theorem rpost_any (M : Nat) (H : RSpec M) (w : World) (pb : Nat) (A : RA) (ts : List Tk) (bad : Bool) (hp : RPS w pb A ts bad) (hM : (Job.lev 8 ts).wt ≤ M) :
    Calls Try.prog 44 #[.pointer (some ⟨pb, 0, none⟩)] w (RParPost pb A w (runJ (.lev 8 ts)) bad ts) := by
  obtain ⟨w1, hw1⟩ : ∃ w1, w1 = w.alloc (.cells #[.int .i64 0, .string ⟨#[]⟩, .int .i64 0, .slice none 0 0] 38) := ⟨_, rfl⟩
  have HB1 : Hid (Below w.heap.size w w1) := Lib.hid (by rw [hw1]; exact below_alloc _ _)
  have HS1 : Hid (w1.heap.size = w.heap.size + 1) := Lib.hid (by rw [hw1]; simp)
  have HP1 := Lib.hid (hp.below HB1.out)
  have HTC : Hid (EC w1 w.heap.size eE none 0) := Lib.hid (by rw [hw1]; exact alloc_ec w eE none 0 _)
  have HLIM := Lib.hid hp.lim
  have HPL := Lib.hid hp.lt
  have HW1 := Lib.hid hw1
  have HC1 := Lib.hid (rprim_any M H w1 pb A ts bad HP1.out (by simp only [Job.wt] at *; omega))
  have HM := Lib.hid hM
  have HQ : Hid (∀ (w : World) (ts' : List Tk) (bad : Bool), RPS w pb A ts' bad → ts'.length < ts.length → Calls Try.prog 24 #[.pointer (some ⟨pb, 0, none⟩), .int .i64 1] w (RParPost pb A w (runJ (.lev 1 ts')) bad ts')) := Lib.hid (fun w ts' bad h hl => H 1 (by omega) (by omega) w pb A ts' bad h (by simp only [Job.wt] at *; omega))
  clear H hw1 hp hM
  go_enter Try.func44, Try.ntmps44
  go_upto_region 1 with fail
  rw [← HW1.out]
  go_wp2_with (go_at_call 58; refine HC1.out.mono ?_; rintro e w2 ⟨t, v, ts2, bad2, rfl, ⟨aa, cc, rfl, hcc, hra⟩, hps, hlen, hf, hb1, hb2⟩; simp only [exV])
  obtain ⟨w3, hw3⟩ : ∃ w3, w3 = w2.alloc (.cells #[.int .i64 t.kind, .string t.text, .int .i64 t.num, .slice aa t.args.length cc] 38) := ⟨_, rfl⟩
  rw [← hw3]
  have hb3 : Below w2.heap.size w2 w3 := by rw [hw3]; exact below_alloc _ _
  obtain ⟨be, hbe⟩ : ∃ be, be = w2.heap.size := ⟨_, rfl⟩
  have hec : EC w3 be t aa cc := by rw [hw3, hbe]; exact alloc_ec _ _ _ _ _
  have HBE : Hid (w.heap.size < be) := Lib.hid (by have h1 := hf.size; have h2 := HS1.out; omega)
  have HBEP : Hid (¬ (be = pb)) := Lib.hid (by have := HBE.out; have := HPL.out; omega)
  have HCH : Hid (RCHP w pb be A (runJ (.lev 8 ts)) bad ts w3 t ts2 bad2) := Lib.hid ⟨hps.below hb3, ⟨aa, cc, hec, hcc, (hra.mono (fun i h1 h2 => ⟨by have := HS1.out; omega, by omega⟩)).below hb3⟩, (Fr.of_below (S := fun x => x = pb) HB1.out).trans (hf.trans (.of_below hb3)), hlen, hb1, fun h => by
    have h2 := hb2 h
    rw [runJ_pst]
    split at h2
    · rename_i hx; rw [if_pos hx, h2]; rfl
    · rename_i hx; rw [if_neg hx, h2]; rfl⟩
  have HTC3 : Hid (EC w3 w.heap.size eE none 0) := Lib.hid ((HTC.out.fr hf (by have := HPL.out; omega)).below hb3)
  rw [← hbe]
  clear hw3 hb3 hbe hec hcc hra hps hlen hf hb1 hb2
  go_loopg [4, 5] (ts.length + 1) (fun gg nv mv wr => ∃ (e : Ex) (ts' : List Tk) (bad' : Bool), ts'.length + 1 ≤ gg ∧ RCHP w pb be A (runJ (.lev 8 ts)) bad ts wr e ts' bad' ∧ EC wr w.heap.size eE none 0)
  case atStart => exact ⟨t, ts2, bad2, by have := HCH.out.2.2.2.1; omega, HCH.out, HTC3.out⟩
  case round =>
    clear HCH HTC3
    obtain ⟨e, ts', bad', hgg, ⟨hps, ⟨aa, cc, hec, hcc, hra⟩, hfr, hso⟩, htc⟩ := hrel
    have HGQ := Lib.hid hgg
    have HPS := Lib.hid hps
    have HRA := Lib.hid hra
    have HFR := Lib.hid hfr
    have HSO := Lib.hid hso
    have HCC := Lib.hid hcc
    have HEC := Lib.hid hec
    have HTCR := Lib.hid htc
    have c2 := hps.c2
    have HIS : Hid (Calls Try.prog 42 #[.pointer (some ⟨pb, 0, none⟩), .string ⟨#[91]⟩] wr fun e w' => e = .returned (.bool (isT 5 [[91]] ts')) ∧ Below wr.heap.size wr w') := Lib.hid (is_any 5 [91] (by simp) (by omega) (fun t ht h4 he => ht.kind5 h4 (by decide) he) hps)
    clear hgg hps hra hfr hso hcc hec htc
    cases hbd : bad' with
    | true =>
      subst hbd
      obtain ⟨x0, x1, x2, x3, xf⟩ := HEC.out
      obtain ⟨y0, y1, y2, y3, yf⟩ := HTCR.out
      have yf0 := yf 0
      have yf1 := yf 1
      have yf2 := yf 2
      have yf3 := yf 3
      clear yf
      clear xf
      go_wp2
      exact bodyPost_ret (v := .agg #[.int .i64 e.kind, .string e.text, .int .i64 e.num, .slice aa e.args.length cc]) (by simp [results, Try.results44, go_sem, y0, y1, y2, y3]; try rfl) rfl (rfin_par HPS.out HCC.out HRA.out HFR.out HSO.out (fun h => by cases h) (fr4 wr w.heap.size (.int .i64 e.kind) (.string e.text) (.int .i64 e.num) (.slice aa e.args.length cc)) HPL.out)
    | false =>
      subst hbd
      cases hi : isT 5 [[91]] ts' with
      | false =>
        rw [hi] at HIS
        have HRES : Hid (runJ (.post e ts') = some (e, ts')) := Lib.hid (by rw [runJ_post]; unfold postJ; rw [hi]; rfl)
        clear hi
        go_wp2_with (go_at_call 42; refine HIS.out.mono ?_; rintro e9 w4 ⟨rfl, hb4⟩; have HB4 := Lib.hid hb4; obtain ⟨x0, x1, x2, x3, xf⟩ := HEC.out.below hb4; obtain ⟨y0, y1, y2, y3, yf⟩ := HTCR.out.below hb4; have yf0 := yf 0; have yf1 := yf 1; have yf2 := yf 2; have yf3 := yf 3; clear xf yf hb4)
        exact bodyPost_ret (v := .agg #[.int .i64 e.kind, .string e.text, .int .i64 e.num, .slice aa e.args.length cc]) (by simp [results, Try.results44, go_sem, y0, y1, y2, y3]; try rfl) rfl (rfin_par (HPS.out.below HB4.out) HCC.out (HRA.out.below HB4.out) (HFR.out.trans (.of_below HB4.out)) HSO.out (fun _ => HRES.out) (fr4 w4 w.heap.size (.int .i64 e.kind) (.string e.text) (.int .i64 e.num) (.slice aa e.args.length cc)) HPL.out)
      | true =>
        obtain ⟨t0, r0, rfl⟩ : ∃ t0 r0, ts' = t0 :: r0 := by
          cases ts' with
          | nil => cases hi
          | cons a b => exact ⟨a, b, rfl⟩
        rw [hi] at HIS
        have HI := Lib.hid hi
        have HRL : Hid (r0.length < ts.length) := Lib.hid (by have := HSO.out.1; simp only [List.length_cons] at this; omega)
        clear hi
        go_upto_region 3 with (go_at_call 42; refine HIS.out.mono ?_; rintro e9 w4 ⟨rfl, hb4⟩; have HB4 := Lib.hid hb4; clear hb4)
        have HPS4 := Lib.hid (HPS.out.below HB4.out)
        have HEC4 := Lib.hid (HEC.out.below HB4.out)
        have HTC4 := Lib.hid (HTCR.out.below HB4.out)
        obtain ⟨p, b, c1, hpl, -, -, -, -, -, -, -, -, -⟩ := HPS4.out.head
        have hp9 : (p : Int) ≤ 1000000 := by have := HLIM.out; omega
        have HC19 := Lib.hid c1
        have cf1 := HPS4.out.fz 1
        clear hpl c2
        go_upto_region 4 with fail
        obtain ⟨w5, hw5⟩ : ∃ w5, w5 = w4.setCell ⟨pb, 1, none⟩ (.int .i64 ((p : Int) + 1)) := ⟨_, rfl⟩
        rw [← hw5]
        have HPS5 : Hid (RPS w5 pb A r0 false) := Lib.hid (by rw [hw5]; exact HPS4.out.setAt HC19.out rfl)
        have HF5 : Hid (Fr (fun x => x = pb) w4 w5) := Lib.hid (by rw [hw5]; exact (Fr.refl (fun x => x = pb) w4).setCell (p := ⟨pb, 1, none⟩) rfl _)
        clear hw5 c1 cf1
        go_upto_region 5 with (go_at_call 24; refine (HQ.out _ _ _ HPS5.out HRL.out).mono ?_; rintro e9 w6 ⟨t6, v6, ts6, bad6, rfl, ⟨aa6, cc6, rfl, hcc6, hra6⟩, hps6, hlen6, hf6, hb6, hb6'⟩; simp only [exV])
        obtain ⟨w7, hw7⟩ : ∃ w7, w7 = w6.alloc (.cells #[.int .i64 t6.kind, .string t6.text, .int .i64 t6.num, .slice aa6 t6.args.length cc6] 38) := ⟨_, rfl⟩
        rw [← hw7]
        have HB7 : Hid (Below w6.heap.size w6 w7) := Lib.hid (by rw [hw7]; exact below_alloc _ _)
        obtain ⟨bf, hbf⟩ : ∃ bf, bf = w6.heap.size := ⟨_, rfl⟩
        have HECB : Hid (EC w7 bf t6 aa6 cc6) := Lib.hid (by rw [hw7, hbf]; exact alloc_ec _ _ _ _ _)
        have HF47 : Hid (Fr (fun x => x = pb) w4 w7) := Lib.hid (HF5.out.trans (hf6.trans (.of_below HB7.out)))
        have HBW : Hid (be < w4.heap.size) := Lib.hid HEC4.out.lt
        have HBF : Hid (w4.heap.size ≤ bf) := Lib.hid (by have h1 := HF5.out.size; have h2 := hf6.size; omega)
        have HRT7 : Hid (RdA (fun i => w.heap.size < i ∧ i ≠ be) w7 t6.args aa6) := Lib.hid ((hra6.mono (fun i h1 h2 => ⟨by have := HBE.out; have := HBW.out; have := HF5.out.size; omega, by have := HBW.out; have := HF5.out.size; omega⟩)).below HB7.out)
        have HPS7 := Lib.hid (hps6.below HB7.out)
        have HCC6 := Lib.hid hcc6
        have HLEN6 := Lib.hid hlen6
        have HK6 := Lib.hid (hb6' rfl)
        obtain ⟨ts7, hts7⟩ : ∃ x, x = (if isT 5 [[58]] ts6 then ts6.tail else ts6) := ⟨_, rfl⟩
        obtain ⟨bad7, hbad7⟩ : ∃ x, x = (if isT 5 [[58]] ts6 then bad6 else true) := ⟨_, rfl⟩
        have HTS7 := Lib.hid hts7
        have HBAD7 := Lib.hid hbad7
        have HEX : Hid (Calls Try.prog 59 #[.pointer (some ⟨pb, 0, none⟩), .string ⟨#[58]⟩] w7 fun e w' => e = .returned (.tuple #[]) ∧ RPS w' pb A ts7 bad7 ∧ Fr (fun x => x = pb) w7 w') := Lib.hid (by rw [hts7, hbad7]; exact must_any [58] (by simp) (by decide) HPS7.out)
        have HL7 : Hid (ts7.length < ts.length) := Lib.hid (by
          have h1 := HLEN6.out
          have h2 := HRL.out
          have h3 : ts7.length ≤ ts6.length := by rw [hts7]; split <;> simp
          omega)
        clear hts7 hbad7
        rw [← hbf]
        clear hw7 hbf hra6 hps6 hcc6 hlen6 hb6 hb6' hf6
        go_upto_region 7 with (first
          | (go_at_call 59; refine HEX.out.mono ?_; rintro e9 w8 ⟨rfl, hps8, hf8⟩; have HPS8 := Lib.hid hps8; have HF8 := Lib.hid hf8; clear hps8 hf8)
          | (go_at_call 24; refine (HQ.out _ _ _ HPS8.out HL7.out).mono ?_; rintro e9 w9 ⟨t9, v9, ts9, bad9, rfl, ⟨aa9, cc9, rfl, hcc9, hra9⟩, hps9, hlen9, hf9, hb9, hb9'⟩; simp only [exV]))
        obtain ⟨w10, hw10⟩ : ∃ w10, w10 = w9.alloc (.cells #[.int .i64 t9.kind, .string t9.text, .int .i64 t9.num, .slice aa9 t9.args.length cc9] 38) := ⟨_, rfl⟩
        rw [← hw10]
        have HB10 : Hid (Below w9.heap.size w9 w10) := Lib.hid (by rw [hw10]; exact below_alloc _ _)
        obtain ⟨bn, hbn⟩ : ∃ bn, bn = w9.heap.size := ⟨_, rfl⟩
        have HECC : Hid (EC w10 bn t9 aa9 cc9) := Lib.hid (by rw [hw10, hbn]; exact alloc_ec _ _ _ _ _)
        have HF810 : Hid (Fr (fun x => x = pb) w7 w10) := Lib.hid (HF8.out.trans (hf9.trans (.of_below HB10.out)))
        have HBN : Hid (w7.heap.size ≤ bn) := Lib.hid (by have h1 := HF8.out.size; have h2 := hf9.size; omega)
        have HS7 : Hid (w4.heap.size ≤ w7.heap.size) := Lib.hid HF47.out.size
        have HRT10 : Hid (RdA (fun i => w.heap.size < i ∧ i ≠ be) w10 t9.args aa9) := Lib.hid ((hra9.mono (fun i h1 h2 => ⟨by have := HBE.out; have := HBW.out; have := HF8.out.size; have := HS7.out; omega, by have := HBW.out; have := HF8.out.size; have := HS7.out; omega⟩)).below HB10.out)
        have HPS10 := Lib.hid (hps9.below HB10.out)
        have HCC9 := Lib.hid hcc9
        have HPSO := Lib.hid (post_sofar (t8 := t9) (ts8 := ts9) (bad8 := bad9) HI.out HSO.out HLEN6.out HK6.out (by rw [← HTS7.out]; exact hlen9) (by rw [← HBAD7.out]; exact hb9) (by rw [← HTS7.out, ← HBAD7.out]; exact hb9'))
        obtain ⟨tsX, htsX⟩ : ∃ x, x = (if isT 5 [[93]] ts9 then ts9.tail else ts9) := ⟨_, rfl⟩
        obtain ⟨badX, hbadX⟩ : ∃ x, x = (if isT 5 [[93]] ts9 then bad9 else true) := ⟨_, rfl⟩
        rw [← htsX, ← hbadX] at HPSO
        have HEX2 : Hid (Calls Try.prog 59 #[.pointer (some ⟨pb, 0, none⟩), .string ⟨#[93]⟩] w10 fun e w' => e = .returned (.tuple #[]) ∧ RPS w' pb A tsX badX ∧ Fr (fun x => x = pb) w10 w') := Lib.hid (by rw [htsX, hbadX]; exact must_any [93] (by simp) (by decide) HPS10.out)
        rw [← hbn]
        clear hw10 hbn hra9 hps9 hcc9 hlen9 hb9 hb9' hf9 htsX hbadX
        have HBFP : Hid (¬ (bf = pb)) := Lib.hid (by have := HBF.out; have := HBW.out; have := HBE.out; have := HPL.out; omega)
        have HBNP : Hid (¬ (bn = pb)) := Lib.hid (by have := HBN.out; have := HS7.out; have := HBW.out; have := HBE.out; have := HPL.out; omega)
        go_upto_region 8 with (go_at_call 59; refine HEX2.out.mono ?_; rintro e9 w11 ⟨rfl, hps11, hf11⟩; have HPS11 := Lib.hid hps11; have HF11 := Lib.hid hf11; clear hps11 hf11)
        have HF411 : Hid (Fr (fun x => x = pb) w4 w11) := Lib.hid ((HF47.out.trans HF810.out).trans HF11.out)
        have HECA := Lib.hid (HEC4.out.fr HF411.out HBEP.out)
        obtain ⟨x0, x1, x2, x3, xf⟩ := HECA.out
        obtain ⟨z0, z1, z2, z3, zf⟩ := (HECB.out.fr (HF810.out.trans HF11.out) HBFP.out)
        obtain ⟨q0, q1, q2, q3, qf⟩ := (HECC.out.fr HF11.out HBNP.out)
        clear xf zf qf
        go_wp2_with (go_at_call 43; refine (rcall_any _ _ _ _ _).mono ?_; rintro e9 w12 ⟨rfl, hb12⟩; have HEC12 := Lib.hid ((HECA.out.below (below_alloc _ _)).below hb12); obtain ⟨p0, p1, p2, p3, pf⟩ := HEC12.out; have pf0 := pf 0; have pf1 := pf 1; have pf2 := pf 2; have pf3 := pf 3; clear pf)
        have HB1112 := Lib.hid (bthen (below_alloc w11 (.cells #[.int .i64 e.kind, .string e.text, .int .i64 e.num, .slice aa e.args.length cc, .int .i64 t6.kind, .string t6.text, .int .i64 t6.num, .slice aa6 t6.args.length cc6, .int .i64 t9.kind, .string t9.text, .int .i64 t9.num, .slice aa9 t9.args.length cc9] 38)) hb12)
        have HW11 : Hid (w4.heap.size ≤ w11.heap.size) := Lib.hid HF411.out.size
        have HTG : Hid (w.heap.size < w11.heap.size ∧ w11.heap.size ≠ be) := Lib.hid ⟨by have := HBE.out; have := HBW.out; have := HW11.out; omega, by have := HBW.out; have := HW11.out; omega⟩
        have HNP : Hid (∀ i, (w.heap.size < i ∧ i ≠ be) → ¬ (i = pb)) := Lib.hid (fun i hi e => by have := HPL.out; omega)
        have HRB : Hid (RdA (fun i => w.heap.size < i ∧ i ≠ be) w12 [e, t6, t9] (some ⟨w11.heap.size, 0, none⟩)) := Lib.hid ((rdA_block [(e, aa, cc), (t6, aa6, cc6), (t9, aa9, cc9)] (heap_new_at rfl) rfl HTG.out (fun x hx => by
          rcases List.mem_cons.1 hx with rfl | hx
          · exact ⟨HCC.out, ((HRA.out.below HB4.out).fr HF411.out HNP.out).below (below_alloc _ _)⟩
          · rcases List.mem_cons.1 hx with rfl | hx
            · exact ⟨HCC6.out, (HRT7.out.fr (HF810.out.trans HF11.out) HNP.out).below (below_alloc _ _)⟩
            · rcases List.mem_cons.1 hx with rfl | hx
              · exact ⟨HCC9.out, (HRT10.out.fr HF11.out HNP.out).below (below_alloc _ _)⟩
              · cases hx)).below hb12)
        have HPS12 := Lib.hid (HPS11.out.below HB1112.out)
        have HF412 : Hid (Fr (fun x => x = pb) w4 w12) := Lib.hid (HF411.out.trans (.of_below HB1112.out))
        clear x0 x1 x2 x3 z0 z1 z2 z3 q0 q1 q2 q3 p0 p1 p2 p3 pf0 pf1 pf2 pf3 hb12
        obtain ⟨wf, hwf⟩ : ∃ wf, wf = ((((w12.setCell ⟨be, 0, none⟩ (.int .i64 4)).setCell ⟨be, 1, none⟩ (.string ⟨#[99, 117, 116]⟩)).setCell ⟨be, 2, none⟩ (.int .i64 0)).setCell ⟨be, 3, none⟩ (.slice (some ⟨w11.heap.size, 0, none⟩) 3 3)) := ⟨_, rfl⟩
        rw [← hwf]
        have HFF : Hid (Fr (fun x => x = be) w12 wf) := Lib.hid (by rw [hwf]; exact fr4 w12 be _ _ _ _)
        have HECF : Hid (EC wf be (callE wCut [e, t6, t9]) (some ⟨w11.heap.size, 0, none⟩) 3) := Lib.hid (by rw [hwf]; exact set_ec HEC12.out (callE wCut [e, t6, t9]) (some ⟨w11.heap.size, 0, none⟩) 3)
        clear hwf
        go_roundg (r0.length + 1)
        case measure => have := HGQ.out; simp only [List.length_cons] at this; omega
        case rel =>
          exact ⟨callE wCut [e, t6, t9], tsX, badX, by have := HPSO.out.2; omega, ⟨HPS12.out.fr HFF.out (fun i hi e => by have := HPL.out; have := HBE.out; omega), ⟨_, _, HECF.out, by simp [callE, Ex.args], HRB.out.fr HFF.out (fun i hi e => hi.2 e)⟩, ((HFR.out.trans (.of_below HB4.out)).trans HF412.out).then HFF.out (fun i e => .inr (by have := HBE.out; omega)), HPSO.out.1⟩, (HTC4.out.fr HF412.out (by have := HPL.out; omega)).fr HFF.out (by have := HBE.out; omega)⟩

set_option maxRecDepth 100000 in
set_option maxHeartbeats 1500000 in
theorem rlev8_any (M : Nat) (H : RSpec M) (w : World) (pb : Nat) (A : RA) (ts : List Tk) (bad : Bool) (hp : RPS w pb A ts bad) (hM : (Job.lev 8 ts).wt ≤ M) :
    Calls Try.prog 24 #[.pointer (some ⟨pb, 0, none⟩), .int .i64 8] w (RParPost pb A w (runJ (.lev 8 ts)) bad ts) := by
  obtain ⟨w1, hw1⟩ : ∃ w1, w1 = w.alloc (.cells #[.int .i64 0, .string ⟨#[]⟩, .int .i64 0, .slice none 0 0] 38) := ⟨_, rfl⟩
  have HB1 : Hid (Below w.heap.size w w1) := Lib.hid (by rw [hw1]; exact below_alloc _ _)
  have HS1 : Hid (w1.heap.size = w.heap.size + 1) := Lib.hid (by rw [hw1]; simp)
  have HP1 := Lib.hid (hp.below HB1.out)
  have HTC : Hid (EC w1 w.heap.size eE none 0) := Lib.hid (by rw [hw1]; exact alloc_ec w eE none 0 _)
  have HLIM := Lib.hid hp.lim
  have HPL := Lib.hid hp.lt
  have HW1 := Lib.hid hw1
  have HC1 := Lib.hid (rpost_any M H w1 pb A ts bad HP1.out hM)
  clear H hw1 hp hM
  go_enter Try.func24, Try.ntmps24
  go_upto_region 1 with fail
  rw [← HW1.out]
  go_wp2_with (go_at_call 44; refine HC1.out.mono ?_; rintro e w2 ⟨t, v, ts2, bad2, rfl, ⟨aa, cc, rfl, hcc, hra⟩, hps, hlen, hf, hb1, hb2⟩; simp only [exV]; have HEC3 := Lib.hid (HTC.out.fr hf (by have := HPL.out; omega)); obtain ⟨y0, y1, y2, y3, yf⟩ := HEC3.out; have yf0 := yf 0; have yf1 := yf 1; have yf2 := yf 2; have yf3 := yf 3; have HRA := Lib.hid hra; have HPS := Lib.hid hps; have HF := Lib.hid hf; have HSO := Lib.hid (RParPost.sofar hlen hb1 hb2); have HCC := Lib.hid hcc; clear hra hps hf hb1 hb2 yf hlen hcc)
  exact bodyPost_ret (v := .agg #[.int .i64 t.kind, .string t.text, .int .i64 t.num, .slice aa t.args.length cc]) (by simp [results, Try.results24, go_sem, y0, y1, y2, y3]; try rfl) rfl (rfin_par (be := 0) HPS.out HCC.out (HRA.out.mono (fun i _ hi => ⟨by have h2 := HS1.out; omega, by have h2 := HS1.out; omega⟩)) ((Fr.of_below (S := fun x => x = pb) HB1.out).trans HF.out) HSO.out (fun _ => rfl) (fr4 w2 w.heap.size (.int .i64 t.kind) (.string t.text) (.int .i64 t.num) (.slice aa t.args.length cc)) HPL.out)

theorem rspec_all : ∀ M, RSpec M
  | 0 => fun n _ _ w pb A ts bad _ h => absurd h (by omega)
  | M + 1 => fun n h1 h8 w pb A ts bad hp h => by
    have ih := rspec_all M
    have hM : (Job.lev n ts).wt ≤ M := by omega
    by_cases e3 : n = 3
    · subst e3; exact rlev3_any M ih w pb A ts bad hp hM
    by_cases e8 : n = 8
    · subst e8; exact rlev8_any M ih w pb A ts bad hp hM
    by_cases e4 : n = 4
    · exact rlev4_any n e4 M ih w pb A ts bad hp hM
    · exact rlev_any n h1 (by omega) e3 e4 M ih w pb A ts bad hp hM

end Go.Proofs.Ytpabngicbfcdkaa
