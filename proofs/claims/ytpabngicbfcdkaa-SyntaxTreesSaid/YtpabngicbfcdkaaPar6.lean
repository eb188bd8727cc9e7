/-
  The parser: post.
-/
import Derived.Test.YtpabngicbfcdkaaPar5
namespace Go.Proofs.Ytpabngicbfcdkaa
open Go.RowKit
set_option linter.unusedVariables false
set_option linter.unusedSimpArgs false

theorem post_sofar {all : Res} {bad bad6 bad8 : Bool} {ts r0 ts6 ts8 : List Tk} {t0 : Tk} {e t6 t8 : Ex} (hi : isT 5 [[91]] (t0 :: r0) = true) (hs : Sofar all (runJ (.post e (t0 :: r0))) bad false ts (t0 :: r0))
    (h6l : ts6.length ≤ r0.length) (h6 : if bad6 = true then runJ (.lev 1 r0) = none else runJ (.lev 1 r0) = some (t6, ts6))
    (h8l : ts8.length ≤ (if isT 5 [[58]] ts6 then ts6.tail else ts6).length) (h8b : (if isT 5 [[58]] ts6 then bad6 else true) = true → bad8 = true)
    (h8 : (if isT 5 [[58]] ts6 then bad6 else true) = false → if bad8 = true then runJ (.lev 1 (if isT 5 [[58]] ts6 then ts6.tail else ts6)) = none else runJ (.lev 1 (if isT 5 [[58]] ts6 then ts6.tail else ts6)) = some (t8, ts8)) :
    Sofar all (runJ (.post (callE wCut [e, t6, t8]) (if isT 5 [[93]] ts8 then ts8.tail else ts8))) bad (if isT 5 [[93]] ts8 then bad8 else true) ts (if isT 5 [[93]] ts8 then ts8.tail else ts8) ∧ (if isT 5 [[93]] ts8 then ts8.tail else ts8).length ≤ r0.length := by
  have hl : (if isT 5 [[93]] ts8 then ts8.tail else ts8).length ≤ ts8.length := by split <;> simp
  have hl6 : (if isT 5 [[58]] ts6 then ts6.tail else ts6).length ≤ ts6.length := by split <;> simp
  have hlt := hs.1
  simp only [List.length_cons] at hlt
  refine ⟨⟨by omega, fun h => absurd (hs.2.1 h) (by simp), fun h => ?_⟩, by omega⟩
  have h1 := hs.2.2 h
  rw [if_neg (by simp), runJ_post] at h1
  unfold postJ at h1
  rw [hi, if_pos rfl, List.tail_cons] at h1
  rw [h1]
  cases hb6 : bad6 with
  | true =>
    rw [hb6] at h6 h8b
    rw [if_pos rfl] at h6
    have h8t := h8b (by split <;> rfl)
    rw [h6, h8t]
    rw [if_pos (by split <;> rfl)]
    rfl
  | false =>
    rw [hb6, if_neg (by simp)] at h6
    rw [h6]
    simp only [Option.bind_some]
    cases hc : isT 5 [[58]] ts6 with
    | false =>
      rw [hc] at h8b
      have h8t := h8b rfl
      rw [h8t, if_pos (by split <;> rfl)]
      rfl
    | true =>
      rw [hc, hb6] at h8
      have h8 := h8 rfl
      simp only [if_true] at h8 ⊢
      cases hb8 : bad8 with
      | true =>
        rw [hb8, if_pos rfl] at h8
        rw [h8, if_pos (by split <;> rfl)]
        rfl
      | false =>
        rw [hb8, if_neg (by simp)] at h8
        rw [h8]
        simp only [Option.bind_some]
        cases hd : isT 5 [[93]] ts8 with
        | false => simp
        | true => simp

def CHP (w : World) (pb be : Nat) (all : Res) (bad : Bool) (ts : List Tk) (wr : World) (e : Ex) (ts' : List Tk) (bad' : Bool) : Prop :=
  (∃ a c, PS wr pb a c ts' bad') ∧ (∃ aa cc, EC wr be e aa cc ∧ e.args.length ≤ cc ∧ RdA (fun i => w.heap.size < i ∧ i ≠ be) wr e.args aa) ∧ Fr (fun x => x = pb) w wr ∧
  Sofar all (runJ (.post e ts')) bad bad' ts ts'

set_option maxRecDepth 100000 in
set_option maxHeartbeats 3000000 in
theorem lev8_any (M : Nat) (H : Spec M) (w : World) (pb : Nat) (a : Option Addr) (c : Nat) (ts : List Tk) (bad : Bool) (hp : PS w pb a c ts bad) (hM : (Job.lev 8 ts).wt ≤ M) :
    Calls Try.prog 67 #[.pointer (some ⟨pb, 0, none⟩)] w (ParPost pb w (runJ (.lev 8 ts)) bad ts) := by
  obtain ⟨w1, hw1⟩ : ∃ w1, w1 = w.alloc (.cells #[.int .i64 0, .string ⟨#[]⟩, .int .i64 0, .slice none 0 0] 38) := ⟨_, rfl⟩
  have HB1 : Hid (Below w.heap.size w w1) := Lib.hid (by rw [hw1]; exact below_alloc _ _)
  have HS1 : Hid (w1.heap.size = w.heap.size + 1) := Lib.hid (by rw [hw1]; simp)
  have HTC : Hid (EC w1 w.heap.size eE none 0) := Lib.hid (by rw [hw1]; exact alloc_ec w eE none 0 _)
  have HP1 := Lib.hid (hp.below HB1.out)
  have HC1 : Hid (Calls Try.prog 68 #[.pointer (some ⟨pb, 0, none⟩)] w1 (ParPost pb w1 (runJ (.lev 9 ts)) bad ts)) := Lib.hid (H 9 (by omega) (by omega) w1 pb a c ts bad HP1.out (by simp only [Job.wt] at *; omega))
  have HPL := Lib.hid hp.lt
  have HW1 := Lib.hid hw1
  have HM := Lib.hid hM
  have HQ : Hid (∀ (w : World) (a : Option Addr) (c : Nat) (ts' : List Tk) (bad : Bool), PS w pb a c ts' bad → ts'.length < ts.length → Calls Try.prog 22 #[.pointer (some ⟨pb, 0, none⟩)] w (ParPost pb w (runJ (.lev 1 ts')) bad ts')) := Lib.hid (fun w a c ts' bad h hl => H 1 (by omega) (by omega) w pb a c ts' bad h (by simp only [Job.wt] at *; omega))
  clear H hw1 hp hM
  go_enter Try.func67, Try.ntmps67
  go_upto_region 1 with fail
  rw [← HW1.out]
  go_wp2_with (refine HC1.out.mono ?_; rintro e w2 ⟨t, v, a2, c2, ts2, bad2, rfl, ⟨aa, cc, rfl, hcc, hra⟩, hps, hlen, hf, hb1, hb2⟩; simp only [exV])
  obtain ⟨w3, hw3⟩ : ∃ w3, w3 = w2.alloc (.cells #[.int .i64 t.kind, .string t.text, .int .i64 t.num, .slice aa t.args.length cc] 38) := ⟨_, rfl⟩
  rw [← hw3]
  have hb3 : Below w2.heap.size w2 w3 := by rw [hw3]; exact below_alloc _ _
  obtain ⟨be, hbe⟩ : ∃ be, be = w2.heap.size := ⟨_, rfl⟩
  have hec : EC w3 be t aa cc := by rw [hw3, hbe]; exact alloc_ec _ _ _ _ _
  have HBE : Hid (w.heap.size < be) := Lib.hid (by have h1 := hf.size; have h2 := HS1.out; omega)
  have HBEP : Hid (¬ (be = pb)) := Lib.hid (by have := HBE.out; have := HPL.out; omega)
  have HCH : Hid (CHP w pb be (runJ (.lev 8 ts)) bad ts w3 t ts2 bad2) := Lib.hid ⟨⟨a2, c2, hps.below hb3⟩, ⟨aa, cc, hec, hcc, (hra.mono (fun i h1 h2 => ⟨by have := HS1.out; omega, by omega⟩)).below hb3⟩, (Fr.of_below (S := fun x => x = pb) HB1.out).trans (hf.trans (.of_below hb3)), hlen, hb1, fun h => by
    have h2 := hb2 h
    rw [runJ_pst]
    split at h2
    · rename_i hx; rw [if_pos hx, h2]; rfl
    · rename_i hx; rw [if_neg hx, h2]; rfl⟩
  have HTC3 : Hid (EC w3 w.heap.size eE none 0) := Lib.hid ((HTC.out.fr hf (by have := HPL.out; omega)).below hb3)
  rw [← hbe]
  clear hw3 hb3 hbe hec hcc hra hps hlen hf hb1 hb2
  go_loopg [4] (ts.length + 1) (fun gg nv wr => ∃ (e : Ex) (ts' : List Tk) (bad' : Bool), ts'.length + 1 ≤ gg ∧ CHP w pb be (runJ (.lev 8 ts)) bad ts wr e ts' bad' ∧ EC wr w.heap.size eE none 0)
  case atStart => exact ⟨t, ts2, bad2, by have := HCH.out.2.2.2.1; omega, HCH.out, HTC3.out⟩
  case round =>
    clear HCH HTC3
    obtain ⟨e, ts', bad', hgg, ⟨⟨a', c', hps⟩, ⟨aa, cc, hec, hcc, hra⟩, hfr, hso⟩, htc⟩ := hrel
    have HGQ := Lib.hid hgg
    have HPS := Lib.hid hps
    have HRA := Lib.hid hra
    have HFR := Lib.hid hfr
    have HSO := Lib.hid hso
    have HCC := Lib.hid hcc
    have HEC := Lib.hid hec
    have HTCR := Lib.hid htc
    have c1 := hps.c1
    obtain ⟨w4, hw4⟩ : ∃ w4, w4 = wr.alloc (.cells #[.string ⟨#[91]⟩] 9) := ⟨_, rfl⟩
    have HB4 : Hid (Below wr.heap.size wr w4) := Lib.hid (by rw [hw4]; exact below_alloc _ _)
    have HPS4 := Lib.hid (hps.below HB4.out)
    have HAT : Hid (Calls Try.prog 54 #[.pointer (some ⟨pb, 0, none⟩), .int .i64 5, .slice (some ⟨wr.heap.size, 0, none⟩) 1 1] w4 fun e w' => e = .returned (.bool (isT 5 [[91]] ts')) ∧ w4 = w') := Lib.hid (at_any 5 [[91]] (by simp) (by omega) (by simp) wr.heap.size 1 w4 (fun j hj => by
      have hj : j < 1 := hj
      rw [hw4]
      match j, hj with
      | 0, _ => simp; rfl) HPS4.out)
    have HW4 := Lib.hid hw4
    clear hgg hps hra hfr hso hcc hec htc hw4
    cases hbd : bad' with
    | true =>
      subst hbd
      obtain ⟨x0, x1, x2, x3, xf⟩ := HEC.out
      obtain ⟨y0, y1, y2, y3, yf⟩ := HTCR.out
      have yf0 := yf 0
      have yf1 := yf 1
      have yf2 := yf 2
      have yf3 := yf 3
      clear xf yf
      go_wp2
      exact bodyPost_ret (v := .agg #[.int .i64 e.kind, .string e.text, .int .i64 e.num, .slice aa e.args.length cc]) (by simp [results, Try.results67, go_sem, y0, y1, y2, y3]; try rfl) rfl (fin_par HPS.out HCC.out HRA.out HFR.out HSO.out (fun h => by cases h) (fr4 wr w.heap.size (.int .i64 e.kind) (.string e.text) (.int .i64 e.num) (.slice aa e.args.length cc)) HPL.out)
    | false =>
      subst hbd
      have HEC4 := Lib.hid (HEC.out.below HB4.out)
      have HTC4 := Lib.hid (HTCR.out.below HB4.out)
      cases hi : isT 5 [[91]] ts' with
      | false =>
        rw [hi] at HAT
        have HRES : Hid (runJ (.post e ts') = some (e, ts')) := Lib.hid (by rw [runJ_post]; unfold postJ; rw [hi]; rfl)
        obtain ⟨x0, x1, x2, x3, xf⟩ := HEC4.out
        obtain ⟨y0, y1, y2, y3, yf⟩ := HTC4.out
        have yf0 := yf 0
        have yf1 := yf 1
        have yf2 := yf 2
        have yf3 := yf 3
        clear hi xf yf
        go_wp2_with (rw [← HW4.out]; refine HAT.out.mono ?_; rintro e9 w9 ⟨rfl, rfl⟩)
        exact bodyPost_ret (v := .agg #[.int .i64 e.kind, .string e.text, .int .i64 e.num, .slice aa e.args.length cc]) (by simp [results, Try.results67, go_sem, y0, y1, y2, y3]; try rfl) rfl (fin_par HPS4.out HCC.out (HRA.out.below HB4.out) (HFR.out.trans (.of_below HB4.out)) HSO.out (fun _ => HRES.out) (fr4 w4 w.heap.size (.int .i64 e.kind) (.string e.text) (.int .i64 e.num) (.slice aa e.args.length cc)) HPL.out)
      | true =>
        obtain ⟨t0, r0, rfl⟩ : ∃ t0 r0, ts' = t0 :: r0 := by
          cases ts' with
          | nil => cases hi
          | cons a b => exact ⟨a, b, rfl⟩
        rw [hi] at HAT
        have HI := Lib.hid hi
        have HRL : Hid (r0.length < ts.length) := Lib.hid (by have := HSO.out.1; simp only [List.length_cons] at this; omega)
        have HTK := Lib.hid (take_any HPS4.out)
        simp only [hdV, tokV, TakePost, List.isEmpty, Bool.or_false, List.tail_cons] at HTK
        clear hi
        go_upto_region 5 with (first
          | (go_at_call 54; rw [← HW4.out]; refine HAT.out.mono ?_; rintro e9 w9 ⟨rfl, rfl⟩)
          | (go_at_call 55; refine HTK.out.mono ?_; rintro e9 w5 ⟨rfl, ⟨a5, c5, hps5⟩, hf5⟩; have HPS5 := Lib.hid hps5; have HF5 := Lib.hid hf5; clear hps5 hf5)
          | (go_at_call 22; refine (HQ.out _ _ _ _ _ HPS5.out HRL.out).mono ?_; rintro e9 w6 ⟨t6, v6, a6, c6, ts6, bad6, rfl, ⟨aa6, cc6, rfl, hcc6, hra6⟩, hps6, hlen6, hf6, hb6, hb6'⟩; simp only [exV]))
        obtain ⟨w7, hw7⟩ : ∃ w7, w7 = w6.alloc (.cells #[.int .i64 t6.kind, .string t6.text, .int .i64 t6.num, .slice aa6 t6.args.length cc6] 38) := ⟨_, rfl⟩
        rw [← hw7]
        have HB7 : Hid (Below w6.heap.size w6 w7) := Lib.hid (by rw [hw7]; exact below_alloc _ _)
        obtain ⟨bf, hbf⟩ : ∃ bf, bf = w6.heap.size := ⟨_, rfl⟩
        have HECB : Hid (EC w7 bf t6 aa6 cc6) := Lib.hid (by rw [hw7, hbf]; exact alloc_ec _ _ _ _ _)
        have HF47 : Hid (Fr (fun x => x = pb) w4 w7) := Lib.hid (HF5.out.trans (hf6.trans (.of_below HB7.out)))
        have HBW : Hid (be < w4.heap.size) := Lib.hid HEC4.out.lt
        have HBF : Hid (w4.heap.size ≤ bf) := Lib.hid (by have h1 := HF5.out.size; have h2 := hf6.size; omega)
        have HRT7 : Hid (RdA (fun i => w.heap.size < i ∧ i ≠ be) w7 t6.args aa6) := Lib.hid ((hra6.mono (fun i h1 h2 => ⟨by have := HBE.out; have := HBW.out; have := HF5.out.size; omega, by have := HBW.out; have := HF5.out.size; omega⟩)).below HB7.out)
        have HPS7 := Lib.hid (hps6.below HB7.out)
        have HCC6 := Lib.hid hcc6
        have HLEN6 := Lib.hid hlen6
        have HK6 := Lib.hid (hb6' rfl)
        obtain ⟨ts7, hts7⟩ : ∃ x, x = (if isT 5 [[58]] ts6 then ts6.tail else ts6) := ⟨_, rfl⟩
        obtain ⟨bad7, hbad7⟩ : ∃ x, x = (if isT 5 [[58]] ts6 then bad6 else true) := ⟨_, rfl⟩
        have HTS7 := Lib.hid hts7
        have HBAD7 := Lib.hid hbad7
        have HEX : Hid (Calls Try.prog 69 #[.pointer (some ⟨pb, 0, none⟩), .string ⟨#[58]⟩] w7 fun e w' => e = .returned (.tuple #[]) ∧ (∃ a' c', PS w' pb a' c' ts7 bad7) ∧ Fr (fun x => x = pb) w7 w') := Lib.hid (by rw [hts7, hbad7]; exact expect_any [58] (by simp) HPS7.out)
        have HL7 : Hid (ts7.length < ts.length) := Lib.hid (by
          have h1 := HLEN6.out
          have h2 := HRL.out
          have h3 : ts7.length ≤ ts6.length := by rw [hts7]; split <;> simp
          omega)
        clear hts7 hbad7
        rw [← hbf]
        clear hw7 hbf hra6 hps6 hcc6 hlen6 hb6 hb6' hf6 c1
        go_upto_region 7 with (first
          | (go_at_call 69; refine HEX.out.mono ?_; rintro e9 w8 ⟨rfl, ⟨a8, c8, hps8⟩, hf8⟩; have HPS8 := Lib.hid hps8; have HF8 := Lib.hid hf8; clear hps8 hf8)
          | (go_at_call 22; refine (HQ.out _ _ _ _ _ HPS8.out HL7.out).mono ?_; rintro e9 w9 ⟨t9, v9, a9, c9, ts9, bad9, rfl, ⟨aa9, cc9, rfl, hcc9, hra9⟩, hps9, hlen9, hf9, hb9, hb9'⟩; simp only [exV]))
        obtain ⟨w10, hw10⟩ : ∃ w10, w10 = w9.alloc (.cells #[.int .i64 t9.kind, .string t9.text, .int .i64 t9.num, .slice aa9 t9.args.length cc9] 38) := ⟨_, rfl⟩
        rw [← hw10]
        have HB10 : Hid (Below w9.heap.size w9 w10) := Lib.hid (by rw [hw10]; exact below_alloc _ _)
        obtain ⟨bn, hbn⟩ : ∃ bn, bn = w9.heap.size := ⟨_, rfl⟩
        have HECC : Hid (EC w10 bn t9 aa9 cc9) := Lib.hid (by rw [hw10, hbn]; exact alloc_ec _ _ _ _ _)
        have HF810 : Hid (Fr (fun x => x = pb) w7 w10) := Lib.hid (HF8.out.trans (hf9.trans (.of_below HB10.out)))
        have HBN : Hid (w7.heap.size ≤ bn) := Lib.hid (by have h1 := HF8.out.size; have h2 := hf9.size; omega)
        have HS7 : Hid (w4.heap.size ≤ w7.heap.size) := Lib.hid HF47.out.size
        have HRT10 : Hid (RdA (fun i => w.heap.size < i ∧ i ≠ be) w10 t9.args aa9) := Lib.hid ((hra9.mono (fun i h1 h2 => ⟨by have := HBE.out; have := HBW.out; have := HF8.out.size; have := HS7.out; omega, by have := HBW.out; have := HF8.out.size; have := HS7.out; omega⟩)).below HB10.out)
        have HPS10 := Lib.hid (hps9.below HB10.out)
        have HCC9 := Lib.hid hcc9
        have HPSO := Lib.hid (post_sofar (t8 := t9) (ts8 := ts9) (bad8 := bad9) HI.out HSO.out HLEN6.out HK6.out (by rw [← HTS7.out]; exact hlen9) (by rw [← HBAD7.out]; exact hb9) (by rw [← HTS7.out, ← HBAD7.out]; exact hb9'))
        obtain ⟨tsX, htsX⟩ : ∃ x, x = (if isT 5 [[93]] ts9 then ts9.tail else ts9) := ⟨_, rfl⟩
        obtain ⟨badX, hbadX⟩ : ∃ x, x = (if isT 5 [[93]] ts9 then bad9 else true) := ⟨_, rfl⟩
        rw [← htsX, ← hbadX] at HPSO
        have HEX2 : Hid (Calls Try.prog 69 #[.pointer (some ⟨pb, 0, none⟩), .string ⟨#[93]⟩] w10 fun e w' => e = .returned (.tuple #[]) ∧ (∃ a' c', PS w' pb a' c' tsX badX) ∧ Fr (fun x => x = pb) w10 w') := Lib.hid (by rw [htsX, hbadX]; exact expect_any [93] (by simp) HPS10.out)
        rw [← hbn]
        clear hw10 hbn hra9 hps9 hcc9 hlen9 hb9 hb9' hf9 htsX hbadX
        have HBFP : Hid (¬ (bf = pb)) := Lib.hid (by have := HBF.out; have := HBW.out; have := HBE.out; have := HPL.out; omega)
        have HBNP : Hid (¬ (bn = pb)) := Lib.hid (by have := HBN.out; have := HS7.out; have := HBW.out; have := HBE.out; have := HPL.out; omega)
        go_upto_region 8 with (go_at_call 69; refine HEX2.out.mono ?_; rintro e9 w11 ⟨rfl, ⟨a11, c11, hps11⟩, hf11⟩; have HPS11 := Lib.hid hps11; have HF11 := Lib.hid hf11; clear hps11 hf11)
        have HF411 : Hid (Fr (fun x => x = pb) w4 w11) := Lib.hid ((HF47.out.trans HF810.out).trans HF11.out)
        have HECA := Lib.hid (HEC4.out.fr HF411.out HBEP.out)
        obtain ⟨x0, x1, x2, x3, xf⟩ := HECA.out
        obtain ⟨z0, z1, z2, z3, zf⟩ := (HECB.out.fr (HF810.out.trans HF11.out) HBFP.out)
        obtain ⟨q0, q1, q2, q3, qf⟩ := (HECC.out.fr HF11.out HBNP.out)
        clear xf zf qf
        go_wp2_with (go_at_call 56; refine (call_any _ _ _ _ _).mono ?_; rintro e9 w12 ⟨rfl, hb12⟩; have HEC12 := Lib.hid ((HECA.out.below (below_alloc _ _)).below hb12); obtain ⟨p0, p1, p2, p3, pf⟩ := HEC12.out; have pf0 := pf 0; have pf1 := pf 1; have pf2 := pf 2; have pf3 := pf 3; clear pf)
        have HB1112 := Lib.hid (bthen (below_alloc w11 (.cells #[.int .i64 e.kind, .string e.text, .int .i64 e.num, .slice aa e.args.length cc, .int .i64 t6.kind, .string t6.text, .int .i64 t6.num, .slice aa6 t6.args.length cc6, .int .i64 t9.kind, .string t9.text, .int .i64 t9.num, .slice aa9 t9.args.length cc9] 38)) hb12)
        have HW11 : Hid (w4.heap.size ≤ w11.heap.size) := Lib.hid HF411.out.size
        have HTG : Hid (w.heap.size < w11.heap.size ∧ w11.heap.size ≠ be) := Lib.hid ⟨by have := HBE.out; have := HBW.out; have := HW11.out; omega, by have := HBW.out; have := HW11.out; omega⟩
        have HNP : Hid (∀ i, (w.heap.size < i ∧ i ≠ be) → ¬ (i = pb)) := Lib.hid (fun i hi e => by have := HPL.out; omega)
        have HRB : Hid (RdA (fun i => w.heap.size < i ∧ i ≠ be) w12 [e, t6, t9] (some ⟨w11.heap.size, 0, none⟩)) := Lib.hid ((rdA_block [(e, aa, cc), (t6, aa6, cc6), (t9, aa9, cc9)] (heap_new_at rfl) rfl HTG.out (fun x hx => by
          rcases List.mem_cons.1 hx with rfl | hx
          · exact ⟨HCC.out, ((HRA.out.below HB4.out).fr HF411.out HNP.out).below (below_alloc _ _)⟩
          · rcases List.mem_cons.1 hx with rfl | hx
            · exact ⟨HCC6.out, (HRT7.out.fr (HF810.out.trans HF11.out) HNP.out).below (below_alloc _ _)⟩
            · rcases List.mem_cons.1 hx with rfl | hx
              · exact ⟨HCC9.out, (HRT10.out.fr HF11.out HNP.out).below (below_alloc _ _)⟩
              · cases hx)).below hb12)
        have HPS12 := Lib.hid (HPS11.out.below HB1112.out)
        have HF412 : Hid (Fr (fun x => x = pb) w4 w12) := Lib.hid (HF411.out.trans (.of_below HB1112.out))
        clear x0 x1 x2 x3 z0 z1 z2 z3 q0 q1 q2 q3 p0 p1 p2 p3 pf0 pf1 pf2 pf3 hb12
        obtain ⟨wf, hwf⟩ : ∃ wf, wf = ((((w12.setCell ⟨be, 0, none⟩ (.int .i64 4)).setCell ⟨be, 1, none⟩ (.string ⟨#[99, 117, 116]⟩)).setCell ⟨be, 2, none⟩ (.int .i64 0)).setCell ⟨be, 3, none⟩ (.slice (some ⟨w11.heap.size, 0, none⟩) 3 3)) := ⟨_, rfl⟩
        rw [← hwf]
        have HFF : Hid (Fr (fun x => x = be) w12 wf) := Lib.hid (by rw [hwf]; exact fr4 w12 be _ _ _ _)
        have HECF : Hid (EC wf be (callE wCut [e, t6, t9]) (some ⟨w11.heap.size, 0, none⟩) 3) := Lib.hid (by rw [hwf]; exact set_ec HEC12.out (callE wCut [e, t6, t9]) (some ⟨w11.heap.size, 0, none⟩) 3)
        clear hwf
        go_roundg (r0.length + 1)
        case measure => have := HGQ.out; simp only [List.length_cons] at this; omega
        case rel =>
          exact ⟨callE wCut [e, t6, t9], tsX, badX, by have := HPSO.out.2; omega, ⟨⟨a11, c11, HPS12.out.fr HFF.out (fun e => HBEP.out e.symm) (fun x hx _ e => by have := HPS12.out.ap x hx; have := HPL.out; have := HBE.out; omega)⟩, ⟨_, _, HECF.out, by simp [callE, Ex.args], HRB.out.fr HFF.out (fun i hi e => hi.2 e)⟩, ((HFR.out.trans (.of_below HB4.out)).trans HF412.out).then HFF.out (fun i e => .inr (by have := HBE.out; omega)), HPSO.out.1⟩, (HTC4.out.fr HF412.out (by have := HPL.out; omega)).fr HFF.out (by have := HBE.out; omega)⟩

end Go.Proofs.Ytpabngicbfcdkaa
