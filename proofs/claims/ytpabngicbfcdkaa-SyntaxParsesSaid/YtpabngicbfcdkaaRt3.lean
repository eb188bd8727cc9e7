/-
  The reference's Parse.
-/
import Derived.Test.YtpabngicbfcdkaaRt2
namespace Go.Proofs.Ytpabngicbfcdkaa
open Go.RowKit
set_option linter.unusedVariables false
set_option linter.unusedSimpArgs false

def RParsePost (w : World) (s : ByteArray) (e : Ending) (w' : World) : Prop :=
  ∃ aa cc, e = .returned (.tuple #[exV (parseP s).2 aa cc, .int .i64 ((parseP s).1 : Nat)]) ∧ (parseP s).2.args.length ≤ cc ∧ RdA (fun i => w.heap.size ≤ i) w' (parseP s).2.args aa ∧ Below w.heap.size w w'

set_option maxRecDepth 100000 in
set_option maxHeartbeats 1500000 in
/-- where Tokens fails -/
theorem rparse_bad (s : ByteArray) (w : World) (k : Nat) (hk : (k = 4 ∨ k = 9)) (hpp : parseP s = (k, eE))
    (HT : ∀ w1, Calls Try.prog 8 #[.string s] w1 fun e w' => e = .returned (.tuple #[.slice none 0 0, .int .i64 (k : Nat)]) ∧ Below w1.heap.size w1 w') : Calls Try.prog 12 #[.string s] w (RParsePost w s) := by
  obtain ⟨w1, hw1⟩ : ∃ w1, w1 = w.alloc (.cells #[.int .i64 0, .string ⟨#[]⟩, .int .i64 0, .slice none 0 0] 38) := ⟨_, rfl⟩
  have HB1 : Hid (Below w.heap.size w w1) := Lib.hid (by rw [hw1]; exact below_alloc _ _)
  have HS1 : Hid (w1.heap.size = w.heap.size + 1) := Lib.hid (by rw [hw1]; simp)
  have HTC : Hid (EC w1 w.heap.size eE none 0) := Lib.hid (by rw [hw1]; exact alloc_ec w eE none 0 _)
  have HW1 := Lib.hid hw1
  have HT1 := Lib.hid (HT w1)
  have HPP := Lib.hid hpp
  have hk0 : ((k : Int) == 0) = false := by rw [beq_eq_false_iff_ne]; omega
  have hk1 : ((k : Int) != 0) = true := by simp; omega
  clear hw1 HT hpp hk
  go_enter Try.func12, Try.ntmps12
  go_upto_region 1 with fail
  rw [← HW1.out]
  go_wp2_with (go_at_call 8; refine HT1.out.mono ?_; rintro e w2 ⟨rfl, hb2⟩; have HB2 := Lib.hid hb2; obtain ⟨y0, y1, y2, y3, yf⟩ := HTC.out.below hb2; have yf0 := yf 0; have yf1 := yf 1; have yf2 := yf 2; have yf3 := yf 3; clear yf hb2)
  refine bodyPost_ret (v := .tuple #[.agg #[.int .i64 0, .string ⟨#[]⟩, .int .i64 0, .slice none 0 0], .int .i64 (k : Nat)]) (by simp [results, Try.results12, go_sem, y0, y1, y2, y3]; try rfl) rfl ⟨none, 0, by rw [HPP.out]; rfl, by rw [HPP.out]; simp [eE, Ex.args], by rw [HPP.out]; exact .inl rfl, ?_⟩
  exact (bthen HB1.out HB2.out).trans ((fr4 w2 w.heap.size (.int .i64 0) (.string ⟨#[]⟩) (.int .i64 0) (.slice none 0 0)).below (fun i e => by omega) (bthen HB1.out HB2.out).size)

set_option maxRecDepth 100000 in
set_option maxHeartbeats 3000000 in
/-- where Tokens succeeds -/
theorem rparse_toks (s : ByteArray) (w : World) (ts : List Tk) (hs : s.size ≤ 4096) (hts : toksP (ns s) = some ts) (hl : ts.length ≤ 4096) : Calls Try.prog 12 #[.string s] w (RParsePost w s) := by
  obtain ⟨w1, hw1⟩ : ∃ w1, w1 = w.alloc (.cells #[.int .i64 0, .string ⟨#[]⟩, .int .i64 0, .slice none 0 0] 38) := ⟨_, rfl⟩
  have HB1 : Hid (Below w.heap.size w w1) := Lib.hid (by rw [hw1]; exact below_alloc _ _)
  have HS1 : Hid (w1.heap.size = w.heap.size + 1) := Lib.hid (by rw [hw1]; simp)
  have HTC : Hid (EC w1 w.heap.size eE none 0) := Lib.hid (by rw [hw1]; exact alloc_ec w eE none 0 _)
  have HW1 := Lib.hid hw1
  have HT : Hid (Calls Try.prog 8 #[.string s] w1 fun e w' => ∃ a c, e = .returned (.tuple #[.slice a ts.length c, .int .i64 0]) ∧ Row w' w1.heap.size 34 4 (.slice a ts.length c) ts.length (cellsT ts) ∧ Below w1.heap.size w1 w') := Lib.hid ((rtokens_any s w1 (by omega)).mono (fun e w' h => by
    obtain ⟨h1, h2⟩ := h
    rcases h1 with ⟨h, _⟩ | ⟨_, h, _⟩ | ⟨_, ts', a, c, h, _, he, hr⟩
    · omega
    · rw [hts] at h; cases h
    · rw [hts] at h; cases h; exact ⟨a, c, he, hr, h2⟩))
  have HOK := Lib.hid (toksP_ok hts hs)
  have HWT := Lib.hid (toksP_wt hts)
  have HTS := Lib.hid hts
  have HS := Lib.hid hs
  have HL := Lib.hid hl
  obtain ⟨N, hN⟩ : ∃ N, N = ts.length := ⟨_, rfl⟩
  have hNi : (N : Int) ≤ 4096 := by omega
  have HN := Lib.hid hN
  clear hs hts hl hw1
  go_enter Try.func12, Try.ntmps12
  go_upto_region 1 with fail
  rw [← HW1.out]
  go_upto_region 5 with (go_at_call 8; refine HT.out.mono ?_; rintro e w2 ⟨a, c, rfl, hrow, hb2⟩)
  rw [← hN]
  obtain ⟨w3, hw3⟩ : ∃ w3, w3 = w2.alloc (.cells #[.slice a N c, .int .i64 0, .bool false] 67) := ⟨_, rfl⟩
  rw [← hw3]
  have hb3 : Below w2.heap.size w2 w3 := by rw [hw3]; exact below_alloc _ _
  obtain ⟨pb, hpb⟩ : ∃ pb, pb = w2.heap.size := ⟨_, rfl⟩
  obtain ⟨A, hA⟩ : ∃ A : RA, A = ⟨a, c, ts⟩ := ⟨_, rfl⟩
  have HA := Lib.hid hA
  have HPS : Hid (RPS w3 pb A ts false) := Lib.hid (by
    subst hA
    refine ⟨by rw [hw3, hpb, hN]; simp, ⟨0, by rw [hw3, hpb]; simp, by simp, Nat.zero_le _⟩, by rw [hw3, hpb]; simp, fun j => by rw [hw3, hpb]; simp, fun i t ht => ?_, by have := HL.out; show ts.length ≤ 1000000; omega, fun t ht => (HOK.out t ht).1, fun t ht => HWT.out t ht⟩
    obtain ⟨b, ha, hb, x0, x1, x2, x3⟩ := row_tok (a := 0) hrow ht
    exact ⟨b, ha, by rw [hpb]; exact World.block_lt_of_cell? w2 _ x0, below_cell hb3 x0, below_cell hb3 x1, below_cell hb3 x2, below_cell hb3 x3⟩)
  have HB3 : Hid (Below w1.heap.size w1 w3) := Lib.hid (bthen hb2 hb3)
  have HQ : Hid (Calls Try.prog 24 #[.pointer (some ⟨pb, 0, none⟩), .int .i64 1] w3 (RParPost pb A w3 (runJ (.lev 1 ts)) false ts)) := Lib.hid (rspec_all _ 1 (by omega) (by omega) w3 pb A ts false HPS.out (Nat.lt_succ_self _))
  have HPB : Hid (w.heap.size < pb) := Lib.hid (by have h1 := hb2.size; have h2 := HS1.out; omega)
  have HPBW : Hid (pb < w3.heap.size) := Lib.hid HPS.out.lt
  rw [← hpb]
  clear hw3 hb3 hpb hrow hb2 hA hN
  go_upto_region 6 with (go_at_call 24; refine HQ.out.mono ?_; rintro e9 w4 ⟨t6, v6, ts6, bad6, rfl, ⟨aa6, cc6, rfl, hcc6, hra6⟩, hps6, hlen6, hf6, hb6, hb6'⟩; simp only [exV])
  obtain ⟨w5, hw5⟩ : ∃ w5, w5 = w4.alloc (.cells #[.int .i64 t6.kind, .string t6.text, .int .i64 t6.num, .slice aa6 t6.args.length cc6] 38) := ⟨_, rfl⟩
  rw [← hw5]
  have HB5 : Hid (Below w4.heap.size w4 w5) := Lib.hid (by rw [hw5]; exact below_alloc _ _)
  obtain ⟨be, hbe⟩ : ∃ be, be = w4.heap.size := ⟨_, rfl⟩
  have HEC5 : Hid (EC w5 be t6 aa6 cc6) := Lib.hid (by rw [hw5, hbe]; exact alloc_ec _ _ _ _ _)
  have HPS5 := Lib.hid (hps6.below HB5.out)
  have HF5 : Hid (Fr (fun x => x = pb) w3 w5) := Lib.hid (hf6.trans (.of_below HB5.out))
  have HBW3 : Hid (Below w.heap.size w w3) := Lib.hid (bthen HB1.out HB3.out)
  have HBW5 : Hid (Below w.heap.size w w5) := Lib.hid (HBW3.out.trans (HF5.out.below (fun i e => by have := HPB.out; omega) HBW3.out.size))
  have HTC5 : Hid (EC w5 w.heap.size eE none 0) := Lib.hid ((HTC.out.below HB3.out).fr HF5.out (by have := HPB.out; omega))
  have HRA5 : Hid (RdA (fun i => w3.heap.size ≤ i) w5 t6.args aa6) := Lib.hid (hra6.below HB5.out)
  have HCC := Lib.hid hcc6
  have HK := Lib.hid (hb6' (by first | rfl | trivial))
  have HW35 : Hid (w.heap.size < w3.heap.size) := Lib.hid (by have h1 := HB3.out.size; have h2 := HS1.out; omega)
  rw [← hbe]
  clear hw5 hbe hcc6 hra6 hps6 hlen6 hf6 hb6 hb6'
  have HPARSE : Hid (parseP s = match runJ (.lev 1 ts) with
    | some (t, []) => if 64 < t.depth then (9, eE) else (0, t)
    | _ => (4, eE)) := Lib.hid (by
    unfold parseP; rw [if_neg (by have := HS.out; omega), HTS.out]
    simp only
    cases runJ (.lev 1 ts) with
    | none => rfl
    | some x => obtain ⟨t, l⟩ := x; cases l <;> rfl)
  have c2 := HPS5.out.c2
  obtain ⟨p, c1, hpd, hpl⟩ := HPS5.out.c1
  have hall : A.all = ts := by rw [HA.out]
  rw [hall] at hpd hpl
  have HPD := Lib.hid hpd
  have hpN : p ≤ N := by rw [HN.out]; exact hpl
  have hpi9 : (p : Int) ≤ 4096 := by omega
  clear hpd hpl hall
  cases bad6 with
  | true =>
    have HPP : Hid (parseP s = (4, eE)) := Lib.hid (by rw [HPARSE.out]; have := HK.out; rw [if_pos rfl] at this; rw [this])
    obtain ⟨y0, y1, y2, y3, yf⟩ := HTC5.out
    have yf0 := yf 0
    have yf1 := yf 1
    have yf2 := yf 2
    have yf3 := yf 3
    clear yf
    go_wp2
    refine bodyPost_ret (v := .tuple #[.agg #[.int .i64 0, .string ⟨#[]⟩, .int .i64 0, .slice none 0 0], .int .i64 4]) (by simp [results, Try.results12, go_sem, y0, y1, y2, y3]; try rfl) rfl ⟨none, 0, by rw [HPP.out]; rfl, by rw [HPP.out]; simp [eE, Ex.args], by rw [HPP.out]; exact .inl rfl, ?_⟩
    exact HBW5.out.trans ((fr4 w5 w.heap.size (.int .i64 0) (.string ⟨#[]⟩) (.int .i64 0) (.slice none 0 0)).below (fun i e => by omega) HBW5.out.size)
  | false =>
    have HK2 : Hid (runJ (.lev 1 ts) = some (t6, ts6)) := Lib.hid (by have := HK.out; rwa [if_neg (by simp)] at this)
    cases hts6 : ts6 with
    | cons x r =>
      have HPP : Hid (parseP s = (4, eE)) := Lib.hid (by rw [HPARSE.out, HK2.out, hts6])
      have hplt : p < N := by
        have h1 := congrArg List.length HPD.out
        rw [hts6, List.length_cons, List.length_drop, ← HN.out] at h1; omega
      have hpli : (p : Int) < (N : Int) := by omega
      obtain ⟨y0, y1, y2, y3, yf⟩ := HTC5.out
      have yf0 := yf 0
      have yf1 := yf 1
      have yf2 := yf 2
      have yf3 := yf 3
      clear yf
      clear hts6 hpN
      go_wp2
      refine bodyPost_ret (v := .tuple #[.agg #[.int .i64 0, .string ⟨#[]⟩, .int .i64 0, .slice none 0 0], .int .i64 4]) (by simp [results, Try.results12, go_sem, y0, y1, y2, y3]; try rfl) rfl ⟨none, 0, by rw [HPP.out]; rfl, by rw [HPP.out]; simp [eE, Ex.args], by rw [HPP.out]; exact .inl rfl, ?_⟩
      exact HBW5.out.trans ((fr4 w5 w.heap.size (.int .i64 0) (.string ⟨#[]⟩) (.int .i64 0) (.slice none 0 0)).below (fun i e => by omega) HBW5.out.size)
    | nil =>
      have hpeq : p = N := by
        have h1 := congrArg List.length HPD.out
        rw [hts6, List.length_nil, List.length_drop, ← HN.out] at h1; omega
      have hplt : decide (p < N) = false := decide_eq_false (by omega)
      have hpli : decide ((p : Int) < (N : Int)) = false := decide_eq_false (by omega)
      have HZ : Hid (t6.size ≤ 4096) := Lib.hid (by
        have h1 := runJ_sz HK2.out
        have h2 := HL.out
        simp only [Job.ts, Job.sz] at h1; omega)
      have HDP : Hid (t6.depth ≤ 4096) := Lib.hid (by have := HZ.out; have := Ex.depth_le t6; omega)
      have HK3 : Hid (runJ (.lev 1 ts) = some (t6, [])) := Lib.hid (by rw [HK2.out, hts6])
      have HDE := Lib.hid (rdepth_any t6.size _ t6 aa6 cc6 w5 (Nat.le_refl _) (by have := HZ.out; omega) HRA5.out)
      unfold exV at HDE
      obtain ⟨x0, x1, x2, x3, xf⟩ := HEC5.out
      obtain ⟨d, hd⟩ : ∃ d, d = t6.depth := ⟨_, rfl⟩
      rw [← hd] at HDE
      have hd9 : (d : Int) ≤ 4096 := by have := HDP.out; omega
      have HD := Lib.hid hd
      clear hts6 hpN xf hd hpeq
      by_cases hbig : 64 < d
      · have hdb : decide (64 < d) = true := decide_eq_true hbig
        have hdbi : decide ((64 : Int) < (d : Int)) = true := decide_eq_true (by omega)
        have HPP : Hid (parseP s = (9, eE)) := Lib.hid (by rw [HPARSE.out, HK3.out]; simp only; rw [if_pos (by rw [← HD.out]; exact hbig)])
        clear hbig
        go_wp2_with (go_at_call 25; refine HDE.out.mono ?_; rintro e9 w6 ⟨rfl, hb6⟩; have HB6 : Hid (Below w.heap.size w w6) := Lib.hid (bthen HBW5.out hb6); obtain ⟨y0, y1, y2, y3, yf⟩ := HTC5.out.below hb6; have yf0 := yf 0; have yf1 := yf 1; have yf2 := yf 2; have yf3 := yf 3; clear yf hb6)
        refine bodyPost_ret (v := .tuple #[.agg #[.int .i64 0, .string ⟨#[]⟩, .int .i64 0, .slice none 0 0], .int .i64 9]) (by simp [results, Try.results12, go_sem, y0, y1, y2, y3]; try rfl) rfl ⟨none, 0, by rw [HPP.out]; rfl, by rw [HPP.out]; simp [eE, Ex.args], by rw [HPP.out]; exact .inl rfl, ?_⟩
        exact HB6.out.trans ((fr4 w6 w.heap.size (.int .i64 0) (.string ⟨#[]⟩) (.int .i64 0) (.slice none 0 0)).below (fun i e => by omega) HB6.out.size)
      · have hdb : decide (64 < d) = false := decide_eq_false hbig
        have hdbi : decide ((64 : Int) < (d : Int)) = false := decide_eq_false (by omega)
        have HPP : Hid (parseP s = (0, t6)) := Lib.hid (by rw [HPARSE.out, HK3.out]; simp only; rw [if_neg (by rw [← HD.out]; exact hbig)])
        clear hbig
        go_wp2_with (go_at_call 25; refine HDE.out.mono ?_; rintro e9 w6 ⟨rfl, hb6⟩; have HB6 : Hid (Below w.heap.size w w6) := Lib.hid (bthen HBW5.out hb6); have HRA6 : Hid (RdA (fun i => w3.heap.size ≤ i) w6 t6.args aa6) := Lib.hid (HRA5.out.below hb6); obtain ⟨q0, q1, q2, q3, qf⟩ := HEC5.out.below hb6; obtain ⟨y0, y1, y2, y3, yf⟩ := HTC5.out.below hb6; have yf0 := yf 0; have yf1 := yf 1; have yf2 := yf 2; have yf3 := yf 3; clear yf qf hb6)
        refine bodyPost_ret (v := .tuple #[.agg #[.int .i64 t6.kind, .string t6.text, .int .i64 t6.num, .slice aa6 t6.args.length cc6], .int .i64 0]) (by simp [results, Try.results12, go_sem, y0, y1, y2, y3]; try rfl) rfl ⟨aa6, cc6, by rw [HPP.out]; rfl, by rw [HPP.out]; exact HCC.out, ?_, ?_⟩
        · rw [HPP.out]
          exact (HRA6.out.fr (fr4 w6 w.heap.size (.int .i64 t6.kind) (.string t6.text) (.int .i64 t6.num) (.slice aa6 t6.args.length cc6)) (fun i hi e => by have := HW35.out; omega)).mono (fun i _ hi => by have := HW35.out; omega)
        · exact HB6.out.trans ((fr4 w6 w.heap.size (.int .i64 t6.kind) (.string t6.text) (.int .i64 t6.num) (.slice aa6 t6.args.length cc6)).below (fun i e => by omega) HB6.out.size)

/-- the reference's Parse, at every text -/
theorem rparse_any (s : ByteArray) (w : World) (hs : s.size ≤ 1000000000000) : Calls Try.prog 12 #[.string s] w (RParsePost w s) := by
  by_cases hb : 4096 < s.size
  · refine rparse_bad s w 9 (.inr rfl) (by unfold parseP; rw [if_pos hb]) (fun w1 => (rtokens_any s w1 hs).mono (fun e w' h => ?_))
    obtain ⟨h1, h2⟩ := h
    rcases h1 with ⟨_, he⟩ | ⟨h, _⟩ | ⟨h, _⟩
    · exact ⟨he, h2⟩
    · omega
    · omega
  · cases ht : toksP (ns s) with
    | none =>
      refine rparse_bad s w 4 (.inl rfl) (by unfold parseP; rw [if_neg hb, ht]) (fun w1 => (rtokens_any s w1 hs).mono (fun e w' h => ?_))
      obtain ⟨h1, h2⟩ := h
      rcases h1 with ⟨h, _⟩ | ⟨_, _, he⟩ | ⟨_, ts', a, c, h, _⟩
      · omega
      · exact ⟨he, h2⟩
      · rw [ht] at h; cases h
    | some ts =>
      exact rparse_toks s w ts (by omega) ht (by have := toks_len _ [] 0 (ns s) ts (Nat.le_refl _) ht; rw [ns_len] at this; simp at this; omega)

/-- a tree that is parsed is small -/
theorem parseP_size (s : ByteArray) : (parseP s).2.size ≤ 5000 := by
  unfold parseP
  split
  · simp [eE, Ex.size, Ex.sizes]
  · rename_i hs
    cases ht : toksP (ns s) with
    | none => simp [eE, Ex.size, Ex.sizes]
    | some ts =>
      simp only
      have hl := toks_len _ [] 0 (ns s) ts (Nat.le_refl _) ht
      rw [ns_len] at hl; simp at hl
      split
      · rename_i t hr
        have := runJ_sz hr
        simp only [Job.ts, Job.sz] at this
        split
        · simp [eE, Ex.size, Ex.sizes]
        · simp; omega
      · simp [eE, Ex.size, Ex.sizes]

set_option maxRecDepth 100000 in
set_option maxHeartbeats 1500000 in
theorem walk_SyntaxParses (s : ByteArray) (W : World) (hwf : s.size ≤ 9223372036854775807) (hsz : s.size ≤ 140737488351232) : Calls Try.prog 4 #[.string s] W fun e w' => e = .returned (.bool true) ∧ Below W.heap.size W w' := by
  have hsi9 : (s.size : Int) ≤ 140737488351232 := by omega
  by_cases hbig : 1000 < s.size
  · have hd : decide ((1000 : Int) < (s.size : Int)) = true := by simp; omega
    clear hbig hsz hwf
    go_enter Try.func4, Try.ntmps4
    go_wp2
    go_ret
    exact ⟨rfl, Below.refl _ _⟩
  have hd : decide ((1000 : Int) < (s.size : Int)) = false := by simp; omega
  have HP : Hid (∀ w, Calls Try.prog 11 #[.string s] w (ParsePost w s)) := Lib.hid (fun w => parse_any s w (by omega))
  have HR : Hid (∀ w, Calls Try.prog 12 #[.string s] w (RParsePost w s)) := Lib.hid (fun w => rparse_any s w (by omega))
  have HZ := Lib.hid (parseP_size s)
  unfold ParsePost at HP
  unfold RParsePost at HR
  obtain ⟨t, ht⟩ : ∃ t, t = (parseP s).2 := ⟨_, rfl⟩
  obtain ⟨k, hk⟩ : ∃ k, k = (parseP s).1 := ⟨_, rfl⟩
  rw [← ht, ← hk] at HP HR
  rw [← ht] at HZ
  have HSELF := Lib.hid (exq_self t)
  clear hbig hsz hwf ht hk hsi9
  unfold exV at HP HR
  go_enter Try.func4, Try.ntmps4
  go_upto_region 5 with (first
    | (go_at_call 11; refine (HP.out _).mono ?_; rintro e w1 ⟨a1, c1, rfl, hc1, hr1, hb1⟩; have HR1 := Lib.hid hr1; have HB1 := Lib.hid hb1; clear hr1 hb1 hc1)
    | (go_at_call 12; refine (HR.out _).mono ?_; rintro e w2 ⟨a2, c2, rfl, hc2, hr2, hb2⟩; have HR2 := Lib.hid hr2; have HB2 := Lib.hid hb2; clear hr2 hb2 hc2))
  obtain ⟨wa, hwa⟩ : ∃ wa, wa = w1.alloc (.cells #[.int .i64 t.kind, .string t.text, .int .i64 t.num, .slice a1 t.args.length c1] 38) := ⟨_, rfl⟩
  rw [← hwa] at HR2 HB2
  have HBA : Hid (Below w1.heap.size w1 wa) := Lib.hid (by rw [hwa]; exact below_alloc _ _)
  have HEA : Hid (EC wa w1.heap.size t a1 c1) := Lib.hid (by rw [hwa]; exact alloc_ec _ _ _ _ _)
  obtain ⟨wb, hwb⟩ : ∃ wb, wb = w2.alloc (.cells #[.int .i64 t.kind, .string t.text, .int .i64 t.num, .slice a2 t.args.length c2] 38) := ⟨_, rfl⟩
  rw [← hwb]
  have HBB : Hid (Below w2.heap.size w2 wb) := Lib.hid (by rw [hwb]; exact below_alloc _ _)
  have HEB : Hid (EC wb w2.heap.size t a2 c2) := Lib.hid (by rw [hwb]; exact alloc_ec _ _ _ _ _)
  have HEA2 : Hid (EC wb w1.heap.size t a1 c1) := Lib.hid (HEA.out.below (bthen HB2.out HBB.out))
  have HRA2 := Lib.hid (HR1.out.below (bthen HBA.out (bthen HB2.out HBB.out)))
  have HRB2 := Lib.hid (HR2.out.below HBB.out)
  have HBW : Hid (Below W.heap.size W wb) := Lib.hid (bthen HB1.out (bthen HBA.out (bthen HB2.out HBB.out)))
  clear hwa hwb
  go_wp2_with (first
    | (go_at_call 9; refine (awake_any _).mono ?_; rintro e w3 ⟨rfl, hb3⟩; have HB3 := Lib.hid hb3; obtain ⟨x0, x1, x2, x3, xf⟩ := HEA2.out.below hb3; obtain ⟨z0, z1, z2, z3, zf⟩ := HEB.out.below hb3; have HRA3 := Lib.hid (HRA2.out.below hb3); have HRB3 := Lib.hid (HRB2.out.below hb3); clear hb3 xf zf)
    | (go_at_call 10; refine (num_errN k _).mono ?_; rintro e w4 ⟨rfl, rfl⟩)
    | (go_at_call 13; refine (rsame_any t.size _ _ t t a1 a2 c1 c2 _ (Nat.le_refl _) (by have := HZ.out; omega) (by have := HZ.out; omega) HRA3.out HRB3.out).mono ?_; rintro e w5 ⟨rfl, hb5⟩; have HB5 := Lib.hid hb5; rw [HSELF.out]; clear hb5))
  go_ret
  exact ⟨rfl, bthen HBW.out (bthen HB3.out HB5.out)⟩

end Go.Proofs.Ytpabngicbfcdkaa
