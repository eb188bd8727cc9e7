/-
  The reference's tokens.
-/
import Derived.Test.YtpabngicbfcdkaaRf6
namespace Go.Proofs.Ytpabngicbfcdkaa
open Go.RowKit
set_option linter.unusedVariables false
set_option linter.unusedSimpArgs false

set_option maxRecDepth 100000 in
set_option maxHeartbeats 1500000 in
theorem rtok_quo (s : ByteArray) (i : Nat) (w w1 : World) (r : List Nat) (hx : TX s i w w1 34 r) : Calls Try.prog 21 #[.string s, .int .i64 i] w fun e w' => RtokPost i (nextP ((ns s).drop i)) e ∧ Below w.heap.size w w' := by
  have hsi : (s.size : Int) ≤ 1000000000 := by have := hx.hs; omega
  have hli : (i : Int) < (s.size : Int) := by have := hx.hlt; omega
  have hlt0 := hx.hlt
  have hc : (s[i]'hlt0).toNat = 34 := hx.hc
  have HTC := Lib.hid hx.tc
  have HFIN := Lib.hid hx.fin
  have HW1 := Lib.hid hx.hw
  have HX := Lib.hid hx
  have HDR : (ns s).drop (i + 1) = r := by
    have : (ns s).drop (i + 1) = ((ns s).drop i).drop 1 := by rw [List.drop_drop]
    rw [this, hx.hns]; rfl
  obtain ⟨K, hK⟩ : ∃ K, K = i + 1 := ⟨_, rfl⟩
  have hKi : (i : Int) + 1 = (K : Int) := by omega
  have HQ := Lib.hid (rquoted_any s K hx.hs (by omega) w1)
  rw [hK, HDR] at HQ
  have HNX : Hid (nextP ((ns s).drop i) = match quoGo [] r with | none => none | some (b, q) => some ((2, b, 0), r.length + 1 - q.length)) := Lib.hid (by
    rw [next_quo hx.hns]; unfold quoP; rw [hx.hns]; simp only [List.drop_succ_cons, List.drop_zero, List.length_cons]
    cases quoGo [] r <;> rfl)
  have HLEN : Hid (i + (r.length + 1) = s.size) := Lib.hid hx.len
  rw [← hK] at HQ
  clear hx HDR hK
  cases hq : quoGo [] r with
  | none =>
    rw [hq] at HQ
    have HE : Hid (nextP ((ns s).drop i) = none) := Lib.hid (by rw [HNX.out, hq])
    simp only [rquoV] at HQ
    clear hq
    go_enter Try.func21, Try.ntmps21
    go_upto_region 1 with fail
    rw [← HW1.out]
    go_wp2_with (go_at_call 36; refine HQ.out.mono ?_; rintro e w2 ⟨rfl, hb2⟩; have HB2 := Lib.hid hb2; obtain ⟨r0, r1, r2, r3, rf⟩ := HTC.out.below hb2; have rf0 := rf 0; have rf1 := rf 1; have rf2 := rf 2; have rf3 := rf 3; clear rf hb2)
    exact bodyPost_ret (v := .tuple #[.agg #[.int .i64 2, .string (⟨#[]⟩), .int .i64 0, .int .i64 i], .int .i64 (-1)]) (by simp [results, Try.results21, go_sem, r0, r1, r2, r3]; try rfl) rfl ⟨by rw [HE.out]; exact ⟨2, i, rfl⟩, HFIN.out _ _ HB2.out (fr4 w2 w.heap.size (.int .i64 2) (.string ⟨#[]⟩) (.int .i64 0) (.int .i64 i))⟩
  | some v =>
    obtain ⟨b, q⟩ := v
    rw [hq] at HQ
    have HE : Hid (nextP ((ns s).drop i) = some ((2, b, 0), r.length + 1 - q.length)) := Lib.hid (by rw [HNX.out, hq])
    have hql := quoGo_len _ [] r b q (Nat.le_refl _) hq
    have HPI : Hid (i + (r.length + 1 - q.length) = s.size - q.length) := Lib.hid (by have := HLEN.out; omega)
    simp only [rquoV] at HQ
    obtain ⟨E, hE⟩ : ∃ E, E = s.size - q.length := ⟨_, rfl⟩
    rw [← hE] at HQ HPI
    clear hq hql hE
    go_enter Try.func21, Try.ntmps21
    go_upto_region 1 with fail
    rw [← HW1.out]
    go_wp2_with (go_at_call 36; refine HQ.out.mono ?_; rintro e w2 ⟨rfl, hb2⟩; have HB2 := Lib.hid hb2; obtain ⟨r0, r1, r2, r3, rf⟩ := HTC.out.below hb2; have rf0 := rf 0; have rf1 := rf 1; have rf2 := rf 2; have rf3 := rf 3; clear rf hb2)
    exact bodyPost_ret (v := .tuple #[.agg #[.int .i64 2, .string (bs b), .int .i64 0, .int .i64 i], .int .i64 E]) (by simp [results, Try.results21, go_sem, r0, r1, r2, r3]; try rfl) rfl ⟨by rw [HE.out]; simp only [RtokPost, HPI.out]; rfl, HFIN.out _ _ HB2.out (fr4 w2 w.heap.size (.int .i64 2) (.string (bs b)) (.int .i64 0) (.int .i64 i))⟩

theorem rtoken_any (s : ByteArray) (i : Nat) (hs : s.size ≤ 1000000000) (hlt : i < s.size) (w : World) : Calls Try.prog 21 #[.string s, .int .i64 i] w fun e w' => RtokPost i (nextP ((ns s).drop i)) e ∧ Below w.heap.size w w' := by
  obtain ⟨w1, r, hx⟩ := TX.mk' s i w hs hlt
  obtain ⟨c, hc⟩ : ∃ c, c = (s[i]'hlt).toNat := ⟨_, rfl⟩
  rw [← hc] at hx
  by_cases hd : digB c = true
  · exact rtok_dig s i w w1 c r hx hd
  by_cases h1 : c = 34
  · subst h1; exact rtok_quo s i w w1 r hx
  by_cases h2 : c = 64
  · subst h2; exact rtok_ref s i w w1 r hx
  by_cases hl : letB c = true
  · exact rtok_let s i w w1 c r hx hl
  · exact rtok_sgn s i w w1 c r hx (by simpa using hd) h1 h2 (by simpa using hl)

theorem ETokR : EltG Try.prog 27 34 (.agg #[.int .i64 0, .string ByteArray.empty, .int .i64 0, .int .i64 0]) 4 40 := ⟨Try.underlying27, info_parts (by kernel_rfl), rfl, by decide⟩

/-- what the reference's Tokens returns -/
def RToksPost (B : Nat) (s : ByteArray) (e : Ending) (w' : World) : Prop :=
  (4096 < s.size ∧ e = .returned (.tuple #[.slice none 0 0, .int .i64 9])) ∨
  (s.size ≤ 4096 ∧ toksP (ns s) = none ∧ e = .returned (.tuple #[.slice none 0 0, .int .i64 4])) ∨
  (s.size ≤ 4096 ∧ ∃ ts a c, toksP (ns s) = some ts ∧ ts.length ≤ 4096 ∧ e = .returned (.tuple #[.slice a ts.length c, .int .i64 0]) ∧ Row w' B 34 4 (.slice a ts.length c) ts.length (cellsT ts))

set_option maxRecDepth 100000 in
set_option maxHeartbeats 1500000 in
theorem rtokens_any (s : ByteArray) (w : World) (hs : s.size ≤ 1000000000000) : Calls Try.prog 8 #[.string s] w fun e w' => RToksPost w.heap.size s e w' ∧ Below w.heap.size w w' := by
  have hsi9 : (s.size : Int) ≤ 1000000000000 := by omega
  by_cases hbig : 4096 < s.size
  · have hd : decide ((4096 : Int) < (s.size : Int)) = true := by simp; omega
    have HB := Lib.hid hbig
    clear hbig hs
    go_enter Try.func8, Try.ntmps8
    go_wp2
    go_ret2
    exact ⟨.inl ⟨HB.out, rfl⟩, Below.refl _ _⟩
  have hd : decide ((4096 : Int) < (s.size : Int)) = false := by simp; omega
  have hsi : (s.size : Int) ≤ 4096 := by omega
  have HSZ : Hid (s.size ≤ 4096) := Lib.hid (by omega)
  have HNL := Lib.hid (ns_len s)
  have HLT := Lib.hid (ns_lt s)
  clear hbig hs hsi9
  go_enter Try.func8, Try.ntmps8
  go_wp2
  go_loopw [4, 5] (fun sv iv wr => ∃ (i N : Nat) (acc : List Tk) (a : Option Addr) (c : Nat), iv = .int .i64 i ∧ i ≤ s.size ∧ sv = .slice a N c ∧ acc.length = N ∧ N ≤ i ∧ toksGo acc i ((ns s).drop i) = toksP (ns s) ∧ Row wr w.heap.size 34 4 (.slice a N c) N (cellsT acc) ∧ Below w.heap.size w wr) (fun _ iv _ => s.size - (intOf iv).toNat)
  case atStart => exact ⟨0, 0, [], none, 0, rfl, by omega, rfl, rfl, by omega, rfl, World.ownsRow_nil _ _ _ _, Below.refl _ _⟩
  case round =>
    obtain ⟨i, N, acc, a, c, rfl, hi, rfl, hN, hNi, hq, hrow, hb⟩ := hrel
    have HROW := Lib.hid hrow
    have HB := Lib.hid hb
    have HN := Lib.hid hN
    have HNI := Lib.hid hNi
    have HQ := Lib.hid hq
    have hi9 : (i : Int) ≤ 4096 := by have := HSZ.out; omega
    have HI := Lib.hid hi
    by_cases hlt : i < s.size
    · have HG := Lib.hid (ns_get hlt)
      obtain ⟨x, hx⟩ : ∃ x, (s[i]'hlt).toNat = x := ⟨_, rfl⟩
      rw [hx] at HG
      have HX9 : Hid (x < 256) := Lib.hid (HLT.out x (List.mem_of_getElem? HG.out))
      have hx9 : (x : Int) ≤ 255 := by have := HX9.out; omega
      obtain ⟨r, hr⟩ : ∃ r, r = (ns s).drop (i + 1) := ⟨_, rfl⟩
      have hdrop : (ns s).drop i = x :: r := by
        rw [List.drop_eq_getElem_cons (by rw [ns_len]; exact hlt), hr]
        rw [(List.getElem?_eq_some_iff.1 HG.out).2]
      have HDROP := Lib.hid hdrop
      have HR := Lib.hid hr
      have hii : (i : Int) < (s.size : Int) := by omega
      have HLTI := Lib.hid hlt
      have HTK := Lib.hid (rtoken_any s i (by have := HSZ.out; omega) hlt wr)
      rw [hdrop] at HTK
      clear hi hN hNi hq hrow hb hdrop hr
      cases hbl : blankB x with
      | true =>
        have HQ2 : Hid (toksGo acc (i + 1) ((ns s).drop (i + 1)) = toksP (ns s)) := Lib.hid (by rw [← HQ.out, HDROP.out, toks_blank _ _ _ hbl, HR.out])
        have hb4 : x = 32 ∨ x = 9 ∨ x = 10 ∨ x = 13 := by simpa [blankB, or_assoc] using hbl
        clear hbl
        rcases hb4 with rfl | rfl | rfl | rfl
        all_goals
          go_wp2
          exact ⟨⟨i + 1, N, acc, a, c, rfl, by have := HLTI.out; omega, rfl, HN.out, by have := HNI.out; omega, HQ2.out, HROW.out, HB.out⟩, by have := HLTI.out; simp only [intOf]; omega⟩
      | false =>
        have hb4 : ¬ x = 32 ∧ ¬ x = 9 ∧ ¬ x = 10 ∧ ¬ x = 13 := by simpa [blankB, and_assoc] using hbl
        have b1 : ((x : Int) == 32) = false := by rw [beq_eq_false_iff_ne]; omega
        have b2 : ((x : Int) == 9) = false := by rw [beq_eq_false_iff_ne]; omega
        have b3 : ((x : Int) == 10) = false := by rw [beq_eq_false_iff_ne]; omega
        have b4 : ((x : Int) == 13) = false := by rw [beq_eq_false_iff_ne]; omega
        cases hnx : nextP (x :: r) with
        | none =>
          rw [hnx] at HTK
          simp only [RtokPost, tokV] at HTK
          have HE : Hid (toksP (ns s) = none) := Lib.hid (by rw [← HQ.out, HDROP.out, toks_none _ _ hbl hnx])
          clear hbl hnx hb4
          go_wp2_with (go_at_call 21; refine HTK.out.mono ?_; rintro e w2 ⟨⟨k9, a9, rfl⟩, hb2⟩; have HB2 := Lib.hid hb2; clear hb2)
          all_goals go_ret2
          all_goals exact ⟨.inr (.inl ⟨HSZ.out, HE.out, rfl⟩), bthen HB.out (bthen HB2.out (by first | exact Below.refl _ _ | exact below_alloc _ _))⟩
        | some v =>
          obtain ⟨⟨k, t, v⟩, n⟩ := v
          rw [hnx] at HTK
          simp only [RtokPost, tokV] at HTK
          have hpos := nextP_pos hnx
          have HQ2 : Hid (toksGo (acc ++ [((k, t, v), i)]) (i + n) ((ns s).drop (i + n)) = toksP (ns s)) := Lib.hid (by rw [← HQ.out, HDROP.out, toks_some _ _ hbl hnx, ← HDROP.out, List.drop_drop])
          have hin : i + n ≤ s.size := by
            have h3 : ((ns s).drop i).length = s.size - i := by rw [List.length_drop, ns_len]
            rw [HDROP.out] at h3; omega
          have HIN := Lib.hid hin
          have HPOS := Lib.hid hpos
          obtain ⟨M, hM⟩ : ∃ M, M = i + n := ⟨_, rfl⟩
          rw [← hM] at HTK
          have hM9 : (M : Int) ≤ 4096 := by have := HSZ.out; omega
          have hMd : decide (M ≤ i) = false := decide_eq_false (by omega)
          have hMd2 : decide ((M : Int) ≤ (i : Int)) = false := decide_eq_false (by omega)
          have HM := Lib.hid hM
          clear hbl hnx hpos hin hb4 hM
          go_upto_region 12 with (go_at_call 21; refine HTK.out.mono ?_; rintro e w2 ⟨rfl, hb2⟩; have HB2 := Lib.hid hb2; clear hb2)
          obtain ⟨w4, hw4⟩ : ∃ w4, w4 = w2.alloc (.cells #[.int .i64 k, .string (bs t), .int .i64 v, .int .i64 i] 34) := ⟨_, rfl⟩
          rw [← hw4]
          have HB4 : Hid (Below wr.heap.size wr w4) := Lib.hid (bthen HB2.out (by rw [hw4]; exact below_alloc _ _))
          obtain ⟨bx, hbx⟩ : ∃ bx, bx = w2.heap.size := ⟨_, rfl⟩
          have z0 : w4.cell? ⟨bx, 0, none⟩ = some (.int .i64 k) := by rw [hw4, hbx]; simp
          have z1 : w4.cell? ⟨bx, 1, none⟩ = some (.string (bs t)) := by rw [hw4, hbx]; simp
          have z2 : w4.cell? ⟨bx, 2, none⟩ = some (.int .i64 v) := by rw [hw4, hbx]; simp
          have z3 : w4.cell? ⟨bx, 3, none⟩ = some (.int .i64 i) := by rw [hw4, hbx]; simp
          rw [← hbx]
          clear hw4 hbx
          have HSB : Hid (w.heap.size ≤ w4.heap.size) := Lib.hid (bthen HB.out HB4.out).size
          go_wp2_with (at_builtin; refine app_row_at (.tmp 44) (.tmp 46) ETokR rfl rfl w.heap.size (.slice a N c) N (cellsT acc) rfl (Row.below HROW.out (bthen HB4.out (below_alloc _ _))) (some ⟨_, 0, none⟩) 1 1 [.int .i64 k, .string (bs t), .int .i64 v, .int .i64 i] rfl (RdG.lits _ 4 _ 1 [.int .i64 k, .string (bs t), .int .i64 v, .int .i64 i] rfl) (by simp [Value.oneCell']) (by have := HNI.out; have := HI.out; have := HSZ.out; omega) (by decide) (by have := HSB.out; simp; omega) ?_; intro a7 c7 w7 hr7 hg7 hat7; have HR7 := Lib.hid hr7; have HB7 : Hid (Below w.heap.size w w7) := Lib.hid ((bthen HB.out (bthen HB4.out (below_alloc _ _))).trans (Row.grown (Row.below HROW.out (bthen HB4.out (below_alloc _ _))) hg7 (by have := HSB.out; simp; omega))); clear hr7 hg7 hat7)
          refine ⟨⟨i + n, N + 1, acc ++ [((k, t, v), i)], a7, c7, by rw [HM.out], HIN.out, rfl, by simp [HN.out], by have := HNI.out; have := HPOS.out.1; omega, HQ2.out, ?_, HB7.out⟩, ?_⟩
          · rw [cellsT_snoc]; exact HR7.out
          · have h1 := HPOS.out.1
            have h2 := HIN.out
            have h3 := HM.out
            simp only [intOf]
            omega
    · have hie : i = s.size := by omega
      subst hie
      have HE : Hid (toksP (ns s) = some acc) := Lib.hid (by rw [← hq, List.drop_of_length_le (by rw [ns_len]; omega), toks_nil])
      clear hi hN hNi hq hrow hb hlt
      go_wp2
      go_ret2
      have hN := HN.out
      subst hN
      exact ⟨.inr (.inr ⟨HSZ.out, acc, a, c, HE.out, by have := HNI.out; have := HSZ.out; omega, rfl, HROW.out⟩), HB.out⟩

end Go.Proofs.Ytpabngicbfcdkaa
