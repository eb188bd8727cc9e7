/-
  Joined texts: (*writer).write: the walk, for every well-formed tree. · What is parsed is a well-formed tree, and its formatted text has the least number of tokens. · The plain laws behind the statements about Format: what Format answers, what Parse makes of that, with other blanks, and without two brackets. · tree.All over wellFormed; syntax.Format. · How long the texts of a tree that Parse returns are, taken together. · Maps keyed by pairs of addresses.
-/
import Derived.Test.YtpabngicbfcdkaaDoorFo7
import Derived.Test.YtpabngicbfcdkaaDoorFo6
import Derived.Test.YtpabngicbfcdkaaDoorFo2
import Derived.Laws.StructEq

/- (*writer).write: the walk, for every well-formed tree. -/
namespace Go.Proofs.YtpabngicbfcdkaaDoor
open Go.RowKit
set_option linter.unusedVariables false
set_option linter.unusedSimpArgs false

theorem digits_ns : ∀ (m n : Nat), n ≤ m → (Lib.decDigits n).map (·.toNat) = decP n
  | 0, n, h => by
    obtain rfl : n = 0 := by omega
    rw [Lib.decDigits_one (by omega), decP_small (by omega)]; rfl
  | m + 1, n, h => by
    by_cases h10 : n < 10
    · rw [Lib.decDigits_one h10, decP_small h10]
      have : (UInt8.ofNat (48 + n)).toNat = 48 + n := by simp [UInt8.toNat_ofNat]; omega
      simp only [List.map_cons, List.map_nil, this]
    · rw [Lib.decDigits, dif_neg h10, decP_big h10, List.map_append, digits_ns m (n / 10) (by omega)]
      have : (UInt8.ofNat (48 + n % 10)).toNat = 48 + n % 10 := by simp [UInt8.toNat_ofNat]; omega
      simp only [List.map_cons, List.map_nil, this]
theorem itoa_ns (n : Nat) : ns ⟨(Lib.itoa (n : Int)).toArray⟩ = decP n := by
  rw [Lib.itoa_nonneg]
  show (Lib.decDigits n).toArray.toList.map _ = _
  rw [List.toList_toArray]
  exact digits_ns n n (Nat.le_refl _)
theorem decP_len : ∀ (k n : Nat), 1 ≤ k → n < 10 ^ k → (decP n).length ≤ k
  | 0, n, h, _ => by omega
  | k + 1, n, _, h => by
    by_cases h10 : n < 10
    · rw [decP_small h10]; simp
    · rw [decP_big h10, List.length_append]
      have hk : 1 ≤ k := by
        cases k with
        | zero => simp at h; omega
        | succ k => omega
      have := decP_len k (n / 10) hk (by rw [Nat.pow_succ] at h; omega)
      simp only [List.length_singleton]; omega
theorem itoa_any (n pb : Nat) (hn : n ≤ 1152921504606846976) (w : World) (ht : TAB pb w) : ∃ S : ByteArray, ns S = decP n ∧ S.size ≤ 20 ∧ Calls Tryd.prog 43 #[.int .i64 (n : Int)] w fun e w' => e = .returned (.string S) ∧ Below w.heap.size w w' :=
  ⟨⟨(Lib.itoa (n : Int)).toArray⟩, itoa_ns n, by rw [← ns_len, itoa_ns]; exact decP_len 20 n (by decide) (by omega), (Tryd.strconv_Itoa (n : Int) (by omega) (by omega) w (ht w (Below.refl _ _))).mono (fun e w' h => by
    obtain ⟨he, k, os, hw⟩ := h
    exact ⟨he, by rw [hw]; exact Lib.below_grow _ w (Nat.le_refl _) k os⟩)⟩

def CallP (t : Ex) : Prop := t.kind = 4 → ∀ (w : World) (pb tb tq : Nat) (l : List Nat), RdB pb w t tb tq → WS w pb l → TAB pb w → l.length + wt t ≤ 10000000000 →
  Calls Tryd.prog 45 #[.pointer (some ⟨pb, 0, none⟩), .pointer (some ⟨tb, tq, none⟩)] w (WrPost w pb l (txI (wI t)) (wt t))

set_option maxRecDepth 100000 in
set_option maxHeartbeats 2000000 in
/-- it gives up -/
theorem write_full (t : Ex) (w : World) (pb tb tq : Nat) (l p : List Nat) (lv : Int) (hs : WS w pb l) (h : 4096 < l.length) :
    Calls Tryd.prog 24 #[.pointer (some ⟨pb, 0, none⟩), .pointer (some ⟨tb, tq, none⟩), .int .i64 lv] w (WrPost w pb l p 0) := by
  obtain ⟨a, c, c0, ho⟩ := hs.c0
  obtain ⟨N, hN⟩ : ∃ N, N = l.length := ⟨_, rfl⟩
  rw [← hN] at c0
  have hfi : (4096 : Int) < (N : Int) := by omega
  have HS := Lib.hid hs
  have H := Lib.hid h
  clear hs h ho hN
  go_enter Tryd.func24, Tryd.ntmps24
  go_wp2
  refine bodyPost_ret (v := .tuple #[]) (by simp [results, Tryd.results24, go_sem]; try rfl) rfl ?_
  exact ⟨rfl, l, HS.out, WR.full p H.out, Below.refl _ _⟩

set_option maxRecDepth 100000 in
set_option maxHeartbeats 4000000 in
/-- without brackets -/
theorem write_in (t : Ex) (hw : Well t) (HC : CallP t) (w : World) (pb tb tq : Nat) (l : List Nat) (lv : Int) (h1 : 1 ≤ lv) (hlv : lv ≤ (own t : Nat)) (hr : RdB pb w t tb tq) (hs : WS w pb l) (ht : TAB pb w) (hf : l.length ≤ 4096) (hlen : l.length + wt t ≤ 10000000000) :
    Calls Tryd.prog 24 #[.pointer (some ⟨pb, 0, none⟩), .pointer (some ⟨tb, tq, none⟩), .int .i64 lv] w (WrPost w pb l (txI (wI t)) (wt t)) := by
  obtain ⟨-, aa, ac, hnd, -, hra⟩ := hr.2.node
  obtain ⟨z0, z1, z2, z3⟩ := hnd.cells
  simp only at z0 z1 z2 z3
  obtain ⟨a, c, c0, ho⟩ := hs.c0
  have HL : Hid (Calls Tryd.prog 41 #[.pointer (some ⟨tb, tq, none⟩)] w fun e w' => e = .returned (.int .i64 (own t : Nat)) ∧ w = w') := Lib.hid (levelOf_any _ t tb tq w hr (by have := wts_len t.args; have := wt_eq t; omega))
  obtain ⟨o, hoo⟩ : ∃ o, o = own t := ⟨_, rfl⟩
  rw [← hoo] at HL hlv
  obtain ⟨N, hN⟩ : ∃ N, N = l.length := ⟨_, rfl⟩
  rw [← hN] at c0
  have hfi : decide ((4096 : Int) < (N : Int)) = false := decide_eq_false (by omega)
  have hli : decide ((o : Int) < lv) = false := decide_eq_false (by omega)
  have hw0 := hw
  have HCC : Hid (t.kind = 4 → Calls Tryd.prog 45 #[.pointer (some ⟨pb, 0, none⟩), .pointer (some ⟨tb, tq, none⟩)] w (WrPost w pb l (txI (wI t)) (wt t))) := Lib.hid (fun hk => HC hk w pb tb tq l hr hs ht hlen)
  have HWT := Lib.hid (wt_eq t)
  have HS := Lib.hid hs
  have HLEN := Lib.hid hlen
  have HT := Lib.hid ht
  clear hr hra hnd hs ht ho hoo hN HC hlv h1
  by_cases hk4 : t.kind = 4
  · have HK := Lib.hid (HCC.out hk4)
    rw [hk4] at z0
    clear hw hw0 hk4 HCC hf hlen
    go_enter Tryd.func24, Tryd.ntmps24
    go_wp2_with (first
      | (go_at_call 41; refine HL.out.mono ?_; rintro e w1 ⟨rfl, rfl⟩)
      | (go_at_call 45; refine HK.out.mono ?_; rintro e w4 ⟨rfl, l4, hs4, hr4, hb4⟩; have HS4 := Lib.hid hs4; have HR4 := Lib.hid hr4; have HB4 := Lib.hid hb4; clear hs4 hr4 hb4))
    refine bodyPost_end (v := .tuple #[]) (by simp [results, Tryd.results24, go_sem]; try rfl) rfl ?_
    exact ⟨rfl, l4, HS4.out, HR4.out, HB4.out⟩
  · rcases look hw with ⟨n, rfl, hn⟩ | ⟨x, rfl, h8⟩ | ⟨x, rfl, h8, hl⟩ | ⟨v, x, a, b, rfl, hv, hl⟩ | ⟨a, rfl⟩ | ⟨a, b, c, rfl⟩ | ⟨x, us, rfl, hn, hl⟩
    · have HX : Hid (txI (wI (.mk 1 (bs []) (n : Int) [])) = decP n) := Lib.hid (by
        show txI (comb 1 (ns (bs [])) (n : Int) []) = _
        unfold comb
        rw [if_pos rfl]; simp [txI, xI]; rfl)
      obtain ⟨S, hS, hS20, hI⟩ := itoa_any n pb hn w HT.out
      have HI := Lib.hid hI
      have HSS := Lib.hid hS
      have HPUT := Lib.hid (fun (w2 : World) (h2 : WS w2 pb l) => put_lit S (decP n) hS 20 (by rw [← hS, ns_len]; exact hS20) pb l w2 h2 (by have := HLEN.out; omega))
      have HD20 : Hid ((decP n).length ≤ 20) := Lib.hid (by rw [← hS, ns_len]; exact hS20)
      have z0' : w.cell? ⟨tb, tq, none⟩ = some (.int .i64 1) := z0
      have z2' : w.cell? ⟨tb, tq + 2, none⟩ = some (.int .i64 n) := z2
      clear hw hw0 hk4 HCC hf hlen hn hS hS20 hI z0 z1 z2 z3
      go_enter Tryd.func24, Tryd.ntmps24
      go_wp2_with (first
        | (go_at_call 41; refine HL.out.mono ?_; rintro e w1 ⟨rfl, rfl⟩)
        | (go_at_call 43; refine HI.out.mono ?_; rintro e w3 ⟨rfl, hb3⟩; have HB3 := Lib.hid hb3; clear hb3)
        | (go_at_call 42; refine (HPUT.out w3 (HS.out.below HB3.out)).mono ?_; rintro e w4 ⟨rfl, hs4, hb4⟩; have HS4 := Lib.hid hs4; have HB4 := Lib.hid hb4; clear hs4 hb4))
      refine bodyPost_end (v := .tuple #[]) (by simp [results, Tryd.results24, go_sem]; try rfl) rfl ?_
      refine ⟨rfl, _, HS4.out, ?_, (HB3.out.mono (Nat.le_of_lt HS.out.lt)).trans HB4.out⟩
      rw [HX.out]
      exact (WR.put l _).mono (by have h1 := HWT.out; have h2 := HD20.out; omega)
    · have HX : Hid (txI (wI (.mk 2 (bs x) 0 [])) = quX (ns (bs x))) := Lib.hid (by
        show txI (comb 2 (ns (bs x)) 0 []) = _
        unfold comb
        rw [if_neg (by decide), if_pos rfl]; simp [txI, xI]; rfl)
      have HQ := Lib.hid (quote_any (bs x) pb l w HS.out (by have h1 := HWT.out; have h2 := HLEN.out; rw [show (Ex.mk 2 (bs x) 0 []).text = bs x from rfl] at h1; omega))
      have z0' : w.cell? ⟨tb, tq, none⟩ = some (.int .i64 2) := z0
      have z1' : w.cell? ⟨tb, tq + 1, none⟩ = some (.string (bs x)) := z1
      clear hw hw0 hk4 HCC hf hlen z0 z1 z2 z3
      go_enter Tryd.func24, Tryd.ntmps24
      go_wp2_with (first
        | (go_at_call 41; refine HL.out.mono ?_; rintro e w1 ⟨rfl, rfl⟩)
        | (go_at_call 44; refine HQ.out.mono ?_; rintro e w4 ⟨rfl, l4, hs4, hr4, hb4⟩; have HS4 := Lib.hid hs4; have HR4 := Lib.hid hr4; have HB4 := Lib.hid hb4; clear hs4 hr4 hb4))
      refine bodyPost_end (v := .tuple #[]) (by simp [results, Tryd.results24, go_sem]; try rfl) rfl ?_
      refine ⟨rfl, l4, HS4.out, ?_, HB4.out⟩
      rw [HX.out]
      exact HR4.out.mono (by have h1 := HWT.out; rw [show (Ex.mk 2 (bs x) 0 []).text = bs x from rfl] at h1; omega)
    · have HX : Hid (txI (wI (.mk 3 (bs x) 0 [])) = 64 :: ns (bs x)) := Lib.hid (by
        show txI (comb 3 (ns (bs x)) 0 []) = _
        unfold comb
        rw [if_neg (by decide), if_neg (by decide), if_pos rfl]; simp [txI, xI]; rfl)
      have HPUT := Lib.hid (put_at (bs x) pb l w HS.out (by have h1 := HWT.out; have h2 := HLEN.out; rw [show (Ex.mk 3 (bs x) 0 []).text = bs x from rfl] at h1; omega))
      have z0' : w.cell? ⟨tb, tq, none⟩ = some (.int .i64 3) := z0
      have z1' : w.cell? ⟨tb, tq + 1, none⟩ = some (.string (bs x)) := z1
      have hz1 : ¬ 9223372036854775807 < 1 + (bs x).size := by have h1 := HWT.out; have h2 := HLEN.out; rw [show (Ex.mk 3 (bs x) 0 []).text = bs x from rfl] at h1; omega
      have HSZ : Hid (4 * (bs x).size + 64 ≤ wt (.mk 3 (bs x) 0 [])) := Lib.hid (by have h1 := HWT.out; rw [show (Ex.mk 3 (bs x) 0 []).text = bs x from rfl] at h1; omega)
      clear hw hw0 hk4 HCC hf hlen z0 z1 z2 z3
      go_enter Tryd.func24, Tryd.ntmps24
      go_wp2_with (first
        | (go_at_call 41; refine HL.out.mono ?_; rintro e w1 ⟨rfl, rfl⟩)
        | (go_at_call 42; refine HPUT.out.mono ?_; rintro e w4 ⟨rfl, hs4, hb4⟩; have HS4 := Lib.hid hs4; have HB4 := Lib.hid hb4; clear hs4 hb4))
      refine bodyPost_end (v := .tuple #[]) (by simp [results, Tryd.results24, go_sem]; try rfl) rfl ?_
      refine ⟨rfl, _, HS4.out, ?_, HB4.out⟩
      rw [HX.out]
      exact (WR.put l _).mono (by have h1 := HSZ.out; simp [ns_len]; omega)
    · exact absurd rfl hk4
    · exact absurd rfl hk4
    · exact absurd rfl hk4
    · exact absurd rfl hk4

theorem write_low (t : Ex) (hw : Well t) (HC : CallP t) (w : World) (pb tb tq : Nat) (l : List Nat) (lv : Int) (h1 : 1 ≤ lv) (hlv : lv ≤ (own t : Nat)) (hr : RdB pb w t tb tq) (hs : WS w pb l) (ht : TAB pb w) (hlen : l.length + wt t ≤ 10000000000) :
    Calls Tryd.prog 24 #[.pointer (some ⟨pb, 0, none⟩), .pointer (some ⟨tb, tq, none⟩), .int .i64 lv] w (WrPost w pb l (txI (wI t)) (wt t)) := by
  by_cases hf : 4096 < l.length
  · exact (write_full t w pb tb tq l _ lv hs hf).mono (fun e w' h => ⟨h.1, by
      obtain ⟨l', a, b, c⟩ := h.2
      exact ⟨l', a, b.mono (Nat.zero_le _), c⟩⟩)
  · exact write_in t hw HC w pb tb tq l lv h1 hlv hr hs ht (by omega) hlen

set_option maxRecDepth 100000 in
set_option maxHeartbeats 4000000 in
/-- in brackets -/
theorem write_br (t : Ex) (hw : Well t) (HC : CallP t) (w : World) (pb tb tq : Nat) (l : List Nat) (lv : Int) (hlv : ((own t : Nat) : Int) < lv) (hr : RdB pb w t tb tq) (hs : WS w pb l) (ht : TAB pb w) (hf : l.length ≤ 4096) (hlen : l.length + wt t + 2 ≤ 10000000000) :
    Calls Tryd.prog 24 #[.pointer (some ⟨pb, 0, none⟩), .pointer (some ⟨tb, tq, none⟩), .int .i64 lv] w (WrPost w pb l (40 :: (txI (wI t) ++ [41])) (wt t + 2)) := by
  obtain ⟨a, c, c0, ho⟩ := hs.c0
  have HL : Hid (Calls Tryd.prog 41 #[.pointer (some ⟨tb, tq, none⟩)] w fun e w' => e = .returned (.int .i64 (own t : Nat)) ∧ w = w') := Lib.hid (levelOf_any _ t tb tq w hr (by have := wts_len t.args; have := wt_eq t; omega))
  have hop := (own_pos t).1
  have HWR := Lib.hid (fun (w2 : World) (h2 : WS w2 pb (l ++ [40])) (hb : Below pb w w2) => write_low t hw HC w2 pb tb tq (l ++ [40]) 1 (by omega) (by omega) (hr.next hb (Nat.le_of_lt hs.lt)) h2 (ht.next hb) (by simp; omega))
  obtain ⟨o, hoo⟩ : ∃ o, o = own t := ⟨_, rfl⟩
  rw [← hoo] at HL hlv
  obtain ⟨N, hN⟩ : ∃ N, N = l.length := ⟨_, rfl⟩
  rw [← hN] at c0
  have hfi : decide ((4096 : Int) < (N : Int)) = false := decide_eq_false (by omega)
  have HLEN := Lib.hid hlen
  have HP1 := Lib.hid (put_lit ⟨#[40]⟩ [40] rfl 1 (by decide) pb l w hs (by omega))
  have HP2 := Lib.hid (fun (l2 : List Nat) (w2 : World) (h2 : WS w2 pb l2) (h3 : l2.length ≤ 10000000010) => put_lit ⟨#[41]⟩ [41] rfl 1 (by decide) pb l2 w2 h2 (by omega))
  clear hr hs ht ho hoo hN HC hw hop hf hlen
  go_enter Tryd.func24, Tryd.ntmps24
  go_wp2_with (first
    | (go_at_call 41; refine HL.out.mono ?_; rintro e w1 ⟨rfl, rfl⟩)
    | (go_at_call 24; refine (HWR.out w2 HS2.out HB2.out).mono ?_; rintro e w3 ⟨rfl, l3, hs3, hr3, hb3⟩; have HS3 := Lib.hid hs3; have HR3 := Lib.hid hr3; have HB3 := Lib.hid hb3; clear hs3 hr3 hb3)
    | (go_at_call 42; refine (HP2.out l3 w3 HS3.out (by have h1 := HR3.out.len; have h2 := HLEN.out; simp at h1; omega)).mono ?_; rintro e w4 ⟨rfl, hs4, hb4⟩; have HS4 := Lib.hid hs4; have HB4 := Lib.hid hb4; clear hs4 hb4)
    | (go_at_call 42; refine HP1.out.mono ?_; rintro e w2 ⟨rfl, hs2, hb2⟩; have HS2 := Lib.hid hs2; have HB2 := Lib.hid hb2; clear hs2 hb2 c0))
  refine bodyPost_ret (v := .tuple #[]) (by simp [results, Tryd.results24, go_sem]; try rfl) rfl ?_
  refine ⟨rfl, _, HS4.out, ?_, HB2.out.trans (HB3.out.trans HB4.out)⟩
  exact (WR.app (WR.app (WR.put l [40]) HR3.out) (WR.put l3 [41])).mono (by simp only [List.length_singleton]; omega)

theorem write_of (t : Ex) (hw : Well t) (HC : CallP t) : WrP t := by
  intro w pb tb tq l lv h1 h9 hr hs ht hlen
  by_cases ho : lv ≤ own t
  · have e : br lv (own t, wI t) = wI t := by unfold br; rw [if_neg (by simp only; omega)]
    rw [e]
    exact (write_low t hw HC w pb tb tq l lv (by omega) (by omega) hr hs ht (by omega)).mono (fun e w' h => ⟨h.1, by
      obtain ⟨l', a, b, c⟩ := h.2
      exact ⟨l', a, b.mono (by omega), c⟩⟩)
  · have e : txI (br lv (own t, wI t)) = 40 :: (txI (wI t) ++ [41]) := by
      unfold br; rw [if_pos (by simp only; omega)]
      show txI ([sgT [40]] ++ (wI t ++ [sgT [41]])) = _
      rw [txI_app, txI_app, xI_sg, xI_sg]; rfl
    rw [e]
    by_cases hf : 4096 < l.length
    · exact (write_full t w pb tb tq l _ lv hs hf).mono (fun e w' h => ⟨h.1, by
        obtain ⟨l', a, b, c⟩ := h.2
        exact ⟨l', a, b.mono (Nat.zero_le _), c⟩⟩)
    · exact write_br t hw HC w pb tb tq l lv (by omega) hr hs ht (by omega) hlen
/-- write, at every well-formed tree -/
theorem wr_all : ∀ (m : Nat) (t : Ex), t.size ≤ m → Well t → WrP t
  | 0, t, h, _ => absurd t.size_pos (by omega)
  | m + 1, t, hm, hw => by
    have ih : ∀ u ∈ t.args, WrP u := fun u hu => wr_all m u (by have := kid_lt hu; omega) (hw.kid hu)
    refine write_of t hw ?_
    intro hk w pb tb tq l hr hs ht hlen
    have iha : ∀ {o : List Nat} {vs : List Ex}, t = callE o vs → ∀ u ∈ vs, WrP u := fun he u hu => ih u (by rw [he]; exact hu)
    rcases look hw with ⟨n, he, hn⟩ | ⟨x, he, h8⟩ | ⟨x, he, h8, hl⟩ | ⟨v, x, a, b, he, hv, hl⟩ | ⟨a, he⟩ | ⟨a, b, c, he⟩ | ⟨x, us, he, hn, hl⟩
    · exact absurd hk (by rw [he]; simp [Ex.kind])
    · exact absurd hk (by rw [he]; simp [Ex.kind])
    · exact absurd hk (by rw [he]; simp [Ex.kind])
    · exact call_bin w pb tb tq l v x a b t he hv hl hr (iha he a (by simp)) (iha he b (by simp)) hs ht hlen
    · exact call_neg w pb tb tq l a t he hr (iha he a (by simp)) hs ht hlen
    · exact call_cut w pb tb tq l a b c t he hr (iha he a (by simp)) (iha he b (by simp)) (iha he c (by simp)) hs ht hlen
    · exact call_app w pb tb tq l x us t he hn hl hr (iha he) hs ht hlen
theorem write_any {t : Ex} (hw : Well t) : WrP t := wr_all t.size t (Nat.le_refl _) hw

end Go.Proofs.YtpabngicbfcdkaaDoor

/- What is parsed is a well-formed tree, and its formatted text has the least number of tokens. -/
namespace Go.Proofs.YtpabngicbfcdkaaDoor
open Go.RowKit
set_option linter.unusedVariables false
set_option linter.unusedSimpArgs false

/-- how many tokens a tree has where the grammar has a level -/
def cst (n : Nat) (t : Ex) : Nat := (tkI (br n (own t, wI t))).length
theorem tkI_br (n : Nat) (p : Nat × List It) : (tkI (br n p)).length = (tkI p.2).length + (if p.1 < n then 2 else 0) := by
  unfold br
  split
  · rw [show sgT [40] = some (5, [40], 0) from rfl, tkI_cons, tkI_app]; simp [sgT, tkI]
  · rfl
theorem cst_eq (n : Nat) (t : Ex) : cst n t = (tkI (wI t)).length + (if own t < n then 2 else 0) := tkI_br n _
theorem cst_mono {n m : Nat} (h : n ≤ m) (t : Ex) : cst n t ≤ cst m t := by
  rw [cst_eq, cst_eq]; split <;> split <;> omega
theorem cst_own {n : Nat} {t : Ex} (h : n ≤ own t) : cst n t = (tkI (wI t)).length := by rw [cst_eq, if_neg (by omega)]; rfl
theorem cst_le (n : Nat) (t : Ex) : (tkI (wI t)).length ≤ cst n t ∧ cst n t ≤ (tkI (wI t)).length + 2 := by
  rw [cst_eq]; split <;> omega
theorem cst_bin {v : Nat} {l : List Nat} {a b : Ex} (hv : 1 ≤ v ∧ v ≤ 7 ∧ v ≠ 3) (hl : l ∈ lvlO v) : cst v (callE l [a, b]) = cst (lftL v) a + 1 + cst (v + 1) b := by
  obtain ⟨h1, h2⟩ := own_bin (a := a) (b := b) hv hl
  rw [cst_own (by rw [h1]; exact Nat.le_refl _), h2, tkI_app, tkI_app, List.length_append, List.length_append]
  rfl
theorem cst_neg (a : Ex) : cst 3 (callE wNot [a]) = 1 + cst 3 a := by
  obtain ⟨h1, h2⟩ := own_neg a
  rw [cst_own (by rw [h1]; exact Nat.le_refl _), h2, tkI_app, List.length_append]
  rfl
theorem cst_cut (a b c : Ex) : cst 8 (callE wCut [a, b, c]) = cst 8 a + 1 + (tkI (wI b)).length + 1 + (tkI (wI c)).length + 1 := by
  obtain ⟨h1, h2⟩ := own_cut a b c
  rw [cst_own (by rw [h1]; exact Nat.le_refl _), h2]
  simp only [tkI_app, List.length_append]
  rfl
def sumT : List Ex → Nat
  | [] => 0
  | t :: r => (tkI (wI t)).length + 1 + sumT r
theorem sumT_app : ∀ a b : List Ex, sumT (a ++ b) = sumT a + sumT b
  | [], b => by simp [sumT]
  | t :: r, b => by simp only [List.cons_append, sumT, sumT_app r b]; omega
theorem tkI_join : ∀ us : List Ex, us ≠ [] → (tkI (joinI (wIs us))).length + 1 = sumT us
  | [], h => absurd rfl h
  | [a], _ => by simp [wIs, joinI, sumT]
  | a :: b :: r, _ => by
    have ih := tkI_join (b :: r) (by simp)
    simp only [wIs, joinI, tkI_app, List.length_append] at ih ⊢
    rw [sumT]
    have : (tkI [sgT [44], none]).length = 1 := rfl
    omega
theorem cst_args {l : List Nat} (hn : isNm l = true) {us : List Ex} (hu : us ≠ []) : cst 8 (callE l us) ≤ 2 + sumT us := by
  by_cases hc : l = wCut ∧ us.length = 3
  · obtain ⟨rfl, h3⟩ := hc
    match us, h3 with
    | [a, b, c], _ =>
      rw [cst_cut]
      have := (cst_le 8 a).2
      simp only [sumT]; omega
  · obtain ⟨h1, h2⟩ := own_app hn hc
    rw [cst_own (by rw [h1]; decide), h2, tkI_app, tkI_app, List.length_append, List.length_append]
    have h3 := tkI_join us hu
    have e1 : (tkI [some (4, l, 0), sgT [40]]).length = 2 := rfl
    have e2 : (tkI [sgT [41]]).length = 1 := rfl
    omega
theorem cst_none {l : List Nat} (hn : isNm l = true) : cst 8 (callE l []) ≤ 3 := by
  obtain ⟨h1, h2⟩ := own_app (us := []) hn (by simp)
  rw [cst_own (by rw [h1]; decide), h2]
  exact Nat.le_refl _

theorem Well.mk {t : Ex} (h : wellN t = true) (hk : ∀ u ∈ t.args, Well u) : Well t :=
  (Ex.all_eq wellN t).2 ⟨h, fun i u hi => hk u (List.mem_of_getElem? hi)⟩
theorem Well.bin {v : Nat} {l : List Nat} {a b : Ex} (hv : 1 ≤ v ∧ v ≤ 7 ∧ v ≠ 3) (hl : l ∈ lvlO v) (ha : Well a) (hb : Well b) : Well (callE l [a, b]) := by
  refine Well.mk ?_ (by intro u hu; simp [callE, Ex.args] at hu; rcases hu with rfl | rfl <;> assumption)
  have e := (lvR_iff v hv.1 hv.2.1 hv.2.2 l).2 hl
  have h8 := ns_bs' (lvlO_8 hv hl)
  unfold wellN
  simp only [callE, Ex.kind, Ex.text, Ex.num, Ex.args, h8, e]
  have : 0 < v := by omega
  simp [this]
theorem Well.neg {a : Ex} (ha : Well a) : Well (callE wNot [a]) := by
  refine Well.mk ?_ (by intro u hu; simp [callE, Ex.args] at hu; rw [hu]; exact ha)
  have h8 : ns (bs wNot) = wNot := ns_bs' (by decide)
  unfold wellN
  have e0 : lvR wNot = 0 := by decide
  simp [callE, Ex.kind, Ex.text, Ex.num, Ex.args, h8, e0]
theorem Well.name {l : List Nat} {us : List Ex} (hn : isNm l = true) (hu : ∀ u ∈ us, Well u) : Well (callE l us) := by
  refine Well.mk ?_ hu
  have h8 := ns_bs' (isNm_8 hn)
  obtain ⟨h1, h2, h3⟩ := isNm_lv hn
  unfold wellN
  simp only [callE, Ex.kind, Ex.text, Ex.num, Ex.args, h8, h1]
  have := hn
  simp only [isNm, Bool.and_eq_true] at this
  simp [h2, h3, this.2]
theorem Well.leaf {k : Nat × List Nat × Nat} (h : goodT k) (hk3 : k.1 ≤ 3) : Well (if k.1 = 1 then .mk 1 (bs []) (k.2.2 : Nat) [] else if k.1 = 2 then .mk 2 (bs k.2.1) 0 [] else .mk 3 (bs k.2.1) 0 []) := by
  obtain ⟨kk, l, n⟩ := k
  rcases h with ⟨h1, h2, h3⟩ | ⟨h1, h2, h3⟩ | ⟨h1, h2, h3, h4⟩ | ⟨h1, h2, h3, h4⟩ | ⟨h1, h2, h3⟩
  · simp only at h1 h2 h3; subst h1
    rw [if_pos rfl]
    refine Well.mk ?_ (by intro u hu; cases hu)
    show (true && decide (0 ≤ ((n : Nat) : Int)) && decide (((n : Nat) : Int) ≤ 1152921504606846976) && true) = true
    rw [decide_eq_true (by omega), decide_eq_true (by omega)]; rfl
  · simp only at h1 h2 h3; subst h1
    rw [if_neg (by simp), if_pos rfl]
    refine Well.mk ?_ (by intro u hu; cases hu)
    rfl
  · simp only at h1 h2 h3 h4; subst h1
    rw [if_neg (by simp), if_neg (by simp)]
    refine Well.mk ?_ (by intro u hu; cases hu)
    have h8 : ∀ c ∈ l, c < 256 := fun c hc => by
      have := List.all_eq_true.1 h4 c hc
      simp [refB, letB, digB] at this; omega
    unfold wellN
    simp only [Ex.kind, Ex.text, Ex.num, Ex.args, ns_bs' h8, h4]
    simp [h3]
  · exact absurd hk3 (by rw [h1]; decide)
  · exact absurd hk3 (by rw [h1]; decide)

def goodTs (ts : List Tk) : Prop := ∀ t ∈ ts, goodT t.1
theorem goodTs.tail {ts : List Tk} (h : goodTs ts) : goodTs ts.tail := fun t ht => h t (List.mem_of_mem_tail ht)
def OkJ : Job → Prop
  | .lev n _ => 1 ≤ n ∧ n ≤ 9
  | .loop n e _ => (1 ≤ n ∧ n ≤ 7 ∧ n ≠ 3 ∧ n ≠ 4) ∧ Well e
  | .post e _ => Well e
  | .args name acc _ => isNm name = true ∧ ∀ u ∈ acc, Well u
def cJ : Job → Nat
  | .lev _ _ => 0
  | .loop n e _ => cst n e
  | .post e _ => cst 8 e
  | .args _ acc _ => 2 + sumT acc
def lJ : Job → Nat
  | .lev n _ => min n 8
  | .loop n _ _ => n
  | _ => 8
def Inv (go : Job → Res) : Prop := ∀ j x, OkJ j → goodTs j.ts → go j = some x → Well x.1 ∧ goodTs x.2 ∧ cst (lJ j) x.1 + x.2.length ≤ j.ts.length + cJ j
theorem bnd {o : Res} {g : Ex × List Tk → Res} {x} (e : o.bind g = some x) : ∃ y, o = some y ∧ g y = some x := by
  cases o with
  | none => cases e
  | some y => exact ⟨y, rfl, e⟩
theorem isT_mem {k : Nat} {l : List (List Nat)} {ts : List Tk} (h : isT k l ts = true) : hdT ts ∈ l := by
  cases ts with
  | nil => cases h
  | cons t r =>
    simp only [isT, Bool.and_eq_true, List.contains_iff_mem] at h
    exact h.2
theorem prim_inv {go : Job → Res} (hi : Inv go) {ts : List Tk} {x} (hg : goodTs ts) (hx : primJ go ts = some x) : Well x.1 ∧ goodTs x.2 ∧ cst 8 x.1 + x.2.length ≤ ts.length := by
  cases ts with
  | nil => cases hx
  | cons t r =>
    have gt := hg t (List.mem_cons_self ..)
    have gr : goodTs r := hg.tail
    simp only [primJ] at hx
    split at hx
    · rename_i h1
      cases hx
      have hw := Well.leaf gt (by omega)
      rw [if_pos h1] at hw
      refine ⟨hw, gr, ?_⟩
      rw [cst_own (by simp [own, Ex.kind])]
      simp [wI, comb, tkI]; omega
    split at hx
    · rename_i h0 h1
      cases hx
      have hw := Well.leaf gt (by omega)
      rw [if_neg h0, if_pos h1] at hw
      refine ⟨hw, gr, ?_⟩
      rw [cst_own (by simp [own, Ex.kind])]
      simp [wI, comb, tkI]; omega
    split at hx
    · rename_i h0 h2 h1
      cases hx
      have hw := Well.leaf gt (by omega)
      rw [if_neg h0, if_neg h2] at hw
      refine ⟨hw, gr, ?_⟩
      rw [cst_own (by simp [own, Ex.kind])]
      simp [wI, comb, tkI]; omega
    split at hx
    · split at hx
      · rename_i h1
        rw [Bool.and_eq_true] at h1
        split at hx
        · rename_i h2
          cases hx
          refine ⟨Well.name h1.1 (by intro u hu; cases hu), gr.tail.tail, ?_⟩
          have := cst_none h1.1
          have := tail_len h1.2
          have := tail_len h2
          simp only [List.length_cons]; omega
        · have := hi _ _ (show OkJ (.args t.1.2.1 [] r.tail) from ⟨h1.1, by intro u hu; cases hu⟩) gr.tail hx
          refine ⟨this.1, this.2.1, ?_⟩
          have h3 := this.2.2
          have := tail_len h1.2
          simp only [lJ, Job.ts, cJ, sumT] at h3
          simp only [List.length_cons]; omega
      · cases hx
    split at hx
    · obtain ⟨y, hy, e⟩ := bnd hx
      split at e
      · rename_i h2
        cases e
        have := hi _ _ (show OkJ (.lev 1 r) from ⟨by decide, by decide⟩) gr hy
        refine ⟨this.1, this.2.1.tail, ?_⟩
        have h3 := this.2.2
        have h4 := tail_len h2
        simp only [lJ, Job.ts, cJ] at h3
        have h5 := (cst_le 8 y.1).2
        have h6 := (cst_le (min 1 8) y.1).1
        simp only [List.length_cons]; omega
      · cases e
    · cases hx
theorem loop_inv {go : Job → Res} (hi : Inv go) {n : Nat} {e : Ex} {ts : List Tk} {x} (hn : 1 ≤ n ∧ n ≤ 7 ∧ n ≠ 3 ∧ n ≠ 4) (he : Well e) (hg : goodTs ts) (hx : loopJ go n e ts = some x) : Well x.1 ∧ goodTs x.2 ∧ cst n x.1 + x.2.length ≤ ts.length + cst n e := by
  unfold loopJ at hx
  split at hx
  · rename_i h1
    obtain ⟨y, hy, e2⟩ := bnd hx
    have a := hi _ _ (show OkJ (.lev (n + 1) ts.tail) from ⟨by omega, by omega⟩) hg.tail hy
    have hb := Well.bin (l := hdT ts) ⟨hn.1, hn.2.1, hn.2.2.1⟩ (isT_mem h1) he a.1
    have b := hi _ _ (show OkJ (.loop n (callE (hdT ts) [e, y.1]) y.2) from ⟨hn, hb⟩) a.2.1 e2
    refine ⟨b.1, b.2.1, ?_⟩
    have a3 := a.2.2
    have b3 := b.2.2
    have hc := cst_bin (a := e) (b := y.1) ⟨hn.1, hn.2.1, hn.2.2.1⟩ (isT_mem h1)
    have h2 := tail_len h1
    simp only [lJ, Job.ts, cJ] at a3 b3
    rw [show min (n + 1) 8 = n + 1 by omega] at a3
    rw [show lftL n = n by unfold lftL; rw [if_neg hn.2.2.2]] at hc
    omega
  · cases hx
    exact ⟨he, hg, by simp only; omega⟩
theorem post_inv {go : Job → Res} (hi : Inv go) {e : Ex} {ts : List Tk} {x} (he : Well e) (hg : goodTs ts) (hx : postJ go e ts = some x) : Well x.1 ∧ goodTs x.2 ∧ cst 8 x.1 + x.2.length ≤ ts.length + cst 8 e := by
  unfold postJ at hx
  split at hx
  · rename_i h1
    obtain ⟨y, hy, e2⟩ := bnd hx
    have a := hi _ _ (show OkJ (.lev 1 ts.tail) from ⟨by decide, by decide⟩) hg.tail hy
    split at e2
    · rename_i h2
      obtain ⟨z, hz, e3⟩ := bnd e2
      have b := hi _ _ (show OkJ (.lev 1 y.2.tail) from ⟨by decide, by decide⟩) a.2.1.tail hz
      split at e3
      · rename_i h3
        have hw : Well (callE wCut [e, y.1, z.1]) := Well.name (by decide) (by intro u hu; simp at hu; rcases hu with rfl | rfl | rfl; exact he; exact a.1; exact b.1)
        have c := hi _ _ (show OkJ (.post (callE wCut [e, y.1, z.1]) z.2.tail) from hw) b.2.1.tail e3
        refine ⟨c.1, c.2.1, ?_⟩
        have a3 := a.2.2
        have b3 := b.2.2
        have c3 := c.2.2
        have hc := cst_cut e y.1 z.1
        have t1 := tail_len h1
        have t2 := tail_len h2
        have t3 := tail_len h3
        simp only [lJ, Job.ts, cJ] at a3 b3 c3
        have q1 := (cst_le (min 1 8) y.1).1
        have q2 := (cst_le (min 1 8) z.1).1
        omega
      · cases e3
    · cases e2
  · cases hx
    exact ⟨he, hg, by simp only; omega⟩
theorem args_inv {go : Job → Res} (hi : Inv go) {name : List Nat} {acc : List Ex} {ts : List Tk} {x} (hn : isNm name = true) (ha : ∀ u ∈ acc, Well u) (hg : goodTs ts) (hx : argsJ go name acc ts = some x) : Well x.1 ∧ goodTs x.2 ∧ cst 8 x.1 + x.2.length ≤ ts.length + (2 + sumT acc) := by
  unfold argsJ at hx
  obtain ⟨y, hy, e⟩ := bnd hx
  have a := hi _ _ (show OkJ (.lev 1 ts) from ⟨by decide, by decide⟩) hg hy
  have a3 := a.2.2
  simp only [lJ, Job.ts, cJ] at a3
  have q1 := (cst_le (min 1 8) y.1).1
  have hall : ∀ u ∈ acc ++ [y.1], Well u := by
    intro u hu
    rcases List.mem_append.1 hu with h | h
    · exact ha u h
    · rw [List.mem_singleton.1 h]; exact a.1
  have hs : sumT (acc ++ [y.1]) = sumT acc + ((tkI (wI y.1)).length + 1) := by rw [sumT_app]; simp [sumT]
  split at e
  · rename_i h1
    have b := hi _ _ (show OkJ (.args name (acc ++ [y.1]) y.2.tail) from ⟨hn, hall⟩) a.2.1.tail e
    refine ⟨b.1, b.2.1, ?_⟩
    have b3 := b.2.2
    have t1 := tail_len h1
    simp only [lJ, Job.ts, cJ] at b3
    omega
  · split at e
    · rename_i h1
      cases e
      refine ⟨Well.name hn hall, a.2.1.tail, ?_⟩
      have t1 := tail_len h1
      have hc := cst_args hn (us := acc ++ [y.1]) (by simp)
      simp only at hc ⊢
      omega
    · cases e
theorem stepJ_inv {go : Job → Res} (hi : Inv go) : Inv (stepJ go) := by
  intro j x ok hg hx
  cases j with
  | loop n e ts => exact loop_inv hi ok.1 ok.2 hg hx
  | post e ts => exact post_inv hi ok hg hx
  | args name acc ts => exact args_inv hi ok.1 ok.2 hg hx
  | lev n ts =>
    obtain ⟨o1, o9⟩ := ok
    change levJ go n ts = some x at hx
    change Well x.1 ∧ goodTs x.2 ∧ cst (min n 8) x.1 + x.2.length ≤ ts.length + 0
    unfold levJ at hx
    split at hx
    · rename_i h3
      subst h3
      unfold notJ at hx
      split at hx
      · rename_i h1
        obtain ⟨y, hy, e⟩ := bnd hx
        cases e
        have a := hi _ _ (show OkJ (.lev 3 ts.tail) from ⟨by decide, by decide⟩) (show goodTs ts.tail from goodTs.tail hg) hy
        refine ⟨a.1.neg, a.2.1, ?_⟩
        have a3 := a.2.2
        simp only [lJ, Job.ts, cJ] at a3
        have := cst_neg y.1
        have := tail_len h1
        simp only [show min 3 8 = 3 from rfl] at a3 ⊢
        omega
      · have a := hi _ _ (show OkJ (.lev 4 ts) from ⟨by decide, by decide⟩) hg hx
        refine ⟨a.1, a.2.1, ?_⟩
        have a3 := a.2.2
        simp only [lJ, Job.ts, cJ] at a3
        have := cst_mono (n := min 3 8) (m := min 4 8) (by decide) x.1
        omega
    split at hx
    · rename_i h3
      subst h3
      unfold cmpJ at hx
      obtain ⟨y, hy, e⟩ := bnd hx
      have a := hi _ _ (show OkJ (.lev 5 ts) from ⟨by decide, by decide⟩) hg hy
      have a3 := a.2.2
      simp only [lJ, Job.ts, cJ] at a3
      split at e
      · rename_i h1
        obtain ⟨z, hz, e⟩ := bnd e
        cases e
        have b := hi _ _ (show OkJ (.lev 5 y.2.tail) from ⟨by decide, by decide⟩) a.2.1.tail hz
        refine ⟨Well.bin ⟨by decide, by decide, by decide⟩ (isT_mem h1) a.1 b.1, b.2.1, ?_⟩
        have b3 := b.2.2
        simp only [lJ, Job.ts, cJ] at b3
        have hc := cst_bin (a := y.1) (b := z.1) ⟨by decide, by decide, by decide⟩ (isT_mem h1)
        have t1 := tail_len h1
        simp only [show min 5 8 = 5 from rfl, show min 4 8 = 4 from rfl, show lftL 4 = 5 from rfl, show 4 + 1 = 5 from rfl] at a3 b3 hc ⊢
        omega
      · cases e
        refine ⟨a.1, a.2.1, ?_⟩
        have := cst_mono (n := min 4 8) (m := min 5 8) (by decide) x.1
        omega
    split at hx
    · rename_i h3
      subst h3
      obtain ⟨y, hy, e⟩ := bnd hx
      have a := hi _ _ (show OkJ (.lev 9 ts) from ⟨by decide, by decide⟩) hg hy
      have b := hi _ _ (show OkJ (.post y.1 y.2) from a.1) a.2.1 e
      refine ⟨b.1, b.2.1, ?_⟩
      have a3 := a.2.2
      have b3 := b.2.2
      simp only [lJ, Job.ts, cJ] at a3 b3
      simp only [show min 9 8 = 8 from rfl, show min 8 8 = 8 from rfl] at a3 ⊢
      omega
    split at hx
    · rename_i h3
      subst h3
      have a := prim_inv hi (ts := ts) hg hx
      exact ⟨a.1, a.2.1, by have := a.2.2; simp only [show min 9 8 = 8 from rfl]; omega⟩
    · rename_i h3 h4 h8 h9
      obtain ⟨y, hy, e⟩ := bnd hx
      have a := hi _ _ (show OkJ (.lev (n + 1) ts) from ⟨by omega, by omega⟩) hg hy
      have b := hi _ _ (show OkJ (.loop n y.1 y.2) from ⟨⟨o1, by omega, h3, h4⟩, a.1⟩) a.2.1 e
      refine ⟨b.1, b.2.1, ?_⟩
      have a3 := a.2.2
      have b3 := b.2.2
      simp only [lJ, Job.ts, cJ] at a3 b3
      have := cst_mono (n := n) (m := min (n + 1) 8) (by omega) y.1
      rw [show min n 8 = n by omega]
      omega
theorem runF_inv : ∀ f, Inv (runF f)
  | 0 => fun j x _ _ h => by cases h
  | f + 1 => stepJ_inv (runF_inv f)
/-- a tree that is parsed is well-formed -/
theorem run_well {ts : List Tk} {x} (hg : goodTs ts) (h : runJ (.lev 1 ts) = some x) : Well x.1 := (runF_inv _ (.lev 1 ts) x ⟨by decide, by decide⟩ hg h).1
/-- no shorter list of tokens is parsed as a tree than that of its formatted text -/
theorem run_least {ts : List Tk} {t : Ex} (hg : goodTs ts) (h : runJ (.lev 1 ts) = some (t, [])) : (tkI (wI t)).length ≤ ts.length := by
  have a := (runF_inv _ (.lev 1 ts) (t, []) ⟨by decide, by decide⟩ hg h).2.2
  simp only [lJ, Job.ts, cJ] at a
  have := (cst_le (min 1 8) t).1
  simp only [List.length_nil] at a
  omega

end Go.Proofs.YtpabngicbfcdkaaDoor

/- The plain laws behind the statements about Format: what Format answers, what Parse makes of that, with other blanks, and without two brackets. -/
namespace Go.Proofs.YtpabngicbfcdkaaDoor
open Go.RowKit
set_option linter.unusedVariables false
set_option linter.unusedSimpArgs false

theorem valGo_le : ∀ (l : List Nat) (n k : Nat), (∀ c ∈ l, c < 256) → n ≤ 1152921504606846976 → valGo n l = some k → k ≤ 1152921504606846976
  | [], n, k, _, hn, h => by simp only [valGo] at h; cases h; exact hn
  | c :: r, n, k, hl, hn, h => by
    simp only [valGo] at h
    split at h
    · cases h
    · have := hl c (by simp)
      exact valGo_le r _ k (fun x hx => hl x (List.mem_cons_of_mem _ hx)) (by omega) h
theorem valP_le {l : List Nat} {v : Nat} (hl : ∀ c ∈ l, c < 256) (h : valP l = some v) : v ≤ 1152921504606846976 := by
  unfold valP at h
  split at h
  · cases h
  · exact valGo_le l 0 v hl (by omega) h
theorem take_all {is : Nat → Bool} (l : List Nat) : (l.take (spn is l)).all is = true := by
  rw [List.all_eq_true]
  intro c hc
  have : l.take (spn is l) = l.takeWhile is := by
    unfold spn
    exact (List.prefix_iff_eq_take.1 (List.takeWhile_prefix is)).symm
  rw [this] at hc
  exact mem_tw l c hc
/-- what is read as a token is one -/
theorem nextP_good {l : List Nat} {t : Nat × List Nat × Nat} {n : Nat} (h : nextP l = some (t, n)) (hl : ∀ c ∈ l, c < 256) : goodT t := by
  have h0 := nextP_ok h hl
  cases l with
  | nil => cases h
  | cons c r =>
    unfold nextP at h
    simp only at h
    split at h
    · cases hv : valP ((c :: r).take (spn digB (c :: r))) with
      | none => rw [hv] at h; cases h
      | some v => rw [hv] at h; cases h; exact .inl ⟨rfl, rfl, valP_le (fun x hx => hl x (List.mem_of_mem_take hx)) hv⟩
    · split at h
      · cases hv : quoP (c :: r) with
        | none => rw [hv] at h; cases h
        | some v =>
          obtain ⟨b, m⟩ := v
          rw [hv] at h; cases h
          exact .inr (.inl ⟨rfl, rfl, h0.1⟩)
      · split at h
        · split at h
          · cases h
          · rename_i hs
            cases h
            refine .inr (.inr (.inl ⟨rfl, rfl, ?_, take_all r⟩))
            intro e
            have := congrArg List.length e
            rw [List.length_take] at this
            have h2 := spn_le refB r
            simp only [List.length_nil] at this
            omega
        · split at h
          · rename_i hlt
            cases h
            refine .inr (.inr (.inr (.inl ⟨rfl, rfl, ?_, take_all (c :: r)⟩)))
            simp only [spn_pos hlt]
            rw [Nat.add_comm, List.take_succ_cons]; simp
          · unfold sgnP at h
            split at h
            · split at h
              · rename_i ho
                cases h
                refine .inr (.inr (.inr (.inr ⟨rfl, rfl, ?_⟩)))
                simp only [oneB, Bool.or_eq_true, beq_iff_eq] at ho
                rcases ho with ((((((((ho | ho) | ho) | ho) | ho) | ho) | ho) | ho) | ho) | ho <;> subst ho <;> decide
              · cases h
            · rename_i d q
              split at h
              · rename_i ho
                cases h
                refine .inr (.inr (.inr (.inr ⟨rfl, rfl, ?_⟩)))
                simp only [twoB, Bool.or_eq_true, Bool.and_eq_true, beq_iff_eq] at ho
                rcases ho with ((ho | ho) | ho) | ho <;> (obtain ⟨rfl, rfl⟩ := ho; decide)
              · split at h
                · rename_i ho
                  cases h
                  refine .inr (.inr (.inr (.inr ⟨rfl, rfl, ?_⟩)))
                  simp only [oneB, Bool.or_eq_true, beq_iff_eq] at ho
                  rcases ho with ((((((((ho | ho) | ho) | ho) | ho) | ho) | ho) | ho) | ho) | ho <;> subst ho <;> decide
                · cases h
theorem toks_good : ∀ (m : Nat) (acc : List Tk) (i : Nat) (l : List Nat) (ts : List Tk), l.length ≤ m → toksGo acc i l = some ts → goodTs acc → (∀ c ∈ l, c < 256) → goodTs ts
  | m, acc, i, [], ts, _, h, ha, _ => by rw [toks_nil] at h; cases h; exact ha
  | 0, acc, i, c :: l, ts, hm, _, _, _ => by simp at hm
  | m + 1, acc, i, c :: l, ts, hm, h, ha, hl => by
    have hl' : ∀ x ∈ l, x < 256 := fun x hx => hl x (List.mem_cons_of_mem _ hx)
    by_cases hb : blankB c = true
    · rw [toks_blank _ _ _ hb] at h
      exact toks_good m acc (i + 1) l ts (by simpa using hm) h ha hl'
    · have hb : blankB c = false := by simpa using hb
      cases hn : nextP (c :: l) with
      | none => rw [toks_none _ _ hb hn] at h; cases h
      | some v =>
        obtain ⟨t, n⟩ := v
        rw [toks_some _ _ hb hn] at h
        have hp := nextP_pos hn
        refine toks_good m _ _ _ ts (by simp at hm ⊢; omega) h (fun x hx => ?_) (fun x hx => hl x (List.mem_of_mem_drop hx))
        rcases List.mem_append.1 hx with hx | hx
        · exact ha x hx
        · rcases List.mem_cons.1 hx with rfl | hx
          · exact nextP_good hn hl
          · cases hx
theorem toksP_good {l : List Nat} {ts : List Tk} (hl : ∀ c ∈ l, c < 256) (h : toksP l = some ts) : goodTs ts :=
  toks_good _ [] 0 l ts (Nat.le_refl _) h (fun t ht => by cases ht) hl

/-- what Parse returns is well-formed, and not deep -/
theorem parseP_well {s : ByteArray} {t : Ex} (h : parseP s = (0, t)) : Well t ∧ t.depth ≤ 64 := by
  unfold parseP at h
  split at h
  · cases h
  · split at h
    · cases h
    · rename_i ts hts
      split at h
      · rename_i u hr
        split at h
        · cases h
        · cases h
          exact ⟨run_well (toksP_good (ns_lt s) hts) hr, by omega⟩
      · cases h

open Classical in
/-- what Format answers: a code, and a text -/
noncomputable def fmtP (t : Ex) : Nat × List Nat := if Well t then (if 64 < t.depth then (9, []) else if 4096 < (txI (wI t)).length then (9, []) else (0, txI (wI t))) else (4, [])
theorem fmtP_ok {t : Ex} (hw : Well t) (hd : t.depth ≤ 64) (hl : (txI (wI t)).length ≤ 4096) : fmtP t = (0, txI (wI t)) := by
  unfold fmtP; rw [if_pos hw, if_neg (by omega), if_neg (by omega)]
theorem fmtP_bad {t : Ex} (hw : ¬ Well t) : fmtP t = (4, []) := by unfold fmtP; rw [if_neg hw]
theorem fmtP_deep {t : Ex} (hw : Well t) (hd : 64 < t.depth) : fmtP t = (9, []) := by unfold fmtP; rw [if_pos hw, if_pos hd]
theorem fmtP_long {t : Ex} (hw : Well t) (hd : t.depth ≤ 64) (hl : 4096 < (txI (wI t)).length) : fmtP t = (9, []) := by unfold fmtP; rw [if_pos hw, if_neg (by omega), if_pos hl]
theorem fmtP_inv {t : Ex} {l : List Nat} (h : fmtP t = (0, l)) : Well t ∧ t.depth ≤ 64 ∧ l.length ≤ 4096 ∧ l = txI (wI t) := by
  unfold fmtP at h
  split at h
  · split at h
    · cases h
    · split at h
      · cases h
      · cases h; exact ⟨by assumption, by omega, by omega, rfl⟩
  · cases h
theorem fmtP_cases (t : Ex) : (¬ Well t ∧ fmtP t = (4, [])) ∨ (Well t ∧ fmtP t = (9, [])) ∨ (Well t ∧ t.depth ≤ 64 ∧ (txI (wI t)).length ≤ 4096 ∧ fmtP t = (0, txI (wI t))) := by
  by_cases hw : Well t
  · by_cases hd : 64 < t.depth
    · exact .inr (.inl ⟨hw, fmtP_deep hw hd⟩)
    · by_cases hl : 4096 < (txI (wI t)).length
      · exact .inr (.inl ⟨hw, fmtP_long hw (by omega) hl⟩)
      · exact .inr (.inr ⟨hw, by omega, by omega, fmtP_ok hw (by omega) (by omega)⟩)
  · exact .inl ⟨hw, fmtP_bad hw⟩
/-- Parse, by the tokens -/
theorem parseP_of {s : ByteArray} {ts : List Tk} {t : Ex} (hs : s.size ≤ 4096) (ht : toksP (ns s) = some ts) (hr : runJ (.lev 1 ts) = some (t, [])) (hd : t.depth ≤ 64) : parseP s = (0, t) := by
  unfold parseP; rw [if_neg (by omega), ht]; simp only [hr]; rw [if_neg (by omega)]
/-- the formatted text has the tree -/
theorem parse_fmt {t : Ex} (hw : Well t) (hd : t.depth ≤ 64) (hl : (txI (wI t)).length ≤ 4096) : parseP (bs (txI (wI t))) = (0, t) :=
  parseP_of (by rw [fm_size hw]; exact hl) (by rw [ns_fm hw]; exact toks_fm hw) (run_toks_fm hw) hd

/-- other blanks -/
def blX (k : Nat) : List Nat := if k % 5 = 0 then [32] else if k % 5 = 1 then [9] else if k % 5 = 2 then [10] else if k % 5 = 3 then [13, 32] else [32, 32]
theorem blX_ok (k : Nat) : blX k ≠ [] ∧ (blX k).length ≤ 2 ∧ ∀ c ∈ blX k, blankB c = true ∧ sepC c = true ∧ c < 256 := by
  unfold blX
  repeat' split
  all_goals decide
/-- the pieces of a text, each token's with blanks behind it -/
def pcs (k : Nat) (T : List Nat) : Nat → List Tk → List Nat
  | _, [] => []
  | j, [x] => T.drop x.2 ++ blX (j + k)
  | j, x :: y :: r => (T.drop x.2).take (y.2 - x.2) ++ blX (j + k) ++ pcs k T (j + 1) (y :: r)
def wdI (k : Nat) : Nat → List It → List Nat
  | j, [] => blX (j + k)
  | j, none :: r => 32 :: wdI k j r
  | j, some t :: r => blX (j + k) ++ tb t ++ wdI k (j + 1) r
theorem pcs_wd (k : Nat) : ∀ (l : List It) (P M : List Nat) (j : Nat) (x : TkK), pcs k (P ++ M ++ txI l) j ((x, P.length) :: atI (P.length + M.length) l) = M ++ wdI k j l
  | [], P, M, j, x => by
    simp [atI, pcs, wdI, txI]
  | none :: r, P, M, j, x => by
    have ih := pcs_wd k r P (M ++ [32]) j x
    have e : P ++ (M ++ [32]) ++ txI r = P ++ M ++ txI (none :: r) := by simp [txI, xI]
    rw [e] at ih
    have e2 : atI (P.length + (M ++ [32]).length) r = atI (P.length + M.length) (none :: r) := by simp [atI]; rfl
    rw [e2] at ih
    rw [ih]; simp [wdI]
  | some t :: r, P, M, j, x => by
    have ih := pcs_wd k r (P ++ M) (tb t) (j + 1) t
    have e : P ++ M ++ tb t ++ txI r = P ++ M ++ txI (some t :: r) := by simp [txI, xI]
    rw [e] at ih
    rw [List.length_append] at ih
    have e2 : atI (P.length + M.length) (some t :: r) = (t, P.length + M.length) :: atI (P.length + M.length + (tb t).length) r := rfl
    rw [e2]
    simp only [pcs]
    rw [ih]
    have e3 : ((P ++ M ++ txI (some t :: r)).drop P.length).take (P.length + M.length - P.length) = M := by
      rw [List.append_assoc, List.drop_left, Nat.add_sub_cancel_left, List.take_left]
    rw [e3]; simp [wdI]
theorem pcs_all (k : Nat) (t : TkK) (l : List It) : pcs k (txI (some t :: l)) 0 (atI 0 (some t :: l)) = tb t ++ wdI k 0 l := by
  have := pcs_wd k l [] (tb t) 0 t
  simp only [List.nil_append, List.length_nil, Nat.zero_add] at this
  rw [← this]
  simp [txI, xI, atI]
theorem toks_blanks : ∀ (b : List Nat) (acc : List Tk) (i : Nat) (X : List Nat), (∀ c ∈ b, blankB c = true) → toksGo acc i (b ++ X) = toksGo acc (i + b.length) X
  | [], acc, i, X, _ => rfl
  | c :: b, acc, i, X, h => by
    rw [List.cons_append, toks_blank _ _ _ (h c (by simp)), toks_blanks b acc (i + 1) X (fun d hd => h d (List.mem_cons_of_mem _ hd))]
    rw [List.length_cons, show i + 1 + b.length = i + (b.length + 1) by omega]
theorem wdI_sep (k : Nat) : ∀ (l : List It) (j : Nat), sepH (wdI k j l)
  | [], j => fun c hc => (blX_ok (j + k)).2.2 c (List.mem_of_mem_head? hc) |>.2.1
  | none :: r, j => fun c hc => by simp [wdI] at hc; subst hc; rfl
  | some t :: r, j => fun c hc => by
    have h := blX_ok (j + k)
    cases hb : blX (j + k) with
    | nil => exact absurd hb h.1
    | cons d q =>
      simp only [wdI, hb, List.cons_append, List.head?_cons, Option.some.injEq] at hc
      subst hc
      exact (h.2.2 d (by rw [hb]; simp)).2.1
theorem toks_one {t : TkK} (ht : goodT t) {X : List Nat} (hX : sepH X) (acc : List Tk) (i : Nat) : toksGo acc i (tb t ++ X) = toksGo (acc ++ [(t, i)]) (i + (tb t).length) X := by
  obtain ⟨hne, hbl⟩ := tb_pos ht
  have hn := next_tb (r := X) ht (.inr hX)
  obtain ⟨c, q, hcq⟩ : ∃ c q, tb t = c :: q := by
    cases hx : tb t with
    | nil => exact absurd hx hne
    | cons c q => exact ⟨c, q, rfl⟩
  have hc := hbl c (by rw [hcq]; rfl)
  have h9 : nextP (c :: (q ++ X)) = some (t, (tb t).length) := by rw [← List.cons_append, ← hcq]; exact hn
  rw [hcq, List.cons_append, toks_some _ _ hc h9, ← List.cons_append, ← hcq, List.drop_left]
/-- items that are tokens -/
def gdI (l : List It) : Prop := ∀ t, some t ∈ l → goodT t
theorem toks_wd (k : Nat) : ∀ (l : List It) (acc : List Tk) (i j : Nat), gdI l → ∃ ts, toksGo acc i (wdI k j l) = some (acc ++ ts) ∧ ts.map (·.1) = tkI l
  | [], acc, i, j, _ => ⟨[], by
      have := toks_blanks (blX (j + k)) acc i [] (fun c hc => ((blX_ok (j + k)).2.2 c hc).1)
      rw [List.append_nil] at this
      simp only [wdI]
      rw [this, toks_nil, List.append_nil], rfl⟩
  | none :: r, acc, i, j, h => by
    obtain ⟨ts, h1, h2⟩ := toks_wd k r acc (i + 1) j (fun t ht => h t (List.mem_cons_of_mem _ ht))
    exact ⟨ts, by simp only [wdI]; rw [toks_blank _ _ _ rfl]; exact h1, h2⟩
  | some t :: r, acc, i, j, h => by
    obtain ⟨ts, h1, h2⟩ := toks_wd k r (acc ++ [(t, i + (blX (j + k)).length)]) (i + (blX (j + k)).length + (tb t).length) (j + 1) (fun t ht => h t (List.mem_cons_of_mem _ ht))
    refine ⟨(t, i + (blX (j + k)).length) :: ts, ?_, by simp only [List.map_cons, h2, tkI_cons]⟩
    simp only [wdI, List.append_assoc]
    rw [toks_blanks _ _ _ _ (fun c hc => ((blX_ok (j + k)).2.2 c hc).1), toks_one (h t (by simp)) (wdI_sep k r (j + 1)), h1]
    simp
theorem OkI_gd : ∀ {l : List It}, OkI l → gdI l
  | [], _, t, h => by cases h
  | none :: r, h, t, ht => by
    rcases List.mem_cons.1 ht with e | ht
    · cases e
    · exact OkI_gd (l := r) h t ht
  | some x :: r, h, t, ht => by
    rcases List.mem_cons.1 ht with e | ht
    · cases e; exact h.1
    · exact OkI_gd h.2.2 t ht
theorem wdI_len (k : Nat) : ∀ (l : List It) (j : Nat), gdI l → (wdI k j l).length ≤ 2 + 3 * (txI l).length
  | [], j, _ => by have := (blX_ok (j + k)).2.1; simp only [wdI]; omega
  | none :: r, j, h => by
    have := wdI_len k r j (fun t ht => h t (List.mem_cons_of_mem _ ht))
    have e : txI (none :: r) = 32 :: txI r := rfl
    simp only [wdI, e, List.length_cons]; omega
  | some t :: r, j, h => by
    have h1 := wdI_len k r (j + 1) (fun t ht => h t (List.mem_cons_of_mem _ ht))
    have h2 := (blX_ok (j + k)).2.1
    have h3 := (tb_pos (h t (by simp))).1
    have h4 : 1 ≤ (tb t).length := by
      cases hx : tb t with
      | nil => exact absurd hx h3
      | cons c q => simp
    have e : txI (some t :: r) = tb t ++ txI r := rfl
    simp only [wdI, e, List.length_append]; omega
theorem wdI_8 (k : Nat) : ∀ (l : List It) (j : Nat), gdI l → ∀ c ∈ wdI k j l, c < 256
  | [], j, _, c, hc => ((blX_ok (j + k)).2.2 c hc).2.2
  | none :: r, j, h, c, hc => by
    rcases List.mem_cons.1 hc with rfl | hc
    · decide
    · exact wdI_8 k r j (fun t ht => h t (List.mem_cons_of_mem _ ht)) c hc
  | some t :: r, j, h, c, hc => by
    simp only [wdI, List.append_assoc] at hc
    rcases List.mem_append.1 hc with hc | hc
    · exact ((blX_ok (j + k)).2.2 c hc).2.2
    · rcases List.mem_append.1 hc with hc | hc
      · exact tb8 (h t (by simp)) c hc
      · exact wdI_8 k r (j + 1) (fun t ht => h t (List.mem_cons_of_mem _ ht)) c hc
/-- the first item is a token -/
theorem wI_head {t : Ex} (hw : Well t) : ∃ x r, wI t = some x :: r := by
  have h := head_ok t.size t (Nat.le_refl _) hw
  have key : ∀ (m : Nat) (t : Ex), t.size ≤ m → Well t → ∃ x r, wI t = some x :: r := by
    intro m
    induction m with
    | zero => intro t h; exact absurd t.size_pos (by omega)
    | succ m ih =>
      intro t hm hw
      have ihk : ∀ u ∈ t.args, ∃ x r, wI u = some x :: r := fun u hu => ih u (by have := kid_lt hu; omega) (hw.kid hu)
      have hbr : ∀ (lv : Nat) (u : Ex), (∃ x r, wI u = some x :: r) → ∃ x r, br lv (own u, wI u) = some x :: r := fun lv u ⟨x, r, e⟩ => by
        unfold br
        split
        · exact ⟨_, _, rfl⟩
        · exact ⟨x, r, e⟩
      rcases look hw with ⟨n, rfl, hn⟩ | ⟨l, rfl, h8⟩ | ⟨l, rfl, h8, hl⟩ | ⟨v, l, a, b, rfl, hv, hl⟩ | ⟨a, rfl⟩ | ⟨a, b, c, rfl⟩ | ⟨l, us, rfl, hn, hl⟩
      · exact ⟨_, _, rfl⟩
      · exact ⟨_, _, rfl⟩
      · exact ⟨_, _, rfl⟩
      · rw [(own_bin hv hl).2]
        obtain ⟨x, r, e⟩ := hbr (lftL v) a (ihk a (by simp [callE, Ex.args]))
        exact ⟨x, r ++ [none, some (lvlK v, l, 0), none] ++ br (v + 1) (own b, wI b), by rw [e]; rfl⟩
      · rw [(own_neg a).2]; exact ⟨_, _, rfl⟩
      · rw [(own_cut a b c).2]
        obtain ⟨x, r, e⟩ := hbr 8 a (ihk a (by simp [callE, Ex.args]))
        exact ⟨x, _, by rw [e]; rfl⟩
      · rw [(own_app hn hl).2]; exact ⟨_, _, rfl⟩
  exact key t.size t (Nat.le_refl _) hw
/-- with other blanks the text has the same tree -/
theorem parse_wide {t : Ex} (k : Nat) (hw : Well t) (hd : t.depth ≤ 64) (hl : (txI (wI t)).length ≤ 800) : parseP (bs (pcs k (txI (wI t)) 0 (atI 0 (wI t)))) = (0, t) := by
  obtain ⟨x, r, e⟩ := wI_head hw
  have hg : gdI (wI t) := OkI_gd (OkI_w t.size t (Nat.le_refl _) hw)
  have hg2 : gdI r := fun t ht => hg t (by rw [e]; exact List.mem_cons_of_mem _ ht)
  have hx : goodT x := hg x (by rw [e]; simp)
  have hlr : (txI r).length ≤ 800 ∧ (tb x).length ≤ 800 := by
    rw [e] at hl
    have e2 : txI (some x :: r) = tb x ++ txI r := rfl
    rw [e2, List.length_append] at hl
    omega
  rw [e, pcs_all]
  have h8 : ∀ c ∈ tb x ++ wdI k 0 r, c < 256 := fun c hc => by
    rcases List.mem_append.1 hc with hc | hc
    · exact tb8 hx c hc
    · exact wdI_8 k r 0 hg2 c hc
  obtain ⟨ts, h1, h2⟩ := toks_wd k r [(x, 0)] (tb x).length 0 hg2
  have ht : toksP (tb x ++ wdI k 0 r) = some ((x, 0) :: ts) := by
    unfold toksP
    rw [toks_one hx (wdI_sep k r 0), Nat.zero_add]
    exact h1
  refine parseP_of (by rw [bs_sz h8, List.length_append]; have := wdI_len k r 0 hg2; omega) (by rw [ns_bs' h8]; exact ht) (run_fm hw ?_) hd
  rw [e, List.map_cons, h2, tkI_cons]

/-- a token's place in the items -/
theorem at_split : ∀ (l : List It) (i o : Nat) (x : Tk), (atI o l)[i]? = some x → ∃ A R, l = A ++ some x.1 :: R ∧ x.2 = o + (txI A).length ∧ (atI o A).length = i ∧ atI o l = atI o A ++ x :: atI (x.2 + (tb x.1).length) R
  | [], i, o, x, h => by simp [atI] at h
  | none :: r, i, o, x, h => by
    obtain ⟨A, R, h1, h2, h3, h4⟩ := at_split r i (o + 1) x h
    refine ⟨none :: A, R, by rw [h1]; rfl, ?_, h3, h4⟩
    have e : txI (none :: A) = 32 :: txI A := rfl
    rw [e, List.length_cons]; omega
  | some t :: r, 0, o, x, h => by
    simp only [atI, List.getElem?_cons_zero, Option.some.injEq] at h
    subst h
    exact ⟨[], r, rfl, by simp [txI], rfl, rfl⟩
  | some t :: r, i + 1, o, x, h => by
    simp only [atI, List.getElem?_cons_succ] at h
    obtain ⟨A, R, h1, h2, h3, h4⟩ := at_split r i (o + (tb t).length) x h
    refine ⟨some t :: A, R, by rw [h1]; rfl, ?_, by simp only [atI, List.length_cons, h3], by simp only [atI, h4, List.cons_append]⟩
    have e : txI (some t :: A) = tb t ++ txI A := rfl
    rw [e, List.length_append]; omega
theorem OkI_blank : ∀ (A : List It) (x : TkK) (R : List It), OkI (A ++ some x :: R) → OkI (A ++ none :: R)
  | [], x, R, h => h.2.2
  | none :: A, x, R, h => OkI_blank A x R h
  | some t :: A, x, R, h => by
    obtain ⟨h1, h2, h3⟩ := h
    refine ⟨h1, ?_, OkI_blank A x R h3⟩
    cases A with
    | nil => exact .inr trivial
    | cons y q => exact h2.imp id (fun h => by cases y <;> exact h)
/-- the text without two brackets -/
def lessX (T : List Nat) (a b : Nat) : List Nat := T.take a ++ [32] ++ (T.drop (a + 1)).take (b - (a + 1)) ++ [32] ++ T.drop (b + 1)
/-- without two of its tokens, a text is no query, or that of another tree -/
theorem less_not {t : Ex} (hw : Well t) {i k : Nat} {x y : Tk} (hi : (atI 0 (wI t))[i]? = some x) (hk : (atI 0 (wI t))[k]? = some y) (hik : i < k) (hx : x.1 = (5, [40], 0)) (hy : y.1 = (5, [41], 0)) : x.2 < y.2 ∧ y.2 < (txI (wI t)).length ∧ parseP (bs (lessX (txI (wI t)) x.2 y.2)) ≠ (0, t) := by
  obtain ⟨A, R, h1, h2, h3, h4⟩ := at_split _ _ _ _ hi
  rw [h4, List.getElem?_append_right (by omega), h3, show k - i = (k - i - 1) + 1 by omega, List.getElem?_cons_succ] at hk
  obtain ⟨B, C, g1, g2, g3, g4⟩ := at_split _ _ _ _ hk
  have ex : tb x.1 = [40] := by rw [hx]; rfl
  have ey : tb y.1 = [41] := by rw [hy]; rfl
  have e0 : txI (wI t) = txI A ++ [40] ++ txI B ++ [41] ++ txI C := by
    rw [h1, g1]
    simp only [txI_app]
    have u : ∀ (z : TkK) (q : List It), txI (some z :: q) = tb z ++ txI q := fun _ _ => rfl
    rw [u, ex, txI_app, u, ey]; simp
  have p1 : x.2 = (txI A).length := by omega
  have p2 : y.2 = (txI A).length + 1 + (txI B).length := by rw [g2, ex, p1]; simp
  have e1 : lessX (txI (wI t)) x.2 y.2 = txI (A ++ none :: (B ++ none :: C)) := by
    have u : ∀ q : List It, txI (none :: q) = 32 :: txI q := fun _ => rfl
    unfold lessX
    rw [txI_app, u, txI_app, u, e0, p1, p2]
    have a1 : (txI A ++ [40] ++ txI B ++ [41] ++ txI C).take (txI A).length = txI A := by
      simp only [List.append_assoc]; exact List.take_left
    have a2 : (txI A ++ [40] ++ txI B ++ [41] ++ txI C).drop ((txI A).length + 1) = txI B ++ [41] ++ txI C := by
      have : txI A ++ [40] ++ txI B ++ [41] ++ txI C = (txI A ++ [40]) ++ (txI B ++ [41] ++ txI C) := by simp
      rw [this]
      exact List.drop_left' (by simp)
    have a3 : (txI A ++ [40] ++ txI B ++ [41] ++ txI C).drop ((txI A).length + 1 + (txI B).length + 1) = txI C := by
      exact List.drop_left' (by simp; omega)
    rw [a1, a2, a3, show (txI A).length + 1 + (txI B).length - ((txI A).length + 1) = (txI B).length by omega]
    have a4 : (txI B ++ [41] ++ txI C).take (txI B).length = txI B := by
      rw [List.append_assoc]; exact List.take_left
    rw [a4]; simp
  refine ⟨by omega, by rw [e0]; simp only [List.length_append, List.length_singleton]; omega, fun hp => ?_⟩
  have hok : OkI (A ++ none :: (B ++ none :: C)) := by
    have h := OkI_w t.size t (Nat.le_refl _) hw
    rw [h1, g1] at h
    have h' := OkI_blank A x.1 _ h
    have : A ++ none :: (B ++ some y.1 :: C) = (A ++ none :: B) ++ some y.1 :: C := by simp
    rw [this] at h'
    have h'' := OkI_blank _ _ _ h'
    simpa using h''
  rw [e1] at hp
  have h8 : ns (bs (txI (A ++ none :: (B ++ none :: C)))) = txI (A ++ none :: (B ++ none :: C)) := ns_bs' (txI8 _ hok)
  unfold parseP at hp
  rw [h8, toksP_I hok] at hp
  split at hp
  · cases hp
  · simp only at hp
    split at hp
    · rename_i u hr
      split at hp
      · cases hp
      · cases hp
        have hg : goodTs (atI 0 (A ++ none :: (B ++ none :: C))) := toksP_good (txI8 _ hok) (toksP_I hok)
        have hle := run_least hg hr
        have hlen : (atI 0 (A ++ none :: (B ++ none :: C))).length = (tkI (A ++ none :: (B ++ none :: C))).length := by rw [← atI_map _ 0, List.length_map]
        rw [hlen, h1, g1] at hle
        simp only [tkI_app, tkI_cons, tkI_none, List.length_append, List.length_cons] at hle
        omega
    · cases hp

end Go.Proofs.YtpabngicbfcdkaaDoor

/- tree.All over wellFormed; syntax.Format. -/
namespace Go.Proofs.YtpabngicbfcdkaaDoor
open Go.RowKit
set_option linter.unusedVariables false
set_option linter.unusedSimpArgs false

theorem cf_wf (args : Array Value) (w : World) : (callFunc 22 args).run Tryd.prog w = .ok (.enter 22 args) w := by
  obtain ⟨c, hc⟩ : ∃ c, Tryd.f22.body = some c := ⟨_, rfl⟩
  exact cf_enter Tryd.func22 (by kernel_rfl) hc args w
mutual
theorem wt_size : ∀ t : Ex, 64 * t.size ≤ wt t
  | .mk k s n us => by
    have := wts_sizes us
    simp only [Ex.size, wt]; omega
theorem wts_sizes : ∀ us : List Ex, 64 * Ex.sizes us ≤ wts us
  | [] => by simp [Ex.sizes]
  | t :: r => by
    have h1 := wt_size t
    have h2 := wts_sizes r
    simp only [Ex.sizes, wts]; omega
end
theorem wt_kid {t : Ex} {i : Nat} {u : Ex} (h : t.args[i]? = some u) : wt u ≤ wt t := by
  have := wts_get h
  have := wt_eq t
  omega
def smallN (u : Ex) : Bool := decide (u.text.size ≤ 1000000000) && decide (u.args.length ≤ 1000000000)
theorem small_all : ∀ (m : Nat) (t : Ex), t.size ≤ m → wt t ≤ 4000000000 → t.all smallN
  | 0, t, h, _ => absurd t.size_pos (by omega)
  | m + 1, t, hm, hw => by
    refine (Ex.all_eq _ t).2 ⟨?_, fun i u hu => small_all m u ?_ (Nat.le_trans (wt_kid hu) hw)⟩
    · have h1 := wt_eq t
      have h2 := wts_len t.args
      simp only [smallN, Bool.and_eq_true, decide_eq_true_eq]
      omega
    · have := Ex.size_kid hu
      have := t.size_eq
      omega
theorem TAB.mono {pb pb' : Nat} {w : World} (h : TAB pb w) (hp : pb ≤ pb') : TAB pb' w := fun w' hb => h w' (hb.mono hp)

set_option maxRecDepth 100000 in
set_option maxHeartbeats 2000000 in
/-- All over wellFormed -/
theorem all_any (T : Nat → Prop) (t : Ex) (p0 : Addr) (w : World) (hr : RdP T w t p0) (hwt : wt t ≤ 4000000000) :
    Calls Tryd.prog 21 #[.pointer (some p0), .func (.func 22) #[] #[]] w fun e w' => (∃ b, e = .returned (.bool b) ∧ (b = true ↔ Well t)) ∧ Below w.heap.size w w' := by
  have hsz : t.size ≤ 1000000000 := by have := wt_size t; omega
  have hsm := small_all t.size t (Nat.le_refl _) hwt
  have HO := Lib.hid (order_any 22 wellN T t p0 w hr hsz cf_wf (fun wx u p hb hu hus hg => by
    obtain ⟨pb, po, rfl⟩ : ∃ pb po, p = ⟨pb, po, none⟩ := ⟨_, _, addr_eta hu.1⟩
    have h1 := ((Ex.all_eq _ u).1 (hg _ hsm)).1
    simp only [smallN, Bool.and_eq_true, decide_eq_true_eq] at h1
    refine wellFormed_any T u pb po wx ?_ h1.2 h1.1
    exact ⟨hu.1, RdE.fr (S := fun _ => False) (.of_below hb) (fun _ _ h => h) u hu.2⟩))
  clear hr hwt hsz hsm
  go_enter Tryd.func21, Tryd.ntmps21
  go_wp2_with fail
  refine HO.out.mono ?_
  rintro e w2 ⟨hb, ⟨L, a, c, rfl, h1, h2, h3, h4, h5⟩ | ⟨rfl, h1⟩⟩
  · have HF := Lib.hid (And.intro hb h4)
    clear hb h1 h2 h3 h4 h5
    go_wp2
    refine bodyPost_ret (v := .bool true) (by simp [results, Tryd.results21, go_sem]; try rfl) rfl ?_
    exact ⟨⟨true, rfl, by simp [HF.out.2]⟩, HF.out.1⟩
  · have HF := Lib.hid (And.intro hb h1)
    clear hb h1
    go_wp2
    refine bodyPost_ret (v := .bool false) (by simp [results, Tryd.results21, go_sem]; try rfl) rfl ?_
    exact ⟨⟨false, rfl, by simp; exact HF.out.2⟩, HF.out.1⟩

set_option maxRecDepth 100000 in
set_option maxHeartbeats 4000000 in
/-- Format, at every tree -/
theorem format_any (T : Nat → Prop) (t : Ex) (ka : Option Addr) (kc : Nat) (w : World) (ha : RdA T w t.args ka) (hc : t.args.length ≤ kc) (hwt : wt t ≤ 4000000000) (ht : TAB w.heap.size w) :
    Calls Tryd.prog 9 #[exV t ka kc] w fun e w' => e = .returned (.tuple #[.string (bs (fmtP t).2), errN (fmtP t).1]) ∧ Below w.heap.size w w' := by
  obtain ⟨w1, hw1⟩ : ∃ w1, w1 = w.alloc (.cells #[.int .i64 t.kind, .string t.text, .int .i64 t.num, .slice ka t.args.length kc] 25) := ⟨_, rfl⟩
  have HRD : Hid (RdP (fun b => T b ∨ b = w.heap.size) w1 t ⟨w.heap.size, 0, none⟩) := Lib.hid ⟨rfl, by rw [hw1]; exact exV_boxed ha hc _⟩
  have HB1 : Hid (Below w.heap.size w w1) := Lib.hid (by rw [hw1]; exact below_alloc _ _)
  have HALL := Lib.hid (all_any _ t ⟨w.heap.size, 0, none⟩ w1 HRD.out hwt)
  have HWT := Lib.hid hwt
  have HT := Lib.hid ht
  have HW1 := Lib.hid hw1
  have HRF : Hid (∀ wx, Below w1.heap.size w1 wx → RdP (fun b => T b ∨ b = w.heap.size) wx t ⟨w.heap.size, 0, none⟩) := Lib.hid (fun wx hb => ⟨rfl, RdE.fr (S := fun _ => False) (.of_below hb) (fun _ _ h => h) t HRD.out.2⟩)
  obtain ⟨g0, hg0⟩ : ∃ g0, g0 = w.heap.size := ⟨_, rfl⟩
  have HG0 := Lib.hid hg0
  clear ha hc hwt ht hw1
  unfold exV
  by_cases hw : Well t
  rotate_left
  · have HA : Hid (Calls Tryd.prog 21 #[.pointer (some ⟨w.heap.size, 0, none⟩), .func (.func 22) #[] #[]] w1 fun e w' => e = .returned (.bool false) ∧ Below w1.heap.size w1 w') := Lib.hid (HALL.out.mono (fun e w' h => by
      obtain ⟨⟨b, h1, h2⟩, h3⟩ := h
      cases b with
      | false => exact ⟨h1, h3⟩
      | true => exact absurd (h2.1 rfl) hw))
    have HP := Lib.hid (fmtP_bad hw)
    clear hw HALL
    go_enter Tryd.func9, Tryd.ntmps9
    go_upto_region 1 with fail
    rw [← HW1.out]
    rw [← hg0] at HA ⊢
    clear hg0
    go_wp2_with (go_at_call 21; refine HA.out.mono ?_; rintro e w2 ⟨rfl, hb2⟩; have HB2 := Lib.hid hb2; clear hb2)
    refine bodyPost_ret (v := .tuple #[.string ⟨#[]⟩, .iface 39 (.int .i64 4)]) (by simp [results, Tryd.results9, go_sem]; try rfl) rfl ?_
    refine ⟨by rw [HP.out]; rfl, bthen HB1.out HB2.out⟩
  have HA : Hid (Calls Tryd.prog 21 #[.pointer (some ⟨w.heap.size, 0, none⟩), .func (.func 22) #[] #[]] w1 fun e w' => e = .returned (.bool true) ∧ Below w1.heap.size w1 w') := Lib.hid (HALL.out.mono (fun e w' h => by
    obtain ⟨⟨b, h1, h2⟩, h3⟩ := h
    rw [h2.2 hw] at h1; exact ⟨h1, h3⟩))
  have HD := Lib.hid (fun (w2 : World) (hb : Below w1.heap.size w1 w2) => deeper_any _ t ⟨w.heap.size, 0, none⟩ 64 w2 (HRF.out w2 hb) (by have h1 := wt_size t; have h2 := HWT.out; omega) (by omega))
  clear HALL
  by_cases hd : 64 < t.depth
  · rw [decide_eq_true hd] at HD
    have HP := Lib.hid (fmtP_deep hw hd)
    clear hw hd
    go_enter Tryd.func9, Tryd.ntmps9
    go_upto_region 1 with fail
    rw [← HW1.out]
    rw [← hg0] at HA HD ⊢
    clear hg0
    go_wp2_with (first
      | (go_at_call 21; refine HA.out.mono ?_; rintro e w2 ⟨rfl, hb2⟩; have HB2 := Lib.hid hb2; clear hb2)
      | (go_at_call 23; refine (HD.out w2 HB2.out).mono ?_; rintro e w3 ⟨rfl, hb3⟩; have HB3 := Lib.hid hb3; clear hb3))
    refine bodyPost_ret (v := .tuple #[.string ⟨#[]⟩, .iface 39 (.int .i64 9)]) (by simp [results, Tryd.results9, go_sem]; try rfl) rfl ?_
    refine ⟨by rw [HP.out]; rfl, bthen (bthen HB1.out HB2.out) HB3.out⟩
  rw [decide_eq_false hd] at HD
  have HWD := Lib.hid (And.intro hw hd)
  have hd64 : t.depth ≤ 64 := by omega
  clear hd
  go_enter Tryd.func9, Tryd.ntmps9
  go_upto_region 1 with fail
  rw [← HW1.out]
  rw [← hg0] at HA HD HRF ⊢
  clear hg0
  go_upto_region 6 with (first
      | (go_at_call 21; refine HA.out.mono ?_; rintro e w2 ⟨rfl, hb2⟩; have HB2 := Lib.hid hb2; clear hb2)
      | (go_at_call 23; refine (HD.out w2 HB2.out).mono ?_; rintro e w3 ⟨rfl, hb3⟩; have HB3 := Lib.hid hb3; clear hb3))
  obtain ⟨w4, hw4⟩ : ∃ w4, w4 = w3.alloc (.cells #[.slice none 0 0] 62) := ⟨_, rfl⟩
  obtain ⟨pb, hpb⟩ : ∃ pb, pb = w3.heap.size := ⟨_, rfl⟩
  have HB13 : Hid (Below w1.heap.size w1 w3) := Lib.hid (bthen HB2.out HB3.out)
  have HB4 : Hid (Below w3.heap.size w3 w4) := Lib.hid (by rw [hw4]; exact below_alloc _ _)
  have HPB : Hid (w.heap.size < pb ∧ w1.heap.size ≤ pb) := Lib.hid (by
    have h1 := HB13.out.size
    have h2 : w1.heap.size = w.heap.size + 1 := by rw [HW1.out]; simp
    omega)
  have HBW4 : Hid (Below w.heap.size w w4) := Lib.hid (bthen (bthen HB1.out HB13.out) HB4.out)
  have HWS : Hid (WS w4 pb []) := Lib.hid (by
    rw [hw4, hpb]
    exact ⟨⟨none, 0, by simp, Own.nil _ _ _ _⟩, fun j => by simp, fun c hc => by cases hc⟩)
  have HRB : Hid (RdB pb w4 t g0 0) := Lib.hid (by
    have h := HRF.out w4 (bthen HB13.out HB4.out)
    have hb3 : RdP (fun b => T b ∨ b = g0) w3 t ⟨g0, 0, none⟩ := HRF.out w3 HB13.out
    refine ⟨rfl, RdE.fr (S := fun _ => False) (.of_below HB4.out) (fun _ _ h => h) t (RdE.mono (fun i hi _ => by rw [hpb]; exact hi) t hb3.2)⟩)
  have HWR := Lib.hid (write_any HWD.out.1 w4 pb g0 0 [] 1 (by decide) (by decide) HRB.out HWS.out ((HT.out.next HBW4.out).mono (Nat.le_of_lt HPB.out.1)) (by have := HWT.out; simp; omega))
  rw [br_one] at HWR
  rw [← hw4, ← hpb]
  clear hw4 hpb
  go_upto_region 7 with (go_at_call 24; refine HWR.out.mono ?_; rintro e w5 ⟨rfl, l5, hs5, hr5, hb5⟩)
  have HS5 := Lib.hid hs5
  have HR5 := Lib.hid hr5
  have HB5 : Hid (Below w.heap.size w w5) := Lib.hid (HBW4.out.trans (hb5.mono (Nat.le_of_lt HPB.out.1)))
  obtain ⟨a5, c5, z5, ho5⟩ := hs5.c0
  have hcv := run_str w5 c5 (Own.rd ho5 (fun y hy => by obtain ⟨u, hu, rfl⟩ := List.mem_map.1 hy; have := hs5.by8 u hu; simp [Lit.wf, IntKind.min, IntKind.max, IntKind.signed, IntKind.bits]; omega)) rfl 60 9 5 Tryd.underlying60 Tryd.underlying5 Tryd.underlying9
  obtain ⟨str, hstr⟩ : ∃ str, str = strOfNums (nints l5) := ⟨_, rfl⟩
  rw [← hstr] at hcv
  have HSTR := Lib.hid hstr
  obtain ⟨N, hN⟩ : ∃ N, N = l5.length := ⟨_, rfl⟩
  rw [← hN] at z5 hcv
  have HN := Lib.hid hN
  clear hs5 hr5 hb5 ho5 hstr hN hw hd64
  by_cases hL : 4096 < (txI (wI t)).length
  · have hNi : (4096 : Int) < (N : Int) := by
      have := HR5.out.big (by simpa using hL)
      have := HN.out
      omega
    have HP := Lib.hid (fmtP_long HWD.out.1 (by have := HWD.out.2; omega) hL)
    clear hL
    go_wp2
    refine bodyPost_ret (v := .tuple #[.string ⟨#[]⟩, .iface 39 (.int .i64 9)]) (by simp [results, Tryd.results9, go_sem]; try rfl) rfl ?_
    exact ⟨by rw [HP.out]; rfl, HB5.out⟩
  · have he : l5 = txI (wI t) := HR5.out.fit (by simp; omega)
    have hNi : decide ((4096 : Int) < (N : Int)) = false := decide_eq_false (by have := HN.out; rw [he] at this; omega)
    have HP := Lib.hid (fmtP_ok HWD.out.1 (by have := HWD.out.2; omega) (by omega : (txI (wI t)).length ≤ 4096))
    have HE := Lib.hid he
    clear hL he
    go_wp2
    refine bodyPost_ret (v := .tuple #[.string str, .nilIface]) (by simp [results, Tryd.results9, go_sem]; try rfl) rfl ?_
    exact ⟨by rw [HP.out, HSTR.out, HE.out]; rfl, HB5.out⟩

end Go.Proofs.YtpabngicbfcdkaaDoor

/- How long the texts of a tree that Parse returns are, taken together. -/
namespace Go.Proofs.YtpabngicbfcdkaaDoor
open Go.RowKit
set_option linter.unusedVariables false
set_option linter.unusedSimpArgs false

theorem bs_len (l : List Nat) : (bs l).size = l.length := by
  show (bs l).data.size = _
  unfold bs strOfNums nints
  simp
/-- no token's text is longer than 4096 -/
def shT (ts : List Tk) : Prop := ∀ t ∈ ts, t.1.2.1.length ≤ 4096
theorem shT.tail {ts : List Tk} (h : shT ts) : shT ts.tail := fun t ht => h t (List.mem_of_mem_tail ht)
theorem shT.hd {ts : List Tk} (h : shT ts) : (hdT ts).length ≤ 4096 := by
  cases ts with
  | nil => exact Nat.zero_le _
  | cons t r => exact h t (List.mem_cons_self ..)
def cW : Job → Nat
  | .lev _ _ => 0
  | .loop _ e _ => wt e + 64
  | .post e _ => wt e + 64
  | .args name acc _ => 4 * name.length + 128 + wts acc
def InW (go : Job → Res) : Prop := ∀ j x, shT j.ts → go j = some x → shT x.2 ∧ wt x.1 + 64 + 20000 * x.2.length ≤ 20000 * j.ts.length + cW j
theorem wt_call (l : List Nat) (us : List Ex) : wt (callE l us) = 4 * l.length + 64 + wts us := by
  show 4 * (bs l).size + 64 + wts us = _
  rw [bs_len]
theorem wts_1 (a : Ex) : wts [a] = wt a + 64 := by simp [wts]
theorem wts_2 (a b : Ex) : wts [a, b] = wt a + 64 + (wt b + 64) := by simp [wts]
theorem wts_3 (a b c : Ex) : wts [a, b, c] = wt a + 64 + (wt b + 64 + (wt c + 64)) := by simp [wts]
theorem prim_inw {go : Job → Res} (hi : InW go) {ts : List Tk} {x} (hg : shT ts) (hx : primJ go ts = some x) : shT x.2 ∧ wt x.1 + 64 + 20000 * x.2.length ≤ 20000 * ts.length := by
  cases ts with
  | nil => cases hx
  | cons t r =>
    have gt := hg t (List.mem_cons_self ..)
    have gr : shT r := hg.tail
    have e0 : (bs []).size = 0 := bs_len []
    have e1 := bs_len t.1.2.1
    simp only [primJ] at hx
    split at hx
    · cases hx
      exact ⟨gr, by simp only [wt, wts, List.length_cons]; omega⟩
    split at hx
    · cases hx
      exact ⟨gr, by simp only [wt, wts, List.length_cons]; omega⟩
    split at hx
    · cases hx
      exact ⟨gr, by simp only [wt, wts, List.length_cons]; omega⟩
    split at hx
    · split at hx
      · rename_i h1
        rw [Bool.and_eq_true] at h1
        split at hx
        · rename_i h2
          cases hx
          refine ⟨gr.tail.tail, ?_⟩
          have := tail_len h1.2
          have := tail_len h2
          rw [wt_call]
          simp only [wts, List.length_cons]; omega
        · have := hi _ _ (show shT (Job.args t.1.2.1 [] r.tail).ts from gr.tail) hx
          refine ⟨this.1, ?_⟩
          have h3 := this.2
          have := tail_len h1.2
          simp only [Job.ts, cW, wts] at h3
          simp only [List.length_cons]; omega
      · cases hx
    split at hx
    · obtain ⟨y, hy, e⟩ := bnd hx
      split at e
      · rename_i h2
        cases e
        have := hi _ _ (show shT (Job.lev 1 r).ts from gr) hy
        refine ⟨this.1.tail, ?_⟩
        have h3 := this.2
        have h4 := tail_len h2
        simp only [Job.ts, cW] at h3
        simp only [List.length_cons]; omega
      · cases e
    · cases hx
theorem loop_inw {go : Job → Res} (hi : InW go) {n : Nat} {e : Ex} {ts : List Tk} {x} (hg : shT ts) (hx : loopJ go n e ts = some x) : shT x.2 ∧ wt x.1 + 64 + 20000 * x.2.length ≤ 20000 * ts.length + (wt e + 64) := by
  unfold loopJ at hx
  split at hx
  · rename_i h1
    obtain ⟨y, hy, e2⟩ := bnd hx
    have a := hi _ _ (show shT (Job.lev (n + 1) ts.tail).ts from hg.tail) hy
    have b := hi _ _ (show shT (Job.loop n (callE (hdT ts) [e, y.1]) y.2).ts from a.1) e2
    refine ⟨b.1, ?_⟩
    have a3 := a.2
    have b3 := b.2
    have h2 := tail_len h1
    have h4 := hg.hd
    simp only [Job.ts, cW] at a3 b3
    rw [wt_call, wts_2] at b3
    omega
  · cases hx
    exact ⟨hg, by simp only; omega⟩
theorem post_inw {go : Job → Res} (hi : InW go) {e : Ex} {ts : List Tk} {x} (hg : shT ts) (hx : postJ go e ts = some x) : shT x.2 ∧ wt x.1 + 64 + 20000 * x.2.length ≤ 20000 * ts.length + (wt e + 64) := by
  unfold postJ at hx
  split at hx
  · rename_i h1
    obtain ⟨y, hy, e2⟩ := bnd hx
    have a := hi _ _ (show shT (Job.lev 1 ts.tail).ts from hg.tail) hy
    split at e2
    · rename_i h2
      obtain ⟨z, hz, e3⟩ := bnd e2
      have b := hi _ _ (show shT (Job.lev 1 y.2.tail).ts from a.1.tail) hz
      split at e3
      · rename_i h3
        have c := hi _ _ (show shT (Job.post (callE wCut [e, y.1, z.1]) z.2.tail).ts from b.1.tail) e3
        refine ⟨c.1, ?_⟩
        have a3 := a.2
        have b3 := b.2
        have c3 := c.2
        have t1 := tail_len h1
        have t2 := tail_len h2
        have t3 := tail_len h3
        simp only [Job.ts, cW] at a3 b3 c3
        rw [wt_call, wts_3, show wCut.length = 3 from rfl] at c3
        omega
      · cases e3
    · cases e2
  · cases hx
    exact ⟨hg, by simp only; omega⟩
theorem args_inw {go : Job → Res} (hi : InW go) {name : List Nat} {acc : List Ex} {ts : List Tk} {x} (hg : shT ts) (hx : argsJ go name acc ts = some x) : shT x.2 ∧ wt x.1 + 64 + 20000 * x.2.length ≤ 20000 * ts.length + (4 * name.length + 128 + wts acc) := by
  unfold argsJ at hx
  obtain ⟨y, hy, e⟩ := bnd hx
  have a := hi _ _ (show shT (Job.lev 1 ts).ts from hg) hy
  have a3 := a.2
  simp only [Job.ts, cW] at a3
  have hs : wts (acc ++ [y.1]) = wts acc + (wt y.1 + 64) := by rw [wts_app, wts_1]
  split at e
  · rename_i h1
    have b := hi _ _ (show shT (Job.args name (acc ++ [y.1]) y.2.tail).ts from a.1.tail) e
    refine ⟨b.1, ?_⟩
    have b3 := b.2
    have t1 := tail_len h1
    simp only [Job.ts, cW] at b3
    omega
  · split at e
    · rename_i h1
      cases e
      refine ⟨a.1.tail, ?_⟩
      have t1 := tail_len h1
      simp only [wt_call]
      omega
    · cases e
theorem stepJ_inw {go : Job → Res} (hi : InW go) : InW (stepJ go) := by
  intro j x hg hx
  cases j with
  | loop n e ts => exact loop_inw hi hg hx
  | post e ts => exact post_inw hi hg hx
  | args name acc ts => exact args_inw hi hg hx
  | lev n ts =>
    change levJ go n ts = some x at hx
    change shT x.2 ∧ wt x.1 + 64 + 20000 * x.2.length ≤ 20000 * ts.length + 0
    unfold levJ at hx
    split at hx
    · unfold notJ at hx
      split at hx
      · rename_i h1
        obtain ⟨y, hy, e⟩ := bnd hx
        cases e
        have a := hi _ _ (show shT (Job.lev 3 ts.tail).ts from shT.tail hg) hy
        refine ⟨a.1, ?_⟩
        have a3 := a.2
        simp only [Job.ts, cW] at a3
        have := tail_len h1
        rw [wt_call, wts_1, show wNot.length = 3 from rfl]
        simp only at a3 ⊢
        omega
      · exact hi _ _ (show shT (Job.lev 4 ts).ts from hg) hx
    split at hx
    · unfold cmpJ at hx
      obtain ⟨y, hy, e⟩ := bnd hx
      have a := hi _ _ (show shT (Job.lev 5 ts).ts from hg) hy
      have a3 := a.2
      simp only [Job.ts, cW] at a3
      split at e
      · rename_i h1
        obtain ⟨z, hz, e⟩ := bnd e
        cases e
        have b := hi _ _ (show shT (Job.lev 5 y.2.tail).ts from a.1.tail) hz
        refine ⟨b.1, ?_⟩
        have b3 := b.2
        simp only [Job.ts, cW] at b3
        have t1 := tail_len h1
        have h4 := a.1.hd
        rw [wt_call, wts_2]
        simp only at a3 b3 ⊢
        omega
      · cases e
        exact ⟨a.1, by omega⟩
    split at hx
    · obtain ⟨y, hy, e⟩ := bnd hx
      have a := hi _ _ (show shT (Job.lev 9 ts).ts from hg) hy
      have b := hi _ _ (show shT (Job.post y.1 y.2).ts from a.1) e
      refine ⟨b.1, ?_⟩
      have a3 := a.2
      have b3 := b.2
      simp only [Job.ts, cW] at a3 b3
      omega
    split at hx
    · have a := prim_inw hi (ts := ts) hg hx
      exact ⟨a.1, by have := a.2; omega⟩
    · obtain ⟨y, hy, e⟩ := bnd hx
      have a := hi _ _ (show shT (Job.lev (n + 1) ts).ts from hg) hy
      have b := hi _ _ (show shT (Job.loop n y.1 y.2).ts from a.1) e
      refine ⟨b.1, ?_⟩
      have a3 := a.2
      have b3 := b.2
      simp only [Job.ts, cW] at a3 b3
      omega
theorem runF_inw : ∀ f, InW (runF f)
  | 0 => fun j x _ h => by cases h
  | f + 1 => stepJ_inw (runF_inw f)
theorem run_wt {ts : List Tk} {x} (hg : shT ts) (h : runJ (.lev 1 ts) = some x) : wt x.1 ≤ 20000 * ts.length := by
  have := (runF_inw _ (.lev 1 ts) x hg h).2
  simp only [Job.ts, cW] at this
  omega
/-- what Parse returns weighs little -/
theorem parseP_wt (s : ByteArray) : wt (parseP s).2 ≤ 100000000 := by
  unfold parseP
  split
  · simp [wt, eE, wts, bs_len]
  · rename_i hs
    split
    · simp [wt, eE, wts, bs_len]
    · rename_i ts hts
      have hl : ts.length ≤ 4096 := by
        have := toks_len _ [] 0 (ns s) ts (Nat.le_refl _) hts
        rw [ns_len] at this
        simp at this; omega
      have hg : shT ts := fun t ht => by
        have := (toks_ok _ [] 0 (ns s) ts 4096 (Nat.le_refl _) (by rw [ns_len]; omega) hts (fun t ht => by cases ht) (ns_lt s) t ht).2
        exact this
      split
      · rename_i u hr
        have := run_wt hg hr
        split
        · simp [wt, eE, wts, bs_len]
        · simp only at this ⊢; omega
      · simp [wt, eE, wts, bs_len]

end Go.Proofs.YtpabngicbfcdkaaDoor

/- Maps keyed by pairs of addresses. -/
namespace Go.Proofs.YtpabngicbfcdkaaDoor
open Go.RowKit
set_option linter.unusedVariables false
set_option linter.unusedSimpArgs false

abbrev penc2 : Addr × Addr → Value := fun p => .agg #[.pointer (some p.1), .pointer (some p.2)]
def OkA2 (w : World) (p : Addr × Addr) : Prop := OkA w p.1 ∧ OkA w p.2
theorem pair_part0 (a b : Value) (w : World) : (part 56 #[a, b] 0).run Tryd.prog w = .ok a w := by kernel_rfl
theorem pair_part1 (a b : Value) (w : World) : (part 56 #[a, b] 1).run Tryd.prog w = .ok b w := by kernel_rfl
theorem pair_fields : ∃ f g : Field, (Tryd.prog.fieldsOf 75).toList = [f, g] ∧ f.name ≠ "_" ∧ g.name ≠ "_" ∧ f.type = 56 ∧ g.type = 56 ∧ f.offset = 0 ∧ g.offset = 1 := by
  unfold Program.fieldsOf
  rw [Tryd.underlying75]
  exact ⟨_, _, rfl, by decide, by decide, rfl, rfl, rfl, rfl⟩
theorem pk2 : PKey Tryd.prog 75 penc2 OkA2 where
  inj x y h := by
    obtain ⟨a, b⟩ := x; obtain ⟨c, d⟩ := y
    simpa [penc2] using h
  und := ⟨_, Tryd.underlying75, fun _ _ => rfl⟩
  chk w em x := by
    obtain ⟨a, b⟩ := x
    cases em <;> kernel_rfl
  eq w x y hx hy := by
    obtain ⟨a, b⟩ := x; obtain ⟨c, d⟩ := y
    have h : (Tryd.prog.info? 25).map (fun i => i.size) = some 4 := by kernel_rfl
    obtain ⟨j, hj, hs⟩ := Option.map_eq_some_iff.1 h
    have e1 := fun n => eqIn_ptr Tryd.underlying56 hj (by rw [hs]; decide) w a c hx.1 hy.1 n
    have e2 := fun n => eqIn_ptr Tryd.underlying56 hj (by rw [hs]; decide) w b d hx.2 hy.2 n
    obtain ⟨f, g, hfs, n1, n2, t1, t2, o1, o2⟩ := pair_fields
    refine ⟨decide (a = c) && decide (b = d), ?_, by simp⟩
    show (Op.equalIn (9998 + 1 + 1) 75 _ _).run Tryd.prog w = _
    rw [run_equalIn_struct w (9998 + 1) 75 _ _ (by unfold Program.fieldsOf; rw [Tryd.underlying75]) (by kernel_rfl), hfs]
    simp only [Op.eqFields, n1, n2, ne_eq, not_false_eq_true, if_true, t1, t2, o1, o2, Sem.run_bind, pair_part0, pair_part1, Result.andThen_ok, e1, e2]
    by_cases h1 : a = c
    · have e2' := e2 9998
      simp only [Nat.reduceAdd] at e2'
      by_cases h2 : b = d
      · simp [h1, h2, pair_part1] at e2' ⊢
        simp [e2']
      · simp [h1, h2, pair_part1] at e2' ⊢
        simp [e2']
    · simp [h1]
  stay w x := by simp [Instr.keyThatStays, Instr.sameBits]

end Go.Proofs.YtpabngicbfcdkaaDoor
