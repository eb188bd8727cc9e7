/-
  byte strings: evergreenref07.TakeBytes.
-/
import Derived.Test.YtjibameejjfdjaaVTakeB
import Derived.Test.YtjibameejjfdjaaVRefTake
namespace Go.Proofs.Ytjibameejjfdjaa
open Go.RowKit

set_option maxRecDepth 100000 in
set_option maxHeartbeats 2000000 in
theorem rtakeBytes_err (a : Option Addr) (n c : Nat) (l : List Int) (most : Int) (w : World) (hr : Rd w .u8 a n l) (h0 : -9223372036854775808 ≤ most) (h1 : most ≤ 9223372036854775807) (k : Int) (h : tb l most = .inl k) :
    Calls Try.prog 21 #[.slice a n c, .int .i64 most] w fun e w' => e = .returned (.tuple #[.slice none 0 0, .int .i64 0, .int .i64 k]) ∧ w = w' := by
  have hmax := hr.max
  have HL := Lib.hid hr.len
  unfold tb at h
  cases hk : tk l with
  | none =>
    rw [hk] at h
    obtain rfl : 4 = k := by simpa using h
    have H := Lib.hid (rtake_none a n c l w hr hk)
    clear h hr hk
    go_enter Try.func21, Try.ntmps21
    go_wp2_with fail
    refine H.out.mono ?_
    rintro e w' ⟨rfl, rfl⟩
    go_wp2
    go_ret3
    exact ⟨rfl, rfl⟩
  | some r =>
    obtain ⟨v, u⟩ := r
    rw [hk] at h
    simp only at h
    have H := Lib.hid (rtake_some a n c l w hr v u hk)
    obtain ⟨N, hN, hN1, hu1, hu2, _⟩ := tk_inv (fun x hx => bd_u8 (hr.wf x hx)) hk
    subst hN
    rw [HL.out] at hu2 h
    clear hr hk
    by_cases hm : max most 0 < (N : Int)
    · rw [if_pos hm] at h
      obtain rfl : 9 = k := by simpa using h
      clear h
      by_cases hp : most < 0
      · have hmx : max most 0 = 0 := by omega
        rw [hmx] at hm
        clear hmx
        go_enter Try.func21, Try.ntmps21
        go_wp2_with fail
        refine H.out.mono ?_
        rintro e w' ⟨rfl, rfl⟩
        go_wp2
        go_ret3
        exact ⟨rfl, rfl⟩
      · have hmx : max most 0 = most := by omega
        rw [hmx] at hm
        clear hmx
        go_enter Try.func21, Try.ntmps21
        go_wp2_with fail
        refine H.out.mono ?_
        rintro e w' ⟨rfl, rfl⟩
        go_wp2
        go_ret3
        exact ⟨rfl, rfl⟩
    · rw [if_neg hm] at h
      by_cases hf : ((n - u : Nat) : Int) < N
      · rw [if_pos hf] at h
        obtain rfl : 4 = k := by simpa using h
        clear h
        by_cases hp : most < 0
        · omega
        · have hmx : max most 0 = most := by omega
          rw [hmx] at hm
          clear hmx
          have hf2 : (n : Int) - u < N := by omega
          clear hf
          go_enter Try.func21, Try.ntmps21
          go_wp2_with fail
          refine H.out.mono ?_
          rintro e w' ⟨rfl, rfl⟩
          go_wp2
          go_ret3
          exact ⟨rfl, rfl⟩
      · rw [if_neg hf] at h; cases h

set_option maxRecDepth 100000 in
set_option maxHeartbeats 2000000 in
theorem rtakeBytes_ok (a : Option Addr) (n c : Nat) (l : List Int) (most : Int) (w : World) (hr : Rd w .u8 a n l) (hc : n ≤ c) (hn : n ≤ 140737488355328) (h0 : -9223372036854775808 ≤ most) (h1 : most ≤ 9223372036854775807) (r : List Int) (q : Nat) (h : tb l most = .inr (r, q)) :
    Calls Try.prog 21 #[.slice a n c, .int .i64 most] w (TbOk w.heap.size r q (.int .i64 0) w) := by
  have hmax := hr.max
  have HL := Lib.hid hr.len
  unfold tb at h
  cases hk : tk l with
  | none => rw [hk] at h; cases h
  | some r' =>
    obtain ⟨v, u⟩ := r'
    rw [hk] at h
    simp only at h
    have H := Lib.hid (rtake_some a n c l w hr v u hk)
    obtain ⟨N, hN, hN1, hu1, hu2, _⟩ := tk_inv (fun x hx => bd_u8 (hr.wf x hx)) hk
    subst hN
    rw [HL.out] at hu2 h
    clear hk
    by_cases hm : max most 0 < (N : Int)
    · rw [if_pos hm] at h; cases h
    rw [if_neg hm] at h
    by_cases hf : ((n - u : Nat) : Int) < N
    · rw [if_pos hf] at h; cases h
    rw [if_neg hf, Int.toNat_natCast] at h
    simp only [Sum.inr.injEq, Prod.mk.injEq] at h
    obtain ⟨hrr, hq⟩ := h
    have hf2 : (N : Int) ≤ (n : Int) - u := by omega
    have hf3 : u + N ≤ n := by omega
    obtain ⟨ax, hrx, hcut⟩ := hr.cutLH E8 (c := c) (u := u) (v := u + N) (by omega) hf3 hc
    rw [show u + N - u = N by omega] at hrx hcut
    rw [Int.natCast_add] at hcut
    have HX := Lib.hid hrx
    have hrr2 : (l.take (u + N)).drop u = r := by rw [← hrr, List.drop_take, show u + N - u = N by omega]
    rw [hrr2] at HX
    have HQ := Lib.hid hq
    have hlr : r.length = N := by rw [← hrr, List.length_take, List.length_drop, HL.out]; omega
    have HLR := Lib.hid hlr
    clear hf hr hrx hrr hq hlr hrr2
    by_cases hp : most < 0
    · have hmx : max most 0 = 0 := by omega
      rw [hmx] at hm
      have hm2 : (N : Int) ≤ 0 := by omega
      clear hmx hm
      go_enter Try.func21, Try.ntmps21
      go_wp2_with fail
      refine H.out.mono ?_
      rintro e w' ⟨rfl, rfl⟩
      go_wp2_with (at_builtin; refine app_rd (.tmp 32) (.tmp 39) E8 rfl rfl w.heap.size _ [] rfl (Own.lits w .u8 _ [] _ (Nat.le_refl _) (by simp)) _ _ _ r rfl (HX.out.below (below_alloc _ _)) (by rw [HLR.out]; simp; omega) (by omega) (by simp) ?_; intro a2 c2 w2 ho2 hg2)
      have hb2 := Lib.hid ((below_alloc w _).trans (grown_below (Own.lits w .u8 _ [] _ (Nat.le_refl _) (by simp)) hg2 (by simp)))
      have ho2 := Lib.hid ho2
      clear hg2
      go_wp2
      go_ret3
      refine ⟨a2, c2, ret_eq (by rw [← HQ.out]; simp), by simpa using ho2.out, hb2.out⟩
    · have hmx : max most 0 = most := by omega
      rw [hmx] at hm
      clear hmx
      have hm2 : (N : Int) ≤ most := by omega
      clear hm
      go_enter Try.func21, Try.ntmps21
      go_wp2_with fail
      refine H.out.mono ?_
      rintro e w' ⟨rfl, rfl⟩
      go_wp2_with (at_builtin; refine app_rd (.tmp 32) (.tmp 39) E8 rfl rfl w.heap.size _ [] rfl (Own.lits w .u8 _ [] _ (Nat.le_refl _) (by simp)) _ _ _ r rfl (HX.out.below (below_alloc _ _)) (by rw [HLR.out]; simp; omega) (by omega) (by simp) ?_; intro a2 c2 w2 ho2 hg2)
      have hb2 := Lib.hid ((below_alloc w _).trans (grown_below (Own.lits w .u8 _ [] _ (Nat.le_refl _) (by simp)) hg2 (by simp)))
      have ho2 := Lib.hid ho2
      clear hg2
      go_wp2
      go_ret3
      refine ⟨a2, c2, ret_eq (by rw [← HQ.out]; simp), by simpa using ho2.out, hb2.out⟩

end Go.Proofs.Ytjibameejjfdjaa
