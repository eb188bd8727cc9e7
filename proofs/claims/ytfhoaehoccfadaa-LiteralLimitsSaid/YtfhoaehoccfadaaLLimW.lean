/-
  LiteralLimits: the walk.
-/
import Derived.Test.YtfhoaehoccfadaaLEndsS
namespace Go.Proofs.Ytfhoaehoccfadaa
open Go.RowKit Go.Maps
set_option linter.unusedVariables false
set_option linter.unusedSimpArgs false

theorem EU : Elt Try.prog 44 5 .u8 1 := ⟨Try.underlying44, info_parts (by kernel_rfl)⟩

theorem addP_one (p : List Int) : ∀ k, k ≤ p.length → (addP p [[]] k).length = k + 1 ∧ ∀ x ∈ addP p [[]] k, x.length ≤ k
  | 0, _ => ⟨rfl, fun x hx => by have : x = [] := (by simpa [addP] using hx); rw [this]; simp⟩
  | k + 1, hk => by
    obtain ⟨h1, h2⟩ := addP_one p k (by omega)
    have hl : (p.take (k + 1)).length = k + 1 := by rw [List.length_take]; omega
    have hn : p.take (k + 1) ∉ addP p [[]] k := fun hm => by have := h2 _ hm; omega
    unfold addP
    rw [if_neg hn]
    refine ⟨by simp [h1], fun x hx => ?_⟩
    rcases List.mem_append.1 hx with h | h
    · have := h2 x h; omega
    · rw [List.mem_singleton] at h; rw [h, hl]; exact Nat.le_refl _
theorem trie_one (p : List Int) : (trieOf [p]).length = p.length + 1 := (addP_one p p.length (Nat.le_refl _)).1
theorem lim_code (k : Nat) (b : Int) : ocode [List.replicate k b] = if k = 0 then 4 else if 255 < k then 9 else 0 := by
  unfold ocode
  by_cases h0 : k = 0
  · subst h0; rw [if_pos (.inr (by simp)), if_pos rfl]
  · rw [if_neg (by rintro (h | h); cases h; simp only [List.mem_singleton] at h; have := congrArg List.length h; simp at this; exact h0 this.symm), if_neg h0, trie_one, List.length_replicate]
    by_cases h1 : 255 < k
    · rw [if_pos h1, if_pos (by omega)]
    · rw [if_neg h1, if_neg (by omega)]
theorem fill_step {k i : Nat} {b : Int} (h : i < k) : (List.replicate i b ++ List.replicate (k - i) 0).set i b = List.replicate (i + 1) b ++ List.replicate (k - (i + 1)) 0 := by
  rw [List.set_append, if_neg (by simp), List.length_replicate, Nat.sub_self, show k - i = (k - (i + 1)) + 1 by omega, List.replicate_succ, List.set_cons_zero, List.replicate_succ' (n := i)]
  simp

theorem OfPost.ok {ps w e w'} (h : OfPost ps w e w') (h0 : ocode ps = 0) : Below w.heap.size w w' ∧ ∃ ac an cn aa ca ah ch, e = .returned (.tuple #[.agg #[.int .i64 0, .slice ac 256 256, .slice an (prefs ps).length cn, .slice aa (prefs ps).length ca], .slice ah (prefs ps).length ch, .nilIface]) ∧
      RdM w' ac 256 an (prefs ps).length aa (prefs ps).length (litC ps) (litN ps) (litA ps) ∧ Rd w' .i64 ah (prefs ps).length (litH ps) := by
  obtain ⟨hb, ⟨h1, _⟩ | ⟨_, h2⟩⟩ := h
  · exact absurd h0 h1
  · exact ⟨hb, h2⟩
theorem OfPost.bad {ps w e w'} {k : Int} (h : OfPost ps w e w') (hk : ocode ps = k) (h0 : k ≠ 0) : Below w.heap.size w w' ∧ e = .returned (.tuple #[.agg #[.int .i64 0, .slice none 0 0, .slice none 0 0, .slice none 0 0], .slice none 0 0, errV k]) := by
  obtain ⟨hb, ⟨_, h2⟩ | ⟨h1, _⟩⟩ := h
  · rw [hk] at h2; exact ⟨hb, h2⟩
  · exact absurd (hk ▸ h1) h0

set_option maxRecDepth 100000 in
set_option maxHeartbeats 2000000 in
theorem walk_LiteralLimits (a0 a1 : Int) (a2 : Bool) (W : World) (w0 : (Lit.int .u8 a0).wf = true) (w1 : (Lit.int .u16 a1).wf = true) :
    Calls Try.prog 8 #[.int .u8 a0, .int .u16 a1, .bool a2] W fun e w' => e = .returned (.bool true) ∧ Below W.heap.size W w' := by
  have hn1 : 0 ≤ a1 ∧ a1 ≤ 65535 := by simpa [Lit.wf, IntKind.min, IntKind.max, IntKind.signed, IntKind.bits] using w1
  obtain ⟨n, rfl⟩ := Int.eq_ofNat_of_zero_le hn1.1
  obtain ⟨K, hK⟩ : ∃ K : Nat, K = n % 600 := ⟨_, rfl⟩
  have hK6 : K < 600 := by omega
  have hrem : Int.tmod (n : Int) 600 = (K : Int) := by rw [hK]; rfl
  have hwn : IntKind.i64.wrap (n : Int) = (n : Int) := IntWalk.i64_in _ (by omega)
  have hwk : IntKind.i64.wrap (K : Int) = (K : Int) := IntWalk.i64_in _ (by omega)
  have HW0 := Lib.hid w0
  have HK := Lib.hid hK
  clear w1 hK w0
  go_enter Try.func8, Try.ntmps8
  go_wp2_with (at_make; refine make_full EU rfl _ _ rfl W.heap.size _ _ _ _ K rfl rfl rfl rfl (by omega) (by omega) (Nat.le_refl _) ?_; intro w2 ho2 hg2; have HO2 := Lib.hid ho2; have HB2 := Lib.hid (grown_below' hg2 (Nat.le_refl W.heap.size)); clear ho2 hg2)
  obtain ⟨g, hg⟩ : ∃ g, g = W.heap.size := ⟨_, rfl⟩
  rw [← hg] at HO2 HB2 ⊢
  have HG := Lib.hid hg
  clear hg
  go_loopg [9] K (fun gg iv wr => ∃ i : Nat, i ≤ K ∧ gg = K - i ∧ iv = .int .i64 i ∧ Own wr g 5 .u8 (.slice (some ⟨g, 0, none⟩) K K) (List.replicate i a0 ++ List.replicate (K - i) 0) ∧ Below g W wr)
  case atStart => exact ⟨0, by omega, rfl, rfl, by simpa using HO2.out, HB2.out⟩
  case round =>
    obtain ⟨i, hi, rfl, rfl, ho, hbl⟩ := hrel
    have HO := Lib.hid ho
    have HBL := Lib.hid hbl
    clear ho hbl HO2 HB2
    by_cases hlt : i < K
    · have hiz : (i : Int) < (K : Int) := by omega
      go_wp2_with (refine store_int rfl 5 .u8 (.tmp 30) (.tmp 29) rfl g i rfl a0 rfl (by kernel_rfl) g _ _ _ _ HO.out (by simp; omega) (by simp; omega) ?_; intro w7 ho7 hg7; have HO7 := Lib.hid ho7; have HG7 := Lib.hid hg7; clear ho7 hg7)
      go_roundg (K - (i + 1))
      case measure => omega
      case rel => exact ⟨i + 1, by omega, rfl, by go_num, by rw [← fill_step hlt]; exact HO7.out, HBL.out.grown HG7.out (by have := HBL.out.size; rw [HG.out]; exact this) (fun x hx => by cases hx; exact Nat.le_refl _)⟩
    · have hik : i = K := by omega
      subst hik
      have HBW : Hid (Below W.heap.size W wr) := Lib.hid (by rw [← HG.out]; exact HBL.out)
      have HRP : Hid (Rd wr .u8 (some ⟨g, 0, none⟩) i (List.replicate i a0)) := Lib.hid (by
        have h := HO.out
        rw [Nat.sub_self, List.replicate_zero, List.append_nil] at h
        exact Own.rd h (fun x hx => by rw [List.eq_of_mem_replicate hx]; exact HW0.out))
      have HPR : Hid (∀ w2, Rd w2 .u8 (some ⟨g, 0, none⟩) i (List.replicate i a0) → RdRows (w2.alloc (.cells #[.slice (some ⟨g, 0, none⟩) i i] 44)) .u8 (some ⟨w2.heap.size, 0, none⟩) 1 [List.replicate i a0]) := Lib.hid (fun w2 h => ⟨rfl, by decide, fun j hj => by
        obtain rfl : j = 0 := by omega
        exact ⟨_, _, _, _, _, rfl, by simp, h.below (below_alloc _ _), Nat.le_refl _⟩⟩)
      obtain ⟨T, hT⟩ : ∃ T : Nat, T = 65537 := ⟨_, rfl⟩
      have HT := Lib.hid hT
      clear HBL HO hT hlt hi
      have HOF := Lib.hid (of_any _ 1 1 [List.replicate i a0] _ (HPR.out wr HRP.out) (by simp))
      have HCODE := Lib.hid (lim_code i a0)
      have HPLN : Hid (ocode [List.replicate i a0] = 0 → (prefs [List.replicate i a0]).length = i + 1) := Lib.hid (fun _ => by rw [← trie_len, trie_one, List.length_replicate])
      by_cases hk0 : i = 0
      · have hz0 : ((i : Int) == 0) = true := by simp; omega
        have HZ0 := Lib.hid hk0
        clear hk0
        cases a2 with
        | true =>
          go_wp2_with fail
          refine HOF.out.mono ?_
          have HC : Hid (ocode [List.replicate i a0] = 4) := Lib.hid (by rw [HCODE.out, if_pos HZ0.out])
          rintro e w5 hp5
          obtain ⟨hb5, rfl⟩ := hp5.bad HC.out (by decide)
          rw [show errV 4 = Value.iface 56 (.int .i64 4) from rfl]
          have HB5 := Lib.hid ((HBW.out.trans ((below_alloc wr (.cells #[.slice (some ⟨g, 0, none⟩) i i] 44)).mono HBW.out.size)).trans (hb5.mono (by have := HBW.out.size; simp; omega)))
          have HRP5 := Lib.hid ((HRP.out.below (below_alloc wr (.cells #[.slice (some ⟨g, 0, none⟩) i i] 44))).below hb5)
          clear hp5 hb5
          obtain ⟨w6, hw6⟩ : ∃ w6, w6 = w5.alloc (.cells #[.int .i64 0, .slice none 0 0, .slice none 0 0, .slice none 0 0] 28) := ⟨_, rfl⟩
          have HX6 : Hid (w6.cell? ⟨w5.heap.size, 2, none⟩ = some (.slice none 0 0)) := Lib.hid (by rw [hw6]; simp)
          have HB6 := Lib.hid (show Below w5.heap.size w5 w6 by rw [hw6]; exact below_alloc _ _)
          have HW6 := Lib.hid hw6
          clear hw6
          go_wp2_with (first
            | (at_make; rw [← HW6.out]; refine make_full EU rfl _ _ rfl w6.heap.size _ _ _ _ 9 rfl rfl rfl rfl (by omega) (by omega) (Nat.le_refl _) ?_; intro w7 ho7 hg7; have HO7 := Lib.hid ho7; have HB7 := Lib.hid (grown_below' hg7 (Nat.le_refl w6.heap.size)); clear ho7 hg7)
            | (at_make; refine make_full EU rfl _ _ rfl w7.heap.size _ _ _ _ T rfl rfl (by rw [HT.out]; rfl) (by rw [HT.out]; rfl) (by rw [HT.out]; decide) (by rw [HT.out]; decide) (Nat.le_refl _) ?_; intro w8 ho8 hg8; have HO8 := Lib.hid ho8; have HB8 := Lib.hid (grown_below' hg8 (Nat.le_refl w7.heap.size)); clear ho8 hg8))
          have HB78 := Lib.hid (bthen HB7.out HB8.out)
          have HRT := Lib.hid (Own.rd HO8.out (fun x hx => by rw [List.eq_of_mem_replicate hx]; decide))
          have HRP8 := Lib.hid ((HRP5.out.below HB6.out).below HB78.out)
          have HEA := Lib.hid (ends_any _ 1 1 [List.replicate i a0] _ T T _ _ (HPR.out w8 HRP8.out) (by simp) (HRT.out.below (below_alloc w8 (.cells #[.slice (some ⟨g, 0, none⟩) i i] 44))))
          have HEC : Hid (ecode [List.replicate i a0] (List.replicate T 0) = 4) := Lib.hid (by unfold ecode; rw [if_pos (by rw [HC.out]; decide)]; exact HC.out)
          refine HEA.out.mono ?_
          rintro e w9 hp9
          obtain ⟨hb9, rfl⟩ := hp9.bad HEC.out (by decide)
          rw [show errV 4 = Value.iface 56 (.int .i64 4) from rfl]
          have HB9 := Lib.hid ((below_alloc w8 (.cells #[.slice (some ⟨g, 0, none⟩) i i] 44)).trans (hb9.mono (by simp)))
          clear hp9 hb9
          go_wp2_with fail
          refine (awake_any w9).mono ?_
          rintro e w10 ⟨rfl, hb10⟩
          have HB10 := Lib.hid (bthen (bthen HB78.out HB9.out) hb10)
          have hx10 := below_cell HB10.out HX6.out
          clear hb10
          go_wp2_with fail
          refine (num_errno 4 w10).mono ?_
          rintro e w11 ⟨rfl, rfl⟩
          go_wp2_with fail
          refine (num_errno 4 w10).mono ?_
          rintro e w11 ⟨rfl, rfl⟩
          go_wp2
          go_ret
          exact ⟨rfl, bthen HB5.out (bthen HB6.out HB10.out)⟩
        | false =>
          go_wp2_with fail
          refine HOF.out.mono ?_
          have HC : Hid (ocode [List.replicate i a0] = 4) := Lib.hid (by rw [HCODE.out, if_pos HZ0.out])
          rintro e w5 hp5
          obtain ⟨hb5, rfl⟩ := hp5.bad HC.out (by decide)
          rw [show errV 4 = Value.iface 56 (.int .i64 4) from rfl]
          have HB5 := Lib.hid ((HBW.out.trans ((below_alloc wr (.cells #[.slice (some ⟨g, 0, none⟩) i i] 44)).mono HBW.out.size)).trans (hb5.mono (by have := HBW.out.size; simp; omega)))
          have HRP5 := Lib.hid ((HRP.out.below (below_alloc wr (.cells #[.slice (some ⟨g, 0, none⟩) i i] 44))).below hb5)
          clear hp5 hb5
          obtain ⟨w6, hw6⟩ : ∃ w6, w6 = w5.alloc (.cells #[.int .i64 0, .slice none 0 0, .slice none 0 0, .slice none 0 0] 28) := ⟨_, rfl⟩
          have HX6 : Hid (w6.cell? ⟨w5.heap.size, 2, none⟩ = some (.slice none 0 0)) := Lib.hid (by rw [hw6]; simp)
          have HB6 := Lib.hid (show Below w5.heap.size w5 w6 by rw [hw6]; exact below_alloc _ _)
          have HW6 := Lib.hid hw6
          clear hw6
          go_wp2_with (at_make; rw [← HW6.out]; refine make_full EU rfl _ _ rfl w6.heap.size _ _ _ _ 9 rfl rfl rfl rfl (by omega) (by omega) (Nat.le_refl _) ?_; intro w7 ho7 hg7; have HO7 := Lib.hid ho7; have HB7 := Lib.hid (grown_below' hg7 (Nat.le_refl w6.heap.size)); clear ho7 hg7)
          have HB78 := Lib.hid HB7.out
          have HRT := Lib.hid (Own.rd HO7.out (fun x hx => by rw [List.eq_of_mem_replicate hx]; decide))
          have HRP8 := Lib.hid ((HRP5.out.below HB6.out).below HB78.out)
          have HEA := Lib.hid (ends_any _ 1 1 [List.replicate i a0] _ 9 9 _ _ (HPR.out w7 HRP8.out) (by simp) (HRT.out.below (below_alloc w7 (.cells #[.slice (some ⟨g, 0, none⟩) i i] 44))))
          have HEC : Hid (ecode [List.replicate i a0] (List.replicate 9 0) = 4) := Lib.hid (by unfold ecode; rw [if_pos (by rw [HC.out]; decide)]; exact HC.out)
          refine HEA.out.mono ?_
          rintro e w9 hp9
          obtain ⟨hb9, rfl⟩ := hp9.bad HEC.out (by decide)
          rw [show errV 4 = Value.iface 56 (.int .i64 4) from rfl]
          have HB9 := Lib.hid ((below_alloc w7 (.cells #[.slice (some ⟨g, 0, none⟩) i i] 44)).trans (hb9.mono (by simp)))
          clear hp9 hb9
          go_wp2_with fail
          refine (awake_any w9).mono ?_
          rintro e w10 ⟨rfl, hb10⟩
          have HB10 := Lib.hid (bthen (bthen HB78.out HB9.out) hb10)
          have hx10 := below_cell HB10.out HX6.out
          clear hb10
          go_wp2_with fail
          refine (num_errno 4 w10).mono ?_
          rintro e w11 ⟨rfl, rfl⟩
          go_wp2_with fail
          refine (num_errno 4 w10).mono ?_
          rintro e w11 ⟨rfl, rfl⟩
          go_wp2
          go_ret
          exact ⟨rfl, bthen HB5.out (bthen HB6.out HB10.out)⟩
      · have hz0 : ((i : Int) == 0) = false := by simp; omega
        have HZ0 := Lib.hid hk0
        clear hk0
        by_cases hk1 : 255 < i
        · have hz1 : decide ((255 : Int) < (i : Int)) = true := by simp; omega
          have HZ1 := Lib.hid hk1
          clear hk1
          cases a2 with
          | true =>
            go_wp2_with fail
            refine HOF.out.mono ?_
            have HC : Hid (ocode [List.replicate i a0] = 9) := Lib.hid (by rw [HCODE.out, if_neg HZ0.out, if_pos HZ1.out])
            rintro e w5 hp5
            obtain ⟨hb5, rfl⟩ := hp5.bad HC.out (by decide)
            rw [show errV 9 = Value.iface 56 (.int .i64 9) from rfl]
            have HB5 := Lib.hid ((HBW.out.trans ((below_alloc wr (.cells #[.slice (some ⟨g, 0, none⟩) i i] 44)).mono HBW.out.size)).trans (hb5.mono (by have := HBW.out.size; simp; omega)))
            have HRP5 := Lib.hid ((HRP.out.below (below_alloc wr (.cells #[.slice (some ⟨g, 0, none⟩) i i] 44))).below hb5)
            clear hp5 hb5
            obtain ⟨w6, hw6⟩ : ∃ w6, w6 = w5.alloc (.cells #[.int .i64 0, .slice none 0 0, .slice none 0 0, .slice none 0 0] 28) := ⟨_, rfl⟩
            have HX6 : Hid (w6.cell? ⟨w5.heap.size, 2, none⟩ = some (.slice none 0 0)) := Lib.hid (by rw [hw6]; simp)
            have HB6 := Lib.hid (show Below w5.heap.size w5 w6 by rw [hw6]; exact below_alloc _ _)
            have HW6 := Lib.hid hw6
            clear hw6
            go_wp2_with (first
              | (at_make; rw [← HW6.out]; refine make_full EU rfl _ _ rfl w6.heap.size _ _ _ _ 9 rfl rfl rfl rfl (by omega) (by omega) (Nat.le_refl _) ?_; intro w7 ho7 hg7; have HO7 := Lib.hid ho7; have HB7 := Lib.hid (grown_below' hg7 (Nat.le_refl w6.heap.size)); clear ho7 hg7)
              | (at_make; refine make_full EU rfl _ _ rfl w7.heap.size _ _ _ _ T rfl rfl (by rw [HT.out]; rfl) (by rw [HT.out]; rfl) (by rw [HT.out]; decide) (by rw [HT.out]; decide) (Nat.le_refl _) ?_; intro w8 ho8 hg8; have HO8 := Lib.hid ho8; have HB8 := Lib.hid (grown_below' hg8 (Nat.le_refl w7.heap.size)); clear ho8 hg8))
            have HB78 := Lib.hid (bthen HB7.out HB8.out)
            have HRT := Lib.hid (Own.rd HO8.out (fun x hx => by rw [List.eq_of_mem_replicate hx]; decide))
            have HRP8 := Lib.hid ((HRP5.out.below HB6.out).below HB78.out)
            have HEA := Lib.hid (ends_any _ 1 1 [List.replicate i a0] _ T T _ _ (HPR.out w8 HRP8.out) (by simp) (HRT.out.below (below_alloc w8 (.cells #[.slice (some ⟨g, 0, none⟩) i i] 44))))
            have HEC : Hid (ecode [List.replicate i a0] (List.replicate T 0) = 9) := Lib.hid (by unfold ecode; rw [if_pos (by rw [HC.out]; decide)]; exact HC.out)
            refine HEA.out.mono ?_
            rintro e w9 hp9
            obtain ⟨hb9, rfl⟩ := hp9.bad HEC.out (by decide)
            rw [show errV 9 = Value.iface 56 (.int .i64 9) from rfl]
            have HB9 := Lib.hid ((below_alloc w8 (.cells #[.slice (some ⟨g, 0, none⟩) i i] 44)).trans (hb9.mono (by simp)))
            clear hp9 hb9
            go_wp2_with fail
            refine (awake_any w9).mono ?_
            rintro e w10 ⟨rfl, hb10⟩
            have HB10 := Lib.hid (bthen (bthen HB78.out HB9.out) hb10)
            have hx10 := below_cell HB10.out HX6.out
            clear hb10
            go_wp2_with fail
            refine (num_errno 9 w10).mono ?_
            rintro e w11 ⟨rfl, rfl⟩
            go_wp2_with fail
            refine (num_errno 9 w10).mono ?_
            rintro e w11 ⟨rfl, rfl⟩
            go_wp2
            go_ret
            exact ⟨rfl, bthen HB5.out (bthen HB6.out HB10.out)⟩
          | false =>
            go_wp2_with fail
            refine HOF.out.mono ?_
            have HC : Hid (ocode [List.replicate i a0] = 9) := Lib.hid (by rw [HCODE.out, if_neg HZ0.out, if_pos HZ1.out])
            rintro e w5 hp5
            obtain ⟨hb5, rfl⟩ := hp5.bad HC.out (by decide)
            rw [show errV 9 = Value.iface 56 (.int .i64 9) from rfl]
            have HB5 := Lib.hid ((HBW.out.trans ((below_alloc wr (.cells #[.slice (some ⟨g, 0, none⟩) i i] 44)).mono HBW.out.size)).trans (hb5.mono (by have := HBW.out.size; simp; omega)))
            have HRP5 := Lib.hid ((HRP.out.below (below_alloc wr (.cells #[.slice (some ⟨g, 0, none⟩) i i] 44))).below hb5)
            clear hp5 hb5
            obtain ⟨w6, hw6⟩ : ∃ w6, w6 = w5.alloc (.cells #[.int .i64 0, .slice none 0 0, .slice none 0 0, .slice none 0 0] 28) := ⟨_, rfl⟩
            have HX6 : Hid (w6.cell? ⟨w5.heap.size, 2, none⟩ = some (.slice none 0 0)) := Lib.hid (by rw [hw6]; simp)
            have HB6 := Lib.hid (show Below w5.heap.size w5 w6 by rw [hw6]; exact below_alloc _ _)
            have HW6 := Lib.hid hw6
            clear hw6
            go_wp2_with (at_make; rw [← HW6.out]; refine make_full EU rfl _ _ rfl w6.heap.size _ _ _ _ 9 rfl rfl rfl rfl (by omega) (by omega) (Nat.le_refl _) ?_; intro w7 ho7 hg7; have HO7 := Lib.hid ho7; have HB7 := Lib.hid (grown_below' hg7 (Nat.le_refl w6.heap.size)); clear ho7 hg7)
            have HB78 := Lib.hid HB7.out
            have HRT := Lib.hid (Own.rd HO7.out (fun x hx => by rw [List.eq_of_mem_replicate hx]; decide))
            have HRP8 := Lib.hid ((HRP5.out.below HB6.out).below HB78.out)
            have HEA := Lib.hid (ends_any _ 1 1 [List.replicate i a0] _ 9 9 _ _ (HPR.out w7 HRP8.out) (by simp) (HRT.out.below (below_alloc w7 (.cells #[.slice (some ⟨g, 0, none⟩) i i] 44))))
            have HEC : Hid (ecode [List.replicate i a0] (List.replicate 9 0) = 9) := Lib.hid (by unfold ecode; rw [if_pos (by rw [HC.out]; decide)]; exact HC.out)
            refine HEA.out.mono ?_
            rintro e w9 hp9
            obtain ⟨hb9, rfl⟩ := hp9.bad HEC.out (by decide)
            rw [show errV 9 = Value.iface 56 (.int .i64 9) from rfl]
            have HB9 := Lib.hid ((below_alloc w7 (.cells #[.slice (some ⟨g, 0, none⟩) i i] 44)).trans (hb9.mono (by simp)))
            clear hp9 hb9
            go_wp2_with fail
            refine (awake_any w9).mono ?_
            rintro e w10 ⟨rfl, hb10⟩
            have HB10 := Lib.hid (bthen (bthen HB78.out HB9.out) hb10)
            have hx10 := below_cell HB10.out HX6.out
            clear hb10
            go_wp2_with fail
            refine (num_errno 9 w10).mono ?_
            rintro e w11 ⟨rfl, rfl⟩
            go_wp2_with fail
            refine (num_errno 9 w10).mono ?_
            rintro e w11 ⟨rfl, rfl⟩
            go_wp2
            go_ret
            exact ⟨rfl, bthen HB5.out (bthen HB6.out HB10.out)⟩
        · have hz1 : decide ((255 : Int) < (i : Int)) = false := by simp; omega
          have HZ1 := Lib.hid hk1
          clear hk1
          cases a2 with
          | true =>
            go_wp2_with fail
            refine HOF.out.mono ?_
            have HC : Hid (ocode [List.replicate i a0] = 0) := Lib.hid (by rw [HCODE.out, if_neg HZ0.out, if_neg HZ1.out])
            rintro e w5 hp5
            obtain ⟨hb5, ac, an, cn, aa, ca, ah, ch, rfl, _, _⟩ := hp5.ok HC.out
            rw [HPLN.out HC.out]
            have HB5 := Lib.hid ((HBW.out.trans ((below_alloc wr (.cells #[.slice (some ⟨g, 0, none⟩) i i] 44)).mono HBW.out.size)).trans (hb5.mono (by have := HBW.out.size; simp; omega)))
            have HRP5 := Lib.hid ((HRP.out.below (below_alloc wr (.cells #[.slice (some ⟨g, 0, none⟩) i i] 44))).below hb5)
            clear hp5 hb5
            obtain ⟨w6, hw6⟩ : ∃ w6, w6 = w5.alloc (.cells #[.int .i64 0, .slice ac 256 256, .slice an (i + 1) cn, .slice aa (i + 1) ca] 28) := ⟨_, rfl⟩
            have HX6 : Hid (w6.cell? ⟨w5.heap.size, 2, none⟩ = some (.slice an (i + 1) cn)) := Lib.hid (by rw [hw6]; simp)
            have HB6 := Lib.hid (show Below w5.heap.size w5 w6 by rw [hw6]; exact below_alloc _ _)
            have HW6 := Lib.hid hw6
            clear hw6
            go_wp2_with (first
              | (at_make; rw [← HW6.out]; refine make_full EU rfl _ _ rfl w6.heap.size _ _ _ _ 9 rfl rfl rfl rfl (by omega) (by omega) (Nat.le_refl _) ?_; intro w7 ho7 hg7; have HO7 := Lib.hid ho7; have HB7 := Lib.hid (grown_below' hg7 (Nat.le_refl w6.heap.size)); clear ho7 hg7)
              | (at_make; refine make_full EU rfl _ _ rfl w7.heap.size _ _ _ _ T rfl rfl (by rw [HT.out]; rfl) (by rw [HT.out]; rfl) (by rw [HT.out]; decide) (by rw [HT.out]; decide) (Nat.le_refl _) ?_; intro w8 ho8 hg8; have HO8 := Lib.hid ho8; have HB8 := Lib.hid (grown_below' hg8 (Nat.le_refl w7.heap.size)); clear ho8 hg8))
            have HB78 := Lib.hid (bthen HB7.out HB8.out)
            have HRT := Lib.hid (Own.rd HO8.out (fun x hx => by rw [List.eq_of_mem_replicate hx]; decide))
            have HRP8 := Lib.hid ((HRP5.out.below HB6.out).below HB78.out)
            have HEA := Lib.hid (ends_any _ 1 1 [List.replicate i a0] _ T T _ _ (HPR.out w8 HRP8.out) (by simp) (HRT.out.below (below_alloc w8 (.cells #[.slice (some ⟨g, 0, none⟩) i i] 44))))
            have HEC : Hid (ecode [List.replicate i a0] (List.replicate T 0) = 9) := Lib.hid (by unfold ecode; rw [if_neg (by rw [HC.out]; decide), if_pos (by rw [List.length_replicate, HT.out]; decide)])
            refine HEA.out.mono ?_
            rintro e w9 hp9
            obtain ⟨hb9, rfl⟩ := hp9.bad HEC.out (by decide)
            rw [show errV 9 = Value.iface 56 (.int .i64 9) from rfl]
            have HB9 := Lib.hid ((below_alloc w8 (.cells #[.slice (some ⟨g, 0, none⟩) i i] 44)).trans (hb9.mono (by simp)))
            clear hp9 hb9
            go_wp2_with fail
            refine (awake_any w9).mono ?_
            rintro e w10 ⟨rfl, hb10⟩
            have HB10 := Lib.hid (bthen (bthen HB78.out HB9.out) hb10)
            have hx10 := below_cell HB10.out HX6.out
            clear hb10
            go_wp2_with fail
            refine (num_nil w10).mono ?_
            rintro e w11 ⟨rfl, rfl⟩
            go_wp2_with fail
            refine (num_errno 9 w10).mono ?_
            rintro e w11 ⟨rfl, rfl⟩
            go_wp2
            go_ret
            exact ⟨rfl, bthen HB5.out (bthen HB6.out HB10.out)⟩
          | false =>
            go_wp2_with fail
            refine HOF.out.mono ?_
            have HC : Hid (ocode [List.replicate i a0] = 0) := Lib.hid (by rw [HCODE.out, if_neg HZ0.out, if_neg HZ1.out])
            rintro e w5 hp5
            obtain ⟨hb5, ac, an, cn, aa, ca, ah, ch, rfl, _, _⟩ := hp5.ok HC.out
            rw [HPLN.out HC.out]
            have HB5 := Lib.hid ((HBW.out.trans ((below_alloc wr (.cells #[.slice (some ⟨g, 0, none⟩) i i] 44)).mono HBW.out.size)).trans (hb5.mono (by have := HBW.out.size; simp; omega)))
            have HRP5 := Lib.hid ((HRP.out.below (below_alloc wr (.cells #[.slice (some ⟨g, 0, none⟩) i i] 44))).below hb5)
            clear hp5 hb5
            obtain ⟨w6, hw6⟩ : ∃ w6, w6 = w5.alloc (.cells #[.int .i64 0, .slice ac 256 256, .slice an (i + 1) cn, .slice aa (i + 1) ca] 28) := ⟨_, rfl⟩
            have HX6 : Hid (w6.cell? ⟨w5.heap.size, 2, none⟩ = some (.slice an (i + 1) cn)) := Lib.hid (by rw [hw6]; simp)
            have HB6 := Lib.hid (show Below w5.heap.size w5 w6 by rw [hw6]; exact below_alloc _ _)
            have HW6 := Lib.hid hw6
            clear hw6
            go_wp2_with (at_make; rw [← HW6.out]; refine make_full EU rfl _ _ rfl w6.heap.size _ _ _ _ 9 rfl rfl rfl rfl (by omega) (by omega) (Nat.le_refl _) ?_; intro w7 ho7 hg7; have HO7 := Lib.hid ho7; have HB7 := Lib.hid (grown_below' hg7 (Nat.le_refl w6.heap.size)); clear ho7 hg7)
            have HB78 := Lib.hid HB7.out
            have HRT := Lib.hid (Own.rd HO7.out (fun x hx => by rw [List.eq_of_mem_replicate hx]; decide))
            have HRP8 := Lib.hid ((HRP5.out.below HB6.out).below HB78.out)
            have HEA := Lib.hid (ends_any _ 1 1 [List.replicate i a0] _ 9 9 _ _ (HPR.out w7 HRP8.out) (by simp) (HRT.out.below (below_alloc w7 (.cells #[.slice (some ⟨g, 0, none⟩) i i] 44))))
            have HEC : Hid (ecode [List.replicate i a0] (List.replicate 9 0) = 0) := Lib.hid (by unfold ecode; rw [if_neg (by rw [HC.out]; decide), if_neg (by rw [List.length_replicate]; decide)])
            refine HEA.out.mono ?_
            rintro e w9 hp9
            obtain ⟨hb9, ea, ecc, rfl, _, _⟩ := hp9.ok HEC.out
            rw [show (List.replicate 9 (0 : Int)).length = 9 from List.length_replicate]
            have HB9 := Lib.hid ((below_alloc w7 (.cells #[.slice (some ⟨g, 0, none⟩) i i] 44)).trans (hb9.mono (by simp)))
            clear hp9 hb9
            go_wp2_with fail
            refine (awake_any w9).mono ?_
            rintro e w10 ⟨rfl, hb10⟩
            have HB10 := Lib.hid (bthen (bthen HB78.out HB9.out) hb10)
            have hx10 := below_cell HB10.out HX6.out
            clear hb10
            go_wp2_with fail
            refine (num_nil w10).mono ?_
            rintro e w11 ⟨rfl, rfl⟩
            go_wp2_with fail
            refine (num_nil w10).mono ?_
            rintro e w11 ⟨rfl, rfl⟩
            go_wp2
            go_ret
            exact ⟨rfl, bthen HB5.out (bthen HB6.out HB10.out)⟩

end Go.Proofs.Ytfhoaehoccfadaa
