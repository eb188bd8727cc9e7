/-
  The reference's Depth, Size, Same.
-/
import Derived.Test.YtpabngicbfcdkaaAwk
namespace Go.Proofs.Ytpabngicbfcdkaa
open Go.RowKit
set_option linter.unusedVariables false
set_option linter.unusedSimpArgs false

/-- the child behind an address, cell by cell -/
theorem RdA.kid {T : Nat → Prop} {w : World} {us : List Ex} {a : Option Addr} (h : RdA T w us a) {i : Nat} {u : Ex} (hu : us[i]? = some u) : ∃ b o ka kc, a = some ⟨b, o, none⟩ ∧ w.cell? ⟨b, o + i * 4, none⟩ = some (.int .i64 u.kind) ∧ w.cell? ⟨b, o + i * 4 + 1, none⟩ = some (.string u.text) ∧ w.cell? ⟨b, o + i * 4 + 2, none⟩ = some (.int .i64 u.num) ∧ w.cell? ⟨b, o + i * 4 + 3, none⟩ = some (.slice ka u.args.length kc) ∧ u.args.length ≤ kc ∧ RdA T w u.args ka := by
  obtain ⟨b, o, ha, hk⟩ := h.get hu
  obtain ⟨_, ka, kc, hn, hc, hr⟩ := hk.node
  have e : o + 4 * i = o + i * 4 := by omega
  rw [e] at hn
  exact ⟨b, o, ka, kc, ha, hn.cells.1, hn.cells.2.1, hn.cells.2.2.1, hn.cells.2.2.2, hc, hr⟩
theorem take_snoc' {α : Type} {l : List α} {i : Nat} {v : α} (h : l[i]? = some v) : l.take (i + 1) = l.take i ++ [v] := by
  obtain ⟨hi, rfl⟩ := List.getElem?_eq_some_iff.1 h
  exact List.take_succ_eq_append_getElem hi
theorem Ex.depths_take_le (us : List Ex) (i : Nat) : Ex.depths (us.take i) ≤ Ex.depths us := by
  have h := Ex.depths_append (us.take i) (us.drop i)
  rw [List.take_append_drop] at h; omega
theorem Ex.sizes_take_le (us : List Ex) (i : Nat) : Ex.sizes (us.take i) ≤ Ex.sizes us := by
  have h := Ex.sizes_append (us.take i) (us.drop i)
  rw [List.take_append_drop] at h; omega

set_option maxRecDepth 100000 in
set_option maxHeartbeats 1500000 in
theorem rdepth_any : ∀ (m : Nat) (T : Nat → Prop) (t : Ex) (a : Option Addr) (c : Nat) (w : World), t.size ≤ m → t.size ≤ 1000000 → RdA T w t.args a →
    Calls Try.prog 25 #[exV t a c] w fun e w' => e = .returned (.int .i64 (t.depth : Nat)) ∧ Below w.heap.size w w'
  | 0, _, t, _, _, _, h, _, _ => absurd t.size_pos (by omega)
  | m + 1, T, t, a, c, w, hm, hsz, ha => by
    have IH := Lib.hid (rdepth_any m)
    obtain ⟨w1, hw1⟩ : ∃ w1, w1 = w.alloc (.cells #[.int .i64 t.kind, .string t.text, .int .i64 t.num, .slice a t.args.length c] 38) := ⟨_, rfl⟩
    have HB1 : Hid (Below w.heap.size w w1) := Lib.hid (by rw [hw1]; exact below_alloc _ _)
    have HRA := Lib.hid (ha.below HB1.out)
    obtain ⟨N, hN⟩ : ∃ N, N = t.args.length := ⟨_, rfl⟩
    have HN := Lib.hid hN
    have HSZ := Lib.hid hsz
    have HM := Lib.hid hm
    obtain ⟨g, hg⟩ : ∃ g, g = w.heap.size := ⟨_, rfl⟩
    have hc3 : w1.cell? ⟨g, 3, none⟩ = some (.slice a N c) := by rw [hw1, hg, hN]; simp
    have hNi : (N : Int) ≤ 1000000 := by have h1 := Ex.sizes_len t.args; have h2 := t.size_eq; omega
    have HW1 := Lib.hid hw1
    have HG := Lib.hid hg
    have HC3 := Lib.hid hc3
    clear hm hsz ha hN hw1 hg hc3
    unfold exV
    go_enter Try.func25, Try.ntmps25
    go_upto_region 1 with fail
    rw [← HW1.out, ← HG.out]
    go_wp2
    go_loopw [3, 4] (fun nv iv wr => ∃ i : Nat, iv = .int .i64 i ∧ i ≤ N ∧ nv = .int .i64 ((Ex.depths (t.args.take i) : Nat) : Int) ∧ Below w1.heap.size w1 wr) (fun _ iv _ => N - (intOf iv).toNat)
    case atStart => exact ⟨0, rfl, by omega, by simp [Ex.depths], Below.refl _ _⟩
    case round =>
      obtain ⟨i, rfl, hi, rfl, hb⟩ := hrel
      have hc3 : wr.cell? ⟨g, 3, none⟩ = some (.slice a N c) := below_cell hb HC3.out
      have HB := Lib.hid hb
      by_cases hlt : i < N
      · obtain ⟨u, hu⟩ : ∃ u, t.args[i]? = some u := ⟨_, List.getElem?_eq_getElem (by rw [← HN.out]; exact hlt)⟩
        obtain ⟨b, o, ka, kc, haa, x0, x1, x2, x3, hkc, hkr⟩ := (HRA.out.below hb).kid hu
        have husz := Ex.size_kid hu
        have hud := Ex.depth_le u
        obtain ⟨s, hs⟩ : ∃ s, s = Ex.depths (t.args.take i) := ⟨_, rfl⟩
        obtain ⟨sv, hsv⟩ : ∃ sv, sv = u.depth := ⟨_, rfl⟩
        have hs9 : (s : Int) ≤ 1000000 := by have : s ≤ 1000000 := (by have h1 := Ex.depths_take_le t.args i; have h2 := Ex.depths_le t.args; have h3 := t.size_eq; have h9 := HSZ.out; omega)
                                             omega
        have hsv9 : (sv : Int) ≤ 1000000 := by have h9 := HSZ.out; have := t.size_eq; omega
        have HK := Lib.hid (IH.out T u ka kc wr (by have := t.size_eq; have := HM.out; omega) (by have := t.size_eq; have := HSZ.out; omega) hkr)
        rw [← hsv] at HK
        have HS : Hid (max s sv = Ex.depths (t.args.take (i + 1))) := Lib.hid (by rw [hs, hsv, take_snoc' hu, Ex.depths_append]; simp [Ex.depths])
        have hmx : max (s : Int) (sv : Int) = ((max s sv : Nat) : Int) := by omega
        rw [← hs]
        have hii : (i : Int) < (N : Int) := by omega
        have HLT := Lib.hid hlt
        subst haa
        unfold exV at HK
        clear hu hkr hkc husz hud hs hsv hlt hi hb
        go_wp2_with (go_at_call 25; refine HK.out.mono ?_; rintro e w5 ⟨rfl, hb5⟩; have HB5 := Lib.hid hb5; clear hb5)
        exact ⟨⟨i + 1, by go_num, HLT.out, by rw [← HS.out, ← hmx], bthen HB.out HB5.out⟩, by have := HLT.out; simp only [intOf]; omega⟩
      · obtain rfl : i = N := by omega
        have HF : Hid (Ex.depths (t.args.take i) + 1 = t.depth) := Lib.hid (by rw [List.take_of_length_le (by rw [HN.out]; exact Nat.le_refl _)]; have := t.depth_eq; omega)
        obtain ⟨s, hs⟩ : ∃ s, s = Ex.depths (t.args.take i) := ⟨_, rfl⟩
        have hs9 : (s : Int) ≤ 1000000 := by have : s ≤ 1000000 := (by have h1 := Ex.depths_take_le t.args i; have h2 := Ex.depths_le t.args; have h3 := t.size_eq; have h9 := HSZ.out; omega)
                                             omega
        rw [← hs] at HF ⊢
        clear hlt hi hs hb
        go_wp2
        go_ret
        exact ⟨by rw [← HF.out]; go_num, bthen HB1.out HB.out⟩

set_option maxRecDepth 100000 in
set_option maxHeartbeats 1500000 in
theorem rsize_any : ∀ (m : Nat) (T : Nat → Prop) (t : Ex) (a : Option Addr) (c : Nat) (w : World), t.size ≤ m → t.size ≤ 1000000 → RdA T w t.args a →
    Calls Try.prog 17 #[exV t a c] w fun e w' => e = .returned (.int .i64 (t.size : Nat)) ∧ Below w.heap.size w w'
  | 0, _, t, _, _, _, h, _, _ => absurd t.size_pos (by omega)
  | m + 1, T, t, a, c, w, hm, hsz, ha => by
    have IH := Lib.hid (rsize_any m)
    obtain ⟨w1, hw1⟩ : ∃ w1, w1 = w.alloc (.cells #[.int .i64 t.kind, .string t.text, .int .i64 t.num, .slice a t.args.length c] 38) := ⟨_, rfl⟩
    have HB1 : Hid (Below w.heap.size w w1) := Lib.hid (by rw [hw1]; exact below_alloc _ _)
    have HRA := Lib.hid (ha.below HB1.out)
    obtain ⟨N, hN⟩ : ∃ N, N = t.args.length := ⟨_, rfl⟩
    have HN := Lib.hid hN
    have HSZ := Lib.hid hsz
    have HM := Lib.hid hm
    obtain ⟨g, hg⟩ : ∃ g, g = w.heap.size := ⟨_, rfl⟩
    have hc3 : w1.cell? ⟨g, 3, none⟩ = some (.slice a N c) := by rw [hw1, hg, hN]; simp
    have hNi : (N : Int) ≤ 1000000 := by have h1 := Ex.sizes_len t.args; have h2 := t.size_eq; omega
    have HW1 := Lib.hid hw1
    have HG := Lib.hid hg
    have HC3 := Lib.hid hc3
    clear hm hsz ha hN hw1 hg hc3
    unfold exV
    go_enter Try.func17, Try.ntmps17
    go_upto_region 1 with fail
    rw [← HW1.out, ← HG.out]
    go_wp2
    go_loopw [3, 4] (fun nv iv wr => ∃ i : Nat, iv = .int .i64 i ∧ i ≤ N ∧ nv = .int .i64 ((1 + Ex.sizes (t.args.take i) : Nat) : Int) ∧ Below w1.heap.size w1 wr) (fun _ iv _ => N - (intOf iv).toNat)
    case atStart => exact ⟨0, rfl, by omega, by simp [Ex.sizes], Below.refl _ _⟩
    case round =>
      obtain ⟨i, rfl, hi, rfl, hb⟩ := hrel
      have hc3 : wr.cell? ⟨g, 3, none⟩ = some (.slice a N c) := below_cell hb HC3.out
      have HB := Lib.hid hb
      by_cases hlt : i < N
      · obtain ⟨u, hu⟩ : ∃ u, t.args[i]? = some u := ⟨_, List.getElem?_eq_getElem (by rw [← HN.out]; exact hlt)⟩
        obtain ⟨b, o, ka, kc, haa, x0, x1, x2, x3, hkc, hkr⟩ := (HRA.out.below hb).kid hu
        have husz := Ex.size_kid hu
        have hud := Ex.depth_le u
        obtain ⟨s, hs⟩ : ∃ s, s = 1 + Ex.sizes (t.args.take i) := ⟨_, rfl⟩
        obtain ⟨sv, hsv⟩ : ∃ sv, sv = u.size := ⟨_, rfl⟩
        have hs9 : (s : Int) ≤ 1000000 := by have : s ≤ 1000000 := (by have h1 := Ex.sizes_take_le t.args i; have h3 := t.size_eq; have h9 := HSZ.out; omega)
                                             omega
        have hsv9 : (sv : Int) ≤ 1000000 := by have h9 := HSZ.out; have := t.size_eq; omega
        have HK := Lib.hid (IH.out T u ka kc wr (by have := t.size_eq; have := HM.out; omega) (by have := t.size_eq; have := HSZ.out; omega) hkr)
        rw [← hsv] at HK
        have HS : Hid (s + sv = 1 + Ex.sizes (t.args.take (i + 1))) := Lib.hid (by rw [hs, hsv, take_snoc' hu, Ex.sizes_append]; simp [Ex.sizes]; omega)
        have HMX : Hid ((s : Int) + (sv : Int) = ((s + sv : Nat) : Int)) := Lib.hid (by push_cast; rfl)
        rw [← hs]
        have hii : (i : Int) < (N : Int) := by omega
        have HLT := Lib.hid hlt
        subst haa
        unfold exV at HK
        clear hu hkr hkc husz hud hs hsv hlt hi hb
        go_wp2_with (go_at_call 17; refine HK.out.mono ?_; rintro e w5 ⟨rfl, hb5⟩; have HB5 := Lib.hid hb5; clear hb5)
        exact ⟨⟨i + 1, by go_num, HLT.out, by rw [← HS.out, ← HMX.out], bthen HB.out HB5.out⟩, by have := HLT.out; simp only [intOf]; omega⟩
      · obtain rfl : i = N := by omega
        have HF : Hid (1 + Ex.sizes (t.args.take i) = t.size) := Lib.hid (by rw [List.take_of_length_le (by rw [HN.out]; exact Nat.le_refl _)]; have := t.size_eq; omega)
        obtain ⟨s, hs⟩ : ∃ s, s = 1 + Ex.sizes (t.args.take i) := ⟨_, rfl⟩
        have hs9 : (s : Int) ≤ 1000000 := by have : s ≤ 1000000 := (by have h1 := Ex.sizes_take_le t.args i; have h3 := t.size_eq; have h9 := HSZ.out; omega)
                                             omega
        rw [← hs] at HF ⊢
        clear hlt hi hs hb
        go_wp2
        go_ret
        exact ⟨by rw [← HF.out]; go_num, bthen HB1.out HB.out⟩

end Go.Proofs.Ytpabngicbfcdkaa
