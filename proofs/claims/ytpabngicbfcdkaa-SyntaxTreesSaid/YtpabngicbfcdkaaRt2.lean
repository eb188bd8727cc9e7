/-
  The reference's Same.
-/
import Derived.Test.YtpabngicbfcdkaaRt1
import Derived.Deep.RegionHeld3
namespace Go.Proofs.Ytpabngicbfcdkaa
open Go.RowKit
set_option linter.unusedVariables false
set_option linter.unusedSimpArgs false

mutual
/-- two trees are equal -/
def exq : Ex → Ex → Bool
  | .mk k s n us, .mk k' s' n' us' => k == k' && s.toList == s'.toList && n == n' && us.length == us'.length && exqs us us'
def exqs : List Ex → List Ex → Bool
  | t :: r, t' :: r' => exq t t' && exqs r r'
  | _, _ => true
end
theorem toList_inj {s s' : ByteArray} (h : s.toList = s'.toList) : s = s' := by
  rw [Go.ByteArray.toList_eq, Go.ByteArray.toList_eq] at h
  cases s; cases s'
  congr
  exact Array.toList_inj.1 h
mutual
theorem exq_iff : ∀ t t' : Ex, exq t t' = true ↔ t = t'
  | .mk k s n us, .mk k' s' n' us' => by
    simp only [exq, Bool.and_eq_true, beq_iff_eq, Ex.mk.injEq]
    constructor
    · rintro ⟨⟨⟨⟨h1, h2⟩, h3⟩, h4⟩, h5⟩
      exact ⟨h1, toList_inj h2, h3, (exqs_iff us us' h4).1 h5⟩
    · rintro ⟨rfl, rfl, rfl, rfl⟩
      exact ⟨⟨⟨⟨rfl, rfl⟩, rfl⟩, rfl⟩, (exqs_iff us us rfl).2 rfl⟩
theorem exqs_iff : ∀ us us' : List Ex, us.length = us'.length → (exqs us us' = true ↔ us = us')
  | [], [], _ => by simp [exqs]
  | [], _ :: _, h => by simp at h
  | _ :: _, [], h => by simp at h
  | t :: r, t' :: r', h => by
    simp only [exqs, Bool.and_eq_true, List.cons.injEq]
    rw [exq_iff t t', exqs_iff r r' (by simpa using h)]
end
theorem exq_self (t : Ex) : exq t t = true := (exq_iff t t).2 rfl
theorem exq_comm (t t' : Ex) : exq t t' = exq t' t := by
  rw [Bool.eq_iff_iff, exq_iff, exq_iff]; exact eq_comm
theorem exq_eq (t t' : Ex) : exq t t' = (t.kind == t'.kind && t.text.toList == t'.text.toList && t.num == t'.num && t.args.length == t'.args.length && exqs t.args t'.args) := by
  cases t; cases t'; rfl
theorem exqs_take : ∀ (us us' : List Ex) (i : Nat), us.length = us'.length → (∀ (j : Nat) u u', j < i → us[j]? = some u → us'[j]? = some u' → exq u u' = true) → us.length ≤ i → exqs us us' = true
  | [], [], _, _, _, _ => rfl
  | [], _ :: _, _, h, _, _ => by simp at h
  | _ :: _, [], _, h, _, _ => by simp at h
  | t :: r, t' :: r', i, h, ha, hi => by
    simp only [exqs, Bool.and_eq_true]
    refine ⟨ha 0 t t' (by simp at hi; omega) rfl rfl, exqs_take r r' (i - 1) (by simpa using h) (fun j u u' hj h1 h2 => ha (j + 1) u u' (by omega) (by simpa using h1) (by simpa using h2)) (by simp at hi; omega)⟩
theorem exqs_no : ∀ (us us' : List Ex) (i : Nat) (u u' : Ex), us[i]? = some u → us'[i]? = some u' → exq u u' = false → exqs us us' = false
  | t :: r, t' :: r', 0, u, u', h1, h2, h => by
    simp at h1 h2; subst h1; subst h2; simp [exqs, h]
  | t :: r, t' :: r', i + 1, u, u', h1, h2, h => by
    simp [exqs, exqs_no r r' i u u' (by simpa using h1) (by simpa using h2) h]
  | [], _, i, _, _, h1, _, _ => by cases h1
  | _ :: _, [], i, _, _, _, h2, _ => by cases h2

set_option maxRecDepth 100000 in
set_option maxHeartbeats 3000000 in
theorem rsame_any : ∀ (m : Nat) (T T' : Nat → Prop) (t t' : Ex) (a a' : Option Addr) (c c' : Nat) (w : World), t.size ≤ m → t.size ≤ 1000000 → t'.size ≤ 1000000 → RdA T w t.args a → RdA T' w t'.args a' →
    Calls Try.prog 13 #[exV t a c, exV t' a' c'] w fun e w' => e = .returned (.bool (exq t t')) ∧ Below w.heap.size w w'
  | 0, _, _, t, _, _, _, _, _, _, h, _, _, _, _ => absurd t.size_pos (by omega)
  | m + 1, T, T', t, t', a, a', c, c', w, hm, hsz, hsz', ha, ha' => by
    have IH := Lib.hid (rsame_any m)
    obtain ⟨w1, hw1⟩ : ∃ w1, w1 = w.alloc (.cells #[.int .i64 t.kind, .string t.text, .int .i64 t.num, .slice a t.args.length c] 38) := ⟨_, rfl⟩
    obtain ⟨w2, hw2⟩ : ∃ w2, w2 = w1.alloc (.cells #[.int .i64 t'.kind, .string t'.text, .int .i64 t'.num, .slice a' t'.args.length c'] 38) := ⟨_, rfl⟩
    have HB1 : Hid (Below w.heap.size w w1) := Lib.hid (by rw [hw1]; exact below_alloc _ _)
    have HB12 : Hid (Below w1.heap.size w1 w2) := Lib.hid (by rw [hw2]; exact below_alloc _ _)
    have HB2 : Hid (Below w.heap.size w w2) := Lib.hid (bthen HB1.out HB12.out)
    have HRA := Lib.hid (ha.below HB2.out)
    have HRA' := Lib.hid (ha'.below HB2.out)
    obtain ⟨g, hg⟩ : ∃ g, g = w.heap.size := ⟨_, rfl⟩
    obtain ⟨g', hg'⟩ : ∃ g', g' = g + 1 := ⟨_, rfl⟩
    have hgs : w1.heap.size = g' := by rw [hg', hg, hw1]; simp
    have hec : EC w2 g t a c := by rw [hg]; exact (by rw [hw1]; exact alloc_ec w t a c _ : EC w1 w.heap.size t a c).below HB12.out
    have hec' : EC w2 g' t' a' c' := by rw [hw2, ← hgs]; exact alloc_ec w1 t' a' c' _
    obtain ⟨N, hN⟩ : ∃ N, N = t.args.length := ⟨_, rfl⟩
    obtain ⟨N', hN'⟩ : ∃ N', N' = t'.args.length := ⟨_, rfl⟩
    have HN := Lib.hid hN
    have HN' := Lib.hid hN'
    have HSZ := Lib.hid hsz
    have HSZ' := Lib.hid hsz'
    have HM := Lib.hid hm
    have hNi : (N : Int) ≤ 1000000 := by have h1 := Ex.sizes_len t.args; have h2 := t.size_eq; omega
    have hNi' : (N' : Int) ≤ 1000000 := by have h1 := Ex.sizes_len t'.args; have h2 := t'.size_eq; omega
    have HEQ := Lib.hid (exq_eq t t')
    obtain ⟨x0, x1, x2, x3, xf⟩ := hec
    obtain ⟨z0, z1, z2, z3, zf⟩ := hec'
    rw [← hN] at x3
    rw [← hN'] at z3
    have HX3 := Lib.hid x3
    have HZ3 := Lib.hid z3
    have HW1 := Lib.hid hw1
    have HW2 := Lib.hid hw2
    have HG := Lib.hid hg
    have HG' := Lib.hid hg'
    obtain ⟨q0, hq0⟩ : ∃ q, (t.kind == t'.kind) = q := ⟨_, rfl⟩
    obtain ⟨q1, hq1⟩ : ∃ q, (t.text.toList == t'.text.toList) = q := ⟨_, rfl⟩
    obtain ⟨q2, hq2⟩ : ∃ q, (t.num == t'.num) = q := ⟨_, rfl⟩
    rw [hq0, hq1, hq2] at HEQ
    clear hm hsz hsz' ha ha' hw1 hw2 hg hg' hgs xf zf
    by_cases hl : N = N'
    · subst hl
      have HEQ2 : Hid (exq t t' = (q0 && q1 && q2 && exqs t.args t'.args)) := Lib.hid (by rw [HEQ.out, ← HN.out, ← HN'.out]; simp)
      clear HEQ hN hN'
      unfold exV
      cases q0 with
      | false =>
        have HE : Hid (exq t t' = false) := Lib.hid (by rw [HEQ2.out]; rfl)
        have hq0n : (t.kind != t'.kind) = true := by rw [bne, hq0]; rfl
        go_enter Try.func13, Try.ntmps13
        go_upto_region 1 with fail
        rw [← HW1.out, ← HW2.out, ← HG.out, ← HG'.out]
        go_wp2
        go_ret
        exact ⟨by rw [HE.out]; rfl, HB2.out⟩
      | true =>
      have hq0n : (t.kind != t'.kind) = false := by rw [bne, hq0]; rfl
      cases q1 with
      | false =>
        have HE : Hid (exq t t' = false) := Lib.hid (by rw [HEQ2.out]; rfl)
        have hq1n : (t.text.toList != t'.text.toList) = true := by rw [bne, hq1]; rfl
        go_enter Try.func13, Try.ntmps13
        go_upto_region 1 with fail
        rw [← HW1.out, ← HW2.out, ← HG.out, ← HG'.out]
        go_wp2
        go_ret
        exact ⟨by rw [HE.out]; rfl, HB2.out⟩
      | true =>
      have hq1n : (t.text.toList != t'.text.toList) = false := by rw [bne, hq1]; rfl
      cases q2 with
      | false =>
        have HE : Hid (exq t t' = false) := Lib.hid (by rw [HEQ2.out]; rfl)
        have hq2n : (t.num != t'.num) = true := by rw [bne, hq2]; rfl
        go_enter Try.func13, Try.ntmps13
        go_upto_region 1 with fail
        rw [← HW1.out, ← HW2.out, ← HG.out, ← HG'.out]
        go_wp2
        go_ret
        exact ⟨by rw [HE.out]; rfl, HB2.out⟩
      | true =>
      have hq2n : (t.num != t'.num) = false := by rw [bne, hq2]; rfl
      have HEQ3 : Hid (exq t t' = exqs t.args t'.args) := Lib.hid (by rw [HEQ2.out]; rfl)
      go_enter Try.func13, Try.ntmps13
      go_upto_region 1 with fail
      rw [← HW1.out, ← HW2.out, ← HG.out, ← HG'.out]
      go_wp2
      clear hq0 hq1 hq2 hq0n hq1n hq2n x0 x1 x2 x3 z0 z1 z2 z3
      go_loopw [5] (fun iv wr => ∃ i : Nat, iv = .int .i64 i ∧ i ≤ N ∧ (∀ (j : Nat) u u', j < i → t.args[j]? = some u → t'.args[j]? = some u' → exq u u' = true) ∧ Below w2.heap.size w2 wr) (fun iv _ => N - (intOf iv).toNat)
      case atStart => exact ⟨0, rfl, by omega, fun j u u' hj => by omega, Below.refl _ _⟩
      case round =>
        obtain ⟨i, rfl, hi, hall, hb⟩ := hrel
        have hc3 : wr.cell? ⟨g, 3, none⟩ = some (.slice a N c) := below_cell hb HX3.out
        have hd3 : wr.cell? ⟨g', 3, none⟩ = some (.slice a' N c') := below_cell hb HZ3.out
        have HB := Lib.hid hb
        have HALL := Lib.hid hall
        by_cases hlt : i < N
        · obtain ⟨u, hu⟩ : ∃ u, t.args[i]? = some u := ⟨_, List.getElem?_eq_getElem (by rw [← HN.out]; exact hlt)⟩
          obtain ⟨v, hv⟩ : ∃ v, t'.args[i]? = some v := ⟨_, List.getElem?_eq_getElem (by rw [← HN'.out]; exact hlt)⟩
          obtain ⟨b, o, ka, kc, haa, u0, u1, u2, u3, hkc, hkr⟩ := (HRA.out.below hb).kid hu
          obtain ⟨b', o', ka', kc', haa', v0, v1, v2, v3, hkc', hkr'⟩ := (HRA'.out.below hb).kid hv
          have husz := Ex.size_kid hu
          have hvsz := Ex.size_kid hv
          have HK : Hid (∀ wx, Below wr.heap.size wr wx → Calls Try.prog 13 #[exV u ka kc, exV v ka' kc'] wx fun e w' => e = .returned (.bool (exq u v)) ∧ Below wx.heap.size wx w') := Lib.hid (fun wx hx => IH.out T T' u v ka ka' kc kc' wx (by have := t.size_eq; have := HM.out; omega) (by have := t.size_eq; have := HSZ.out; omega) (by have := t'.size_eq; have := HSZ'.out; omega) (hkr.below hx) (hkr'.below hx))
          have HNO : Hid (exq u v = false → exq t t' = false) := Lib.hid (fun h => by rw [HEQ3.out]; exact exqs_no _ _ i u v hu hv h)
          have HYES : Hid (exq u v = true → ∀ (j : Nat) u u', j < i + 1 → t.args[j]? = some u → t'.args[j]? = some u' → exq u u' = true) := Lib.hid (fun h j x y hj h1 h2 => by
            by_cases e : j = i
            · subst e; rw [hu] at h1; rw [hv] at h2; cases h1; cases h2; exact h
            · exact HALL.out j x y (by omega) h1 h2)
          have hii : (i : Int) < (N : Int) := by omega
          have HLT := Lib.hid hlt
          subst haa
          subst haa'
          unfold exV at HK
          have hbd : Below wr.heap.size wr wr.drew := (Below.refl _ _).drew
          clear hu hv hkr hkr' hkc hkc' husz hvsz hlt hi hb hall
          go_upto_region 6 with fail
          cases hq : exq u v with
          | false =>
            rw [hq] at HK
            have HE := Lib.hid (HNO.out hq)
            clear hq
            go_region_held3 (fun w' => w'.cell? ⟨g, 3, none⟩ = some (.slice (some ⟨b, o, none⟩) N c) ∧ w'.cell? ⟨g', 3, none⟩ = some (.slice (some ⟨b', o', none⟩) N c') ∧ w'.cell? ⟨b, o + i * 4, none⟩ = some (.int .i64 u.kind) ∧ w'.cell? ⟨b, o + i * 4 + 1, none⟩ = some (.string u.text) ∧ w'.cell? ⟨b, o + i * 4 + 2, none⟩ = some (.int .i64 u.num) ∧ w'.cell? ⟨b, o + i * 4 + 3, none⟩ = some (.slice ka u.args.length kc) ∧ w'.cell? ⟨b', o' + i * 4, none⟩ = some (.int .i64 v.kind) ∧ w'.cell? ⟨b', o' + i * 4 + 1, none⟩ = some (.string v.text) ∧ w'.cell? ⟨b', o' + i * 4 + 2, none⟩ = some (.int .i64 v.num) ∧ w'.cell? ⟨b', o' + i * 4 + 3, none⟩ = some (.slice ka' v.args.length kc')) (go_keep) (first | (go_at_call 13; refine (HK.out _ (Below.refl _ _).drew).mono ?_; rintro e w5 ⟨rfl, hb5⟩; have HB5 := Lib.hid hb5; have p0 := below_cell hb5 hc3; have p1 := below_cell hb5 hd3; have p2 := below_cell hb5 u0; have p3 := below_cell hb5 u1; have p4 := below_cell hb5 u2; have p5 := below_cell hb5 u3; have p6 := below_cell hb5 v0; have p7 := below_cell hb5 v1; have p8 := below_cell hb5 v2; have p9 := below_cell hb5 v3; clear hb5))
            all_goals
              go_wp2
              go_ret
              exact ⟨by rw [HE.out]; rfl, bthen HB2.out (bthen HB.out ((Below.refl _ _).drew.trans HB5.out))⟩
          | true =>
            rw [hq] at HK
            have HE := Lib.hid (HYES.out hq)
            clear hq
            go_region_held3 (fun w' => w'.cell? ⟨g, 3, none⟩ = some (.slice (some ⟨b, o, none⟩) N c) ∧ w'.cell? ⟨g', 3, none⟩ = some (.slice (some ⟨b', o', none⟩) N c') ∧ w'.cell? ⟨b, o + i * 4, none⟩ = some (.int .i64 u.kind) ∧ w'.cell? ⟨b, o + i * 4 + 1, none⟩ = some (.string u.text) ∧ w'.cell? ⟨b, o + i * 4 + 2, none⟩ = some (.int .i64 u.num) ∧ w'.cell? ⟨b, o + i * 4 + 3, none⟩ = some (.slice ka u.args.length kc) ∧ w'.cell? ⟨b', o' + i * 4, none⟩ = some (.int .i64 v.kind) ∧ w'.cell? ⟨b', o' + i * 4 + 1, none⟩ = some (.string v.text) ∧ w'.cell? ⟨b', o' + i * 4 + 2, none⟩ = some (.int .i64 v.num) ∧ w'.cell? ⟨b', o' + i * 4 + 3, none⟩ = some (.slice ka' v.args.length kc')) (go_keep) (first | (go_at_call 13; refine (HK.out _ (Below.refl _ _).drew).mono ?_; rintro e w5 ⟨rfl, hb5⟩; have HB5 := Lib.hid hb5; have p0 := below_cell hb5 hc3; have p1 := below_cell hb5 hd3; have p2 := below_cell hb5 u0; have p3 := below_cell hb5 u1; have p4 := below_cell hb5 u2; have p5 := below_cell hb5 u3; have p6 := below_cell hb5 v0; have p7 := below_cell hb5 v1; have p8 := below_cell hb5 v2; have p9 := below_cell hb5 v3; clear hb5))
            all_goals
              go_wp2
              exact ⟨⟨i + 1, by go_num, HLT.out, HE.out, bthen HB.out ((Below.refl _ _).drew.trans HB5.out)⟩, by have := HLT.out; simp only [intOf]; omega⟩
        · obtain rfl : i = N := by omega
          have HE : Hid (exq t t' = true) := Lib.hid (by rw [HEQ3.out]; exact exqs_take _ _ i (by rw [← HN.out, ← HN'.out]) HALL.out (by rw [← HN.out]; exact Nat.le_refl _))
          clear hlt hi hall hb
          go_wp2
          go_ret
          exact ⟨by rw [HE.out]; rfl, bthen HB2.out HB.out⟩
    · have HE : Hid (exq t t' = false) := Lib.hid (by
        rw [HEQ.out, ← hN, ← hN', show (N == N') = false by rw [beq_eq_false_iff_ne]; exact hl]
        simp)
      have hlb : ((N : Int) != (N' : Int)) = true := by simp; omega
      have hlb2 : ((N : Int) == (N' : Int)) = false := by rw [beq_eq_false_iff_ne]; omega
      have hlb3 : decide (N = N') = false := decide_eq_false hl
      have hlb4 : (N == N') = false := by rw [beq_eq_false_iff_ne]; exact hl
      clear HEQ hN hN' hl
      have hq0n : (t.kind != t'.kind) = !q0 := by rw [bne, hq0]
      have hq1n : (t.text.toList != t'.text.toList) = !q1 := by rw [bne, hq1]
      have hq2n : (t.num != t'.num) = !q2 := by rw [bne, hq2]
      unfold exV
      cases q0
      all_goals cases q1
      all_goals cases q2
      all_goals
        simp only [Bool.not_true, Bool.not_false] at hq0n hq1n hq2n
        go_enter Try.func13, Try.ntmps13
        go_upto_region 1 with fail
        rw [← HW1.out, ← HW2.out, ← HG.out, ← HG'.out]
        go_wp2
        go_ret
        exact ⟨by rw [HE.out]; rfl, HB2.out⟩

end Go.Proofs.Ytpabngicbfcdkaa
