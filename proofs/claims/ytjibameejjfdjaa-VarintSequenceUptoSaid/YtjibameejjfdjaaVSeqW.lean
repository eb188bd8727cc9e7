/-
  the walk of VarintSequence.
-/
import Derived.Test.YtjibameejjfdjaaVPut
namespace Go.Proofs.Ytjibameejjfdjaa
open Go.RowKit

/-- the encodings, one after the other -/
def enc (ns : List Int) : List Int := ns.flatMap fun n => put n.toNat

theorem enc_len : ∀ (ns : List Int), (∀ x ∈ ns, x ≤ 18446744073709551615) → (enc ns).length ≤ 10 * ns.length
  | [], _ => by simp [enc]
  | x :: r, h => by
    have h1 := enc_len r (fun y hy => h y (by simp [hy]))
    have h2 := h x (by simp)
    have h3 := put_len_ten (n := x.toNat) (by omega)
    simp only [enc, List.flatMap_cons, List.length_append, List.length_cons] at *
    omega

theorem enc_wf (ns : List Int) : ∀ x ∈ enc ns, (Lit.int .u8 x).wf = true := by
  intro x hx
  obtain ⟨n, _, h⟩ := List.mem_flatMap.1 hx
  exact put_wf _ x h

theorem enc_snoc {l : List Int} {k : Nat} (h : k < l.length) : enc (l.take (k + 1)) = enc (l.take k) ++ put (l.getD k 0).toNat := by
  unfold enc
  rw [List.take_succ_eq_append_getElem h, List.flatMap_append]
  simp [List.getD, h]

theorem enc_drop {l : List Int} {k : Nat} (h : k < l.length) : enc (l.drop k) = put (l.getD k 0).toNat ++ enc (l.drop (k + 1)) := by
  rw [drop_cons h]; simp [enc]

set_option maxRecDepth 100000 in
set_option maxHeartbeats 2000000 in
theorem walk_VarintSequence (a : Option Addr) (n c : Nat) (l : List Int) (w : World) (hr : Rd w .u64 a n l) (hn : n ≤ 1048576) (_hc : n ≤ c) :
    Calls Try.prog 4 #[.slice a n c] w fun e w' => e = .returned (.bool true) ∧ Below w.heap.size w w' := by
  have HR := Lib.hid hr
  have HL := Lib.hid hr.len
  obtain ⟨B, hB⟩ : ∃ B, B = w.heap.size := ⟨_, rfl⟩
  have HB := Lib.hid hB
  rw [← hB]; clear hB hr
  have HB64 : ∀ x ∈ l, 0 ≤ x ∧ x ≤ 18446744073709551615 := fun x hx => bd_u64 (HR.out.wf x hx)
  have HB6 := Lib.hid HB64
  clear HB64
  have hne : ∀ w, (binOp .neq 25 .nilIface .nilIface).run Try.prog w = .ok (.bool false) w := fun w => by kernel_rfl
  go_enter Try.func4, Try.ntmps4
  go_wp2
  go_loopw [3, 4] (fun bv iv wr => ∃ (k : Nat) (b : Option Addr) (q d : Nat), k ≤ n ∧ iv = .int .i64 k ∧ bv = .slice b q d ∧ q ≤ 10 * k ∧ q = (enc (l.take k)).length ∧ Own wr B 5 .u8 (.slice b q d) (enc (l.take k)) ∧ Below B w wr) (fun _ iv _ => n - (intOf iv).toNat)
  case atStart => exact ⟨0, none, 0, 0, by omega, rfl, rfl, by omega, by simp [enc], by simpa [enc] using Own.nil _ _ _ _, Below.refl _ _⟩
  case round =>
    obtain ⟨k, b, q, d, hk, rfl, rfl, hq, hq2, hown, hbl⟩ := hrel
    have HQ := Lib.hid hq2
    have HO := Lib.hid hown
    have HBL := Lib.hid hbl
    have hsz : B ≤ wr.heap.size := by have := hbl.size; have := HB.out; omega
    clear hq2 hown hbl
    by_cases hlt : k < n
    · obtain ⟨b0, off, rfl, h1⟩ := (HR.out.below (by rw [← HB.out]; exact HBL.out)).cell k hlt
      have hkl : k < l.length := by rw [HL.out]; exact hlt
      have hx := HB6.out (l.getD k 0) (by simp [List.getD, hkl])
      have HS := Lib.hid (enc_snoc hkl)
      have HP := Lib.hid (fun w => put_any (l.getD k 0) w hx.1 hx.2)
      have hten := put_len_ten (n := (l.getD k 0).toNat) (by omega)
      clear hx
      generalize l.getD k 0 = x at *
      go_wp2_with (first
        | (go_at_call 17; refine (HP.out _).mono ?_; rintro e w1 ⟨a1, c1, rfl, ho1, hb1⟩; have ho1 := Lib.hid ho1; have hb1 := Lib.hid hb1; have hsz1 := hb1.out.size)
        | (at_builtin; refine app_rd (.tmp 15) (.tmp 20) E8 rfl rfl B _ _ rfl (HO.out.below hb1.out) _ _ _ _ rfl (ho1.out.rd (put_wf _)) (by rw [← HQ.out]; omega) (by omega) (by omega) ?_; intro a2 c2 w2 ho2 hg2))
      have hb2 := Lib.hid (grown_below (HO.out.below hb1.out) hg2 (by omega))
      have ho2 := Lib.hid ho2
      clear hg2
      go_roundw
      case rel =>
        refine ⟨k + 1, a2, q + (put x.toNat).length, c2, by omega, by go_num, by rw [HQ.out], by omega, by rw [HS.out, List.length_append, HQ.out], ?_, HBL.out.trans ((hb1.out.mono hsz).trans hb2.out)⟩
        rw [HS.out, HQ.out, ← List.length_append]; exact ho2.out
      case measure => simp [intOf]; omega
    · obtain rfl : k = n := by omega
      have HE : Hid (enc (l.take k) = enc l) := Lib.hid (by rw [List.take_of_length_le (by rw [HL.out]; omega)])
      go_wp2
      obtain ⟨wo, rfl⟩ : ∃ wo : World, wo = wr := ⟨_, rfl⟩
      go_loopw [3, 5] (fun bv iv wr => ∃ (j : Nat) (b : Option Addr) (q d : Nat), j ≤ k ∧ iv = .int .i64 j ∧ bv = .slice b q d ∧ q ≤ d ∧ Rd wr .u8 b q (enc (l.drop j)) ∧ Below B w wr) (fun _ iv _ => k - (intOf iv).toNat)
      case atStart =>
        refine ⟨0, b, q, d, by omega, rfl, rfl, HO.out.cap, ?_, HBL.out⟩
        rw [List.drop_zero, ← HE.out, HQ.out]
        have := HO.out
        rw [HQ.out] at this
        exact this.rd (enc_wf _)
      case round =>
        clear HO HQ HBL hsz
        obtain ⟨j, b, q, d, hj, rfl, rfl, hqd, hrd, hbl⟩ := hrel
        have hqn : q ≤ 10485760 := by
          have h1 := enc_len (l.drop j) (fun x hx => (HB6.out x (List.mem_of_mem_drop hx)).2)
          have h2 := hrd.len
          rw [List.length_drop, HL.out] at h1
          omega
        have HRD := Lib.hid hrd
        have HBL2 := Lib.hid hbl
        have hsz2 : B ≤ wr.heap.size := by have := hbl.size; have := HB.out; omega
        clear hbl
        by_cases hlt : j < k
        · obtain ⟨b0, off, rfl, h1⟩ := (HR.out.below (by rw [← HB.out]; exact HBL2.out)).cell j hlt
          have hkl : j < l.length := by rw [HL.out]; exact hlt
          have hx := HB6.out (l.getD j 0) (by simp [List.getD, hkl])
          have hS := enc_drop hkl
          have hp1 := put_len_pos (l.getD j 0).toNat
          have htk := tk_put (n := (l.getD j 0).toNat) (enc (l.drop (j + 1))) (by omega)
          have hlq := hrd.len
          rw [hS, List.length_append] at hlq
          have hu : (put (l.getD j 0).toNat).length ≤ q := by omega
          obtain ⟨ax, hrx, hcut⟩ := hrd.cutL E8 (c := d) hu hqd
          rw [hS, List.drop_left] at hrx
          rw [← hS, Int.toNat_of_nonneg hx.1] at htk
          have HK := Lib.hid htk
          have HX := Lib.hid hrx
          clear htk hrx hlq hS hrd hx
          generalize (put (l.getD j 0).toNat).length = u at *
          generalize l.getD j 0 = x at *
          go_wp2_with fail
          refine (copied_any _ _ _ _ _ HRD.out (by omega)).mono ?_
          rintro e w1 ⟨a1, c1, rfl, ho1, hb1⟩
          have ho1 := Lib.hid ho1
          have h1' := below_cell hb1 h1
          have hb1 := Lib.hid hb1
          go_wp2_with fail
          refine (take_some _ _ _ _ _ (ho1.out.rd (enc_wf _)) _ _ HK.out).mono ?_
          rintro e w2 ⟨rfl, rfl⟩
          go_wp2
          go_roundw
          case rel =>
            exact ⟨j + 1, ax, q - u, d - u, by omega, by go_num, rfl, by omega, HX.out.below hb1.out, HBL2.out.trans (hb1.out.mono hsz2)⟩
          case measure => simp [intOf]; omega
        · obtain rfl : j = k := by omega
          have hq0 : q = 0 := by
            have h2 := hrd.len
            rw [List.drop_of_length_le (by rw [HL.out]; omega)] at h2
            simp [enc] at h2; omega
          subst hq0
          clear hrd
          go_wp2_with fail
          refine (awake_any _).mono ?_
          rintro e w1 ⟨rfl, hb1⟩
          have hb1 := Lib.hid hb1
          go_wp2
          go_ret
          exact ⟨ret_eq (by simp), HBL2.out.trans (hb1.out.mono hsz2)⟩

end Go.Proofs.Ytjibameejjfdjaa
