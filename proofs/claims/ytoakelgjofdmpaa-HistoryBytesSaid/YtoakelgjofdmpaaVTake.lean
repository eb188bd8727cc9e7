/-
  varint.Take: what it returns for any bytes that can be read, as the plain function 'tk' of their list; nothing is written.
-/
import Derived.Test.YtoakelgjofdmpaaBase
import Derived.Lib.VarintBits
namespace Go.Proofs.Ytoakelgjofdmpaa
open Go.RowKit

theorem or_step (m x : Int) (k : Nat) (hk : k ≤ 9) (hm0 : 0 ≤ m) (hm : m < 2 ^ (7 * k)) (hx0 : 0 ≤ x) (hx : x ≤ 255) (h9 : k = 9 → x ≤ 1) :
    bits .or .u64 m (IntKind.u64.wrap (IntKind.u64.wrap (bits .and .u8 x 127) * 2 ^ (7 * k))) = m + x % 128 * 2 ^ (7 * k) := by
  rw [u8_and127 _ hx0 (by omega), IntKind.wrap_u64, IntKind.wrap_u64]
  have h : k = 0 ∨ k = 1 ∨ k = 2 ∨ k = 3 ∨ k = 4 ∨ k = 5 ∨ k = 6 ∨ k = 7 ∨ k = 8 ∨ k = 9 := by omega
  have e : x % 128 % 18446744073709551616 = x % 128 := by omega
  rw [e]
  have h9' : k = 9 → x % 128 ≤ 1 := by omega
  generalize hy : x % 128 = y at *
  have y0 : 0 ≤ y := by omega
  have y1 : y ≤ 127 := by omega
  clear hy hx0 hx h9 e
  rcases h with rfl | rfl | rfl | rfl | rfl | rfl | rfl | rfl | rfl | rfl
  all_goals simp only [Nat.reduceMul, Int.reducePow] at *
  · rw [u64_orv0 _ _ (by omega) (by omega) (by omega) (by omega) (by omega)]; omega
  · rw [u64_orv7 _ _ (by omega) (by omega) (by omega) (by omega) (by omega)]; omega
  · rw [u64_orv14 _ _ (by omega) (by omega) (by omega) (by omega) (by omega)]; omega
  · rw [u64_orv21 _ _ (by omega) (by omega) (by omega) (by omega) (by omega)]; omega
  · rw [u64_orv28 _ _ (by omega) (by omega) (by omega) (by omega) (by omega)]; omega
  · rw [u64_orv35 _ _ (by omega) (by omega) (by omega) (by omega) (by omega)]; omega
  · rw [u64_orv42 _ _ (by omega) (by omega) (by omega) (by omega) (by omega)]; omega
  · rw [u64_orv49 _ _ (by omega) (by omega) (by omega) (by omega) (by omega)]; omega
  · rw [u64_orv56 _ _ (by omega) (by omega) (by omega) (by omega) (by omega)]; omega
  · have := h9' trivial
    rw [u64_orv63 _ _ (by omega) (by omega) (by omega) (by omega) (by omega)]; omega

/-- Take from byte k on, with the number m gathered so far -/
def tkGo : Nat → Int → List Int → Option (Int × Nat)
  | _, _, [] => none
  | k, m, x :: r =>
    if k = 9 ∧ 1 < x then none
    else if x < 128 then (if x = 0 ∧ 0 < k then none else some (m + x * 2 ^ (7 * k), k + 1))
    else tkGo (k + 1) (m + (x - 128) * 2 ^ (7 * k)) r

/-- Take: the number and how many bytes it has -/
def tk (l : List Int) : Option (Int × Nat) := tkGo 0 0 l

def errForm : Value := .iface 63 (.int .i64 4)

/-- what Take returns -/
def tkV : Option (Int × Nat) → Value
  | some (v, u) => .tuple #[.int .u64 v, .int .i64 u, .nilIface]
  | none => .tuple #[.int .u64 0, .int .i64 0, errForm]

theorem pow_step (m x : Int) (k : Nat) (hm0 : 0 ≤ m) (hm : m < 2 ^ (7 * k)) (hx0 : 128 ≤ x) (hx : x ≤ 255) : 0 ≤ m + (x - 128) * 2 ^ (7 * k) ∧ m + (x - 128) * 2 ^ (7 * k) < 2 ^ (7 * (k + 1)) := by
  have hp : (2 : Int) ^ (7 * (k + 1)) = 128 * 2 ^ (7 * k) := by
    rw [show 7 * (k + 1) = 7 * k + 7 from by omega, Int.pow_add]; omega
  rw [hp]
  generalize hP : (2 : Int) ^ (7 * k) = p at *
  have h1 : 0 ≤ (x - 128) * p := Int.mul_nonneg (by omega) (by omega)
  have h2 : (x - 128) * p ≤ 127 * p := Int.mul_le_mul_of_nonneg_right (by omega) (by omega)
  omega

set_option maxHeartbeats 1000000 in
theorem take_any (a : Option Addr) (n c : Nat) (l : List Int) (w : World) (hr : Rd w .u8 a n l) :
    Calls Try.prog 53 #[.slice a n c] w fun e w' => e = .returned (tkV (tk l)) ∧ w = w' := by
  have hmax := hr.max
  have hlen := hr.len
  have HL := Lib.hid hlen; clear hlen
  go_enter Try.func53, Try.ntmps53
  go_wp2
  go_loop [2, 9] (fun acc i => ∃ (k : Nat) (m : Int), k ≤ n ∧ k ≤ 9 ∧ i = .int .i64 k ∧ acc = .int .u64 m ∧ 0 ≤ m ∧ m < 2 ^ (7 * k) ∧ tk l = tkGo k m (l.drop k)) (fun _ i => n - (intOf i).toNat)
  case atStart => exact ⟨0, 0, by omega, by omega, rfl, rfl, by omega, by decide, by simp [tk]⟩
  case round =>
    obtain ⟨k, m, hk, hk2, rfl, rfl, hm0, hm1, htk⟩ := hrel
    have HT := Lib.hid htk; clear htk
    by_cases hlt : k < n
    · obtain ⟨b, off, rfl, h1⟩ := hr.cell k hlt
      have h2 := bd_u8 (hr.wf (l.getD k 0) (by simp [List.getD, show k < l.length by rw [HL.out]; exact hlt]))
      have HD := Lib.hid (drop_cons (l := l) (k := k) (by rw [HL.out]; exact hlt))
      generalize l.getD k 0 = x at *
      clear hr
      have HM := Lib.hid hm1; clear hm1
      have HO := fun h9 => Lib.hid (or_step m x k hk2 hm0 HM.out h2.1 h2.2 h9)
      by_cases h9 : k = 9
      · obtain rfl := h9
        by_cases hx : 1 < x
        · go_wp2
          go_ret3
          exact ⟨ret_eq (by rw [HT.out, HD.out, tkGo, if_pos ⟨rfl, hx⟩]; rfl), rfl⟩
        · by_cases hx0 : x = 0
          · subst hx0
            go_wp2
            go_ret3
            exact ⟨ret_eq (by rw [HT.out, HD.out, tkGo, if_neg (by omega), if_pos (by omega), if_pos (by omega)]; rfl), rfl⟩
          · obtain rfl : x = 1 := by omega
            go_wp2
            go_ret3
            refine ⟨ret_eq ?_, rfl⟩
            rw [HT.out, HD.out, tkGo, if_neg (by omega), if_pos (by omega), if_neg (by omega)]
            have h := (HO (fun _ => by omega)).out
            simp only [Nat.reduceMul, Int.reducePow] at h
            simp only [tkV, Nat.reduceMul, Int.reducePow]
            simp [h]
      · by_cases hx : x < 128
        · by_cases hx0 : x = 0
          · subst hx0
            go_wp2
            · have hk0 : 0 < k := by assumption
              go_ret3
              exact ⟨ret_eq (by rw [HT.out, HD.out, tkGo, if_neg (by omega), if_pos (by omega), if_pos (by omega)]; rfl), rfl⟩
            · have hk0 : ¬ 0 < k := by assumption
              go_ret3
              refine ⟨ret_eq ?_, rfl⟩
              rw [HT.out, HD.out, tkGo, if_neg (by omega), if_pos (by omega), if_neg (by omega)]
              have h := (HO (fun h => by omega)).out
              simp only [tkV]
              simp [h]
          · go_wp2
            go_ret3
            refine ⟨ret_eq ?_, rfl⟩
            rw [HT.out, HD.out, tkGo, if_neg (by omega), if_pos (by omega), if_neg (by omega)]
            have h := (HO (fun h => by omega)).out
            simp only [tkV, show x % 128 = x by omega] at h ⊢
            simp [h]
        · go_wp2
          go_round
          case rel =>
            have h := (HO (fun h => by omega)).out
            rw [show x % 128 = x - 128 by omega] at h
            have hp := pow_step m x k hm0 HM.out (by omega) h2.2
            exact ⟨k + 1, m + (x - 128) * 2 ^ (7 * k), by omega, by omega, by go_num, by rw [h], hp.1, hp.2, by rw [HT.out, HD.out, tkGo, if_neg (by omega), if_neg (by omega)]⟩
          case measure => simp [intOf]; omega
    · go_wp2
      go_ret3
      refine ⟨ret_eq ?_, rfl⟩
      rw [HT.out, List.drop_of_length_le (by rw [HL.out]; omega), tkGo]
      rfl

theorem take_none (a : Option Addr) (n c : Nat) (l : List Int) (w : World) (hr : Rd w .u8 a n l) (h : tk l = none) :
    Calls Try.prog 53 #[.slice a n c] w fun e w' => e = .returned (.tuple #[.int .u64 0, .int .i64 0, .iface 63 (.int .i64 4)]) ∧ w = w' := by
  have := take_any a n c l w hr
  rw [h] at this; exact this

theorem take_some (a : Option Addr) (n c : Nat) (l : List Int) (w : World) (hr : Rd w .u8 a n l) (v : Int) (u : Nat) (h : tk l = some (v, u)) :
    Calls Try.prog 53 #[.slice a n c] w fun e w' => e = .returned (.tuple #[.int .u64 v, .int .i64 u, .nilIface]) ∧ w = w' := by
  have := take_any a n c l w hr
  rw [h] at this; exact this

end Go.Proofs.Ytoakelgjofdmpaa
