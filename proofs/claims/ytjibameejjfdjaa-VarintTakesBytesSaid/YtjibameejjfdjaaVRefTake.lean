/-
  evergreenref07.Take: what it returns for any bytes that can be read, by the same plain function 'tk'; nothing is written.
-/
import Derived.Test.YtjibameejjfdjaaVTake
namespace Go.Proofs.Ytjibameejjfdjaa
open Go.RowKit

/-- the number of which a list are the groups of seven bits, the lowest first -/
def hor : List Int → Int
  | [] => 0
  | x :: r => x % 128 + 128 * hor r

theorem hor_nonneg : ∀ l, 0 ≤ hor l
  | [] => by simp [hor]
  | x :: r => by have := hor_nonneg r; simp only [hor]; omega

theorem hor_lt : ∀ l : List Int, hor l < 128 ^ l.length
  | [] => by simp [hor]
  | x :: r => by
    have := hor_lt r
    simp only [hor, List.length_cons]
    rw [Int.pow_succ]
    generalize (128 : Int) ^ r.length = p at *
    omega

theorem hor_append : ∀ (l : List Int) (x : Int), hor (l ++ [x]) = hor l + x % 128 * 128 ^ l.length
  | [], x => by simp [hor]
  | y :: r, x => by
    have := hor_append r x
    simp only [List.cons_append, hor, List.length_cons, this]
    rw [Int.pow_succ, Int.mul_add, Int.add_assoc]
    congr 1; congr 1
    rw [Int.mul_comm (128 ^ r.length) 128, ← Int.mul_assoc, ← Int.mul_assoc, Int.mul_comm 128]

theorem take_snoc' {l : List Int} {k : Nat} (h : k < l.length) : l.take (k + 1) = l.take k ++ [l.getD k 0] := by
  rw [List.take_succ_eq_append_getElem h]; simp [List.getD, h]

theorem hor_take {l : List Int} {k : Nat} (h : k < l.length) : hor (l.take (k + 1)) = hor (l.take k) + l.getD k 0 % 128 * 2 ^ (7 * k) := by
  rw [take_snoc' h, hor_append, List.length_take_of_le (by omega), Int.pow_mul]; rfl

theorem hor_drop {l : List Int} {k q : Nat} (h : q ≤ k) (hk : k < l.length) : hor ((l.take (k + 1)).drop q) = l.getD q 0 % 128 + 128 * hor ((l.take (k + 1)).drop (q + 1)) := by
  have hl : q < (l.take (k + 1)).length := by rw [List.length_take]; omega
  rw [drop_cons hl, hor]
  congr 2
  simp [List.getD, show q < k + 1 by omega]

theorem hor_drop_le (l : List Int) : ∀ q, hor (l.drop q) * 1 ≤ hor l ∧ (l.length > 9 → 0 < q → True) := by
  intro q
  refine ⟨?_, fun _ _ => trivial⟩
  rw [Int.mul_one]
  induction l generalizing q with
  | nil => simp [hor]
  | cons x r ih =>
    cases q with
    | zero => simp
    | succ q =>
      have h1 := ih q
      have h2 := hor_nonneg r
      simp only [List.drop_succ_cons, hor]
      omega

/-- below 2^64: at most nine bytes, or ten of which the last one is at most 1 -/
theorem hor_small {l : List Int} {k : Nat} (hk : k < l.length) (h9 : k ≤ 9) (hx : k = 9 → l.getD 9 0 ≤ 1) (h0 : 0 ≤ l.getD k 0) : hor (l.take (k + 1)) < 18446744073709551616 := by
  rw [hor_take hk]
  have h1 := hor_lt (l.take k)
  rw [List.length_take_of_le (by omega), show (128 : Int) = 2 ^ 7 by rfl, ← Int.pow_mul] at h1
  have hx' : k = 9 → l.getD k 0 ≤ 1 := by intro h; subst h; exact hx rfl
  generalize l.getD k 0 = x at *
  generalize hor (l.take k) = m at *
  have hy : k = 9 → x % 128 ≤ 1 := by omega
  have hy0 : 0 ≤ x % 128 := by omega
  have hy1 : x % 128 ≤ 127 := by omega
  generalize x % 128 = y at *
  have h : k = 0 ∨ k = 1 ∨ k = 2 ∨ k = 3 ∨ k = 4 ∨ k = 5 ∨ k = 6 ∨ k = 7 ∨ k = 8 ∨ k = 9 := by omega
  rcases h with rfl | rfl | rfl | rfl | rfl | rfl | rfl | rfl | rfl | rfl
  all_goals simp only [Nat.reduceMul, Int.reducePow] at *
  all_goals first | omega | (have := hy trivial; omega)

/-- what the reference's Take returns -/
def rtV : Option (Int × Nat) → Value
  | some (v, u) => .tuple #[.int .u64 v, .int .i64 u, .int .i64 0]
  | none => .tuple #[.int .u64 0, .int .i64 0, .int .i64 4]

theorem wrap_mul_add {h p x : Int} (h0 : 0 ≤ h) (_hx : 0 ≤ x) (e : p = x % 128 + 128 * h) (hp : p < 18446744073709551616) :
    IntKind.u64.wrap (IntKind.u64.wrap (h * 128) + x % 128) = p := by
  rw [IntKind.wrap_u64, IntKind.wrap_u64]
  omega

set_option maxHeartbeats 1000000 in
theorem rtake_any (a : Option Addr) (n c : Nat) (l : List Int) (w : World) (hr : Rd w .u8 a n l) :
    Calls Try.prog 14 #[.slice a n c] w fun e w' => e = .returned (rtV (tk l)) ∧ w = w' := by
  have hmax := hr.max
  have HL := Lib.hid hr.len
  go_enter Try.func14, Try.ntmps14
  go_wp2
  go_loop [5, 6, 7, 8] (fun u _ _ _ => ∃ (k : Nat), k ≤ n ∧ k ≤ 10 ∧ u = .int .i64 (↑k + 1) ∧ (k ≤ 9 → tk l = tkGo k (hor (l.take k)) (l.drop k)) ∧ (k = 10 → tk l = none)) (fun u _ _ _ => n - (intOf u - 1).toNat)
  case atStart => exact ⟨0, by omega, by omega, rfl, by simp [tk, hor], by omega⟩
  case round =>
    obtain ⟨k, hk, hk2, rfl, htk, hten⟩ := hrel
    by_cases hlt : k < n
    · by_cases h10 : k = 10
      · have HN := Lib.hid (hten h10)
        clear htk hten hr
        go_wp2
        go_ret3
        exact ⟨ret_eq (by rw [HN.out]; rfl), rfl⟩
      · have HT := Lib.hid (htk (by omega))
        clear htk hten
        have hkl : k < l.length := by rw [HL.out]; exact hlt
        have h2 := bd_u8 (hr.wf (l.getD k 0) (by simp [List.getD, hkl]))
        have HD := Lib.hid (drop_cons (l := l) (k := k) hkl)
        have HH := Lib.hid (hor_take (l := l) (k := k) hkl)
        obtain ⟨b, off, rfl, h1⟩ := hr.cell k hlt
        have HX : Hid (∃ x, x = l.getD k 0) := ⟨_, rfl⟩
        by_cases hbig : 127 < l.getD k 0
        · generalize hx : l.getD k 0 = x at *
          have HX2 := Lib.hid hx; clear hx hr
          go_wp2
          go_round
          case rel =>
            refine ⟨k + 1, by omega, by omega, by go_num, fun h => ?_, fun h => ?_⟩
            · rw [HT.out, HD.out, tkGo, if_neg (by omega), if_neg (by omega), HH.out, show x % 128 = x - 128 by omega]
            · rw [HT.out, HD.out, tkGo, if_pos (by omega)]
          case measure => simp [intOf]; omega
        · by_cases hbad : (l.getD k 0 = 0 ∧ 0 < k) ∨ (k = 9 ∧ 1 < l.getD k 0)
          · have HE : Hid (tk l = none) := by
              refine Lib.hid ?_
              rw [HT.out, HD.out, tkGo]
              rcases hbad with ⟨h0, h3⟩ | h3
              · rw [if_neg (by omega), if_pos (by omega), if_pos ⟨h0, h3⟩]
              · rw [if_pos h3]
            clear HD HH HT hr HX
            generalize l.getD k 0 = x at *
            rcases hbad with ⟨h0, h3⟩ | ⟨h3, h4⟩
            · subst h0
              go_wp2
              go_ret3
              exact ⟨ret_eq (by rw [HE.out]; rfl), rfl⟩
            · have hx0 : ¬ x = 0 := by omega
              have hk9 : ((k : Int) + 1 == 10) = true := by simp; omega
              clear h3
              go_wp2
              all_goals go_ret3
              all_goals exact ⟨ret_eq (by rw [HE.out]; rfl), rfl⟩
          · have HE : Hid (tk l = some (hor (l.take (k + 1)), k + 1)) := by
              refine Lib.hid ?_
              rw [HT.out, HD.out, tkGo, if_neg (by omega), if_pos (by omega), if_neg (by omega), HH.out]
              rw [show l.getD k 0 % 128 = l.getD k 0 by omega]
            have HS := Lib.hid (hor_small (l := l) (k := k) hkl (by omega) (fun h => by subst h; omega) h2.1)
            have HB : ∀ q, q ≤ k → Hid (hor ((l.take (k + 1)).drop q) = l.getD q 0 % 128 + 128 * hor ((l.take (k + 1)).drop (q + 1))) := fun q hq => Lib.hid (hor_drop hq hkl)
            have HZ : Hid (hor ((l.take (k + 1)).drop (k + 1)) = 0) := by
              refine Lib.hid ?_
              rw [List.drop_of_length_le (by rw [List.length_take]; omega), hor]
            have HQ : ∀ q, hor ((l.take (k + 1)).drop q) ≤ hor (l.take (k + 1)) := fun q => by have := (hor_drop_le (l.take (k + 1)) q).1; omega
            have t1 : 0 < l.getD k 0 ∨ k = 0 := by omega
            have t2 : k < 9 ∨ l.getD k 0 ≤ 1 := by omega
            have t3 : l.getD k 0 < 128 := by omega
            have HS2 := HS.out
            clear hbad HT HH HD HX
            obtain ⟨x, hx⟩ : ∃ x, x = l.getD k 0 := ⟨_, rfl⟩
            rw [← hx] at h1 h2 hbig t1 t2 t3
            have HX2 := Lib.hid hx; clear hx
            generalize hp : hor (l.take (k + 1)) = p at *
            have HP := Lib.hid hp; clear hp
            have HQ2 := Lib.hid HQ; clear HQ
            go_wp2
            all_goals
              go_loop [7, 8] (fun m i => (∃ q : Nat, q ≤ k ∧ i = .int .i64 q ∧ m = .int .u64 (hor ((l.take (k + 1)).drop (q + 1)))) ∨ (i = .int .i64 (-1) ∧ m = .int .u64 p)) (fun _ i => (intOf i + 1).toNat)
              case atStart => exact .inl ⟨k, by omega, by first | (simp; done) | (simp; omega), by rw [HZ.out]⟩
              case round =>
                rcases hrel with ⟨q, hq, rfl, rfl⟩ | ⟨rfl, rfl⟩
                · obtain ⟨b', off', hbo, h3⟩ := hr.cell q (by omega)
                  cases hbo
                  have h4 := bd_u8 (hr.wf (l.getD q 0) (by simp [List.getD, show q < l.length by omega]))
                  have HW := Lib.hid (wrap_mul_add (hor_nonneg ((l.take (k + 1)).drop (q + 1))) h4.1 (HB q hq).out (Int.lt_of_le_of_lt (HQ2.out q) HS2))
                  have HBq := HB q hq
                  have HPP : Hid (hor ((l.take (k + 1)).drop 0) = p) := Lib.hid (by rw [List.drop_zero]; exact HP.out)
                  generalize hg : hor ((l.take (k + 1)).drop (q + 1)) = m at *
                  generalize l.getD q 0 = y at *
                  clear hr HB HQ2
                  go_wp2
                  go_round
                  case rel =>
                    rw [HW.out]
                    cases q with
                    | zero => exact .inr ⟨by simp, by rw [HPP.out]⟩
                    | succ q => exact .inl ⟨q, by omega, by go_num, rfl⟩
                  case measure => simp [intOf]
                · go_wp2
                  go_ret3
                  exact ⟨ret_eq (by rw [HE.out]; first | rfl | (simp [rtV]; omega)), rfl⟩
    · have HE : Hid (tk l = none) := by
        refine Lib.hid ?_
        by_cases h : k ≤ 9
        · rw [htk h, List.drop_of_length_le (by rw [HL.out]; omega), tkGo]
        · exact hten (by omega)
      clear htk hten hr
      go_wp2
      go_ret3
      exact ⟨ret_eq (by rw [HE.out]; rfl), rfl⟩

theorem rtake_none (a : Option Addr) (n c : Nat) (l : List Int) (w : World) (hr : Rd w .u8 a n l) (h : tk l = none) :
    Calls Try.prog 14 #[.slice a n c] w fun e w' => e = .returned (.tuple #[.int .u64 0, .int .i64 0, .int .i64 4]) ∧ w = w' := by
  have := rtake_any a n c l w hr
  rw [h] at this; exact this

theorem rtake_some (a : Option Addr) (n c : Nat) (l : List Int) (w : World) (hr : Rd w .u8 a n l) (v : Int) (u : Nat) (h : tk l = some (v, u)) :
    Calls Try.prog 14 #[.slice a n c] w fun e w' => e = .returned (.tuple #[.int .u64 v, .int .i64 u, .int .i64 0]) ∧ w = w' := by
  have := rtake_any a n c l w hr
  rw [h] at this; exact this

end Go.Proofs.Ytjibameejjfdjaa
