/-
  varint.PutBytes.
-/
import Derived.Test.YtoakelgjofdmpaaHVTakeB
namespace Go.Proofs.Ytoakelgjofdmpaa
open Go.RowKit
set_option linter.unusedVariables false
set_option linter.unusedSimpArgs false

/-- a list in memory from block B on -/
def MadeL (B : Nat) (r : List Int) (w : World) (e : Ending) (w' : World) : Prop :=
  ∃ a c, e = .returned (.slice a r.length c) ∧ Own w' B 5 .u8 (.slice a r.length c) r ∧ Below B w w'

theorem wrap_len {n : Nat} (h : n ≤ 140737488355328) : IntKind.u64.wrap (n : Int) = n := by rw [IntKind.wrap_u64]; omega

set_option maxRecDepth 100000 in
theorem putBytes_any (a : Option Addr) (n c : Nat) (l : List Int) (w : World) (hr : Rd w .u8 a n l) (hn : n ≤ 140737488300000) :
    Calls Try.prog 48 #[.slice a n c] w (MadeL w.heap.size (put n ++ l) w) := by
  have HL := Lib.hid hr.len
  have HR := Lib.hid hr
  have hten := put_len_ten (n := n) (by omega)
  have HP := Lib.hid (fun w => put_any (n : Int) w (by omega) (by omega))
  rw [Int.toNat_natCast] at HP
  clear hr
  go_enter Try.func48, Try.ntmps48
  go_wp2_with (first
    | (go_at_call 47; refine (HP.out _).mono ?_; rintro e w1 ⟨a1, c1, rfl, ho1, hb1⟩; have ho1 := Lib.hid ho1; have hb1 := Lib.hid hb1; have hsz1 := hb1.out.size)
    | (at_builtin; refine app_rd _ _ E8 rfl rfl w.heap.size _ _ rfl ho1.out _ _ _ _ rfl (HR.out.below hb1.out) (by rw [HL.out]; omega) (by omega) (by omega) ?_; intro a2 c2 w2 ho2 hg2))
  have hb2 := Lib.hid (grown_below ho1.out hg2 (by omega))
  have ho2 := Lib.hid ho2
  clear hg2
  go_ret
  exact ⟨a2, c2, ret_eq (by simp), by simpa using ho2.out, hb1.out.trans hb2.out⟩

theorem tb_put {l : List Int} (tail : List Int) {n : Nat} (hl : l.length = n) (h : n < 18446744073709551616) {most : Int} (hm : (n : Int) ≤ max most 0) : tb (put n ++ (l ++ tail)) most = .inr (l, (put n).length + n) := by
  unfold tb
  rw [tk_put _ h]
  simp only
  rw [if_neg (by omega), if_neg (by simp only [List.length_append]; omega)]
  simp [hl]

end Go.Proofs.Ytoakelgjofdmpaa
