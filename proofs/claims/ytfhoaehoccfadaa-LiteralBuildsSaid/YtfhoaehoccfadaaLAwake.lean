/-
  the statements' awake: an example of the chapter.
-/
import Derived.Test.YtfhoaehoccfadaaLSmall
import Derived.Lib.SlBytesConst
import Derived.Lib.SmallJoins
namespace Go.Proofs.Ytfhoaehoccfadaa
open Go.RowKit Go.Maps Go.Joins
set_option linter.unusedVariables false
set_option linter.unusedSimpArgs false

theorem awake_ocode : ocode [[97, 97], [97, 97]] = 0 := by decide
theorem awake_ecode : ecode [[97, 97], [97, 97]] [97, 97, 97] = 0 := by decide
theorem awake_ends : endsL [[97, 97], [97, 97]] [97, 97, 97] = [0, 2, 2] := by decide

/-- a new block of listed numbers that bears a mark -/
theorem rd_mark (w : World) (k : IntKind) (e : TypeId) (fr : Nat × Nat) (l : List Int) (g : Nat) (hg : g = w.heap.size) (hm : l.length ≤ 9223372036854775807) (hx : ∀ x ∈ l, (Lit.int k x).wf = true) : Rd (w.alloc (.cells (l.map (Value.int k)).toArray e fr)) k (some ⟨g, 0, none⟩) l.length l := by
  subst hg
  exact ⟨rfl, hm, fun i hi => ⟨_, _, rfl, by rw [Nat.zero_add, World.cell?_alloc_mark]; simp [hi]⟩, hx⟩

set_option maxRecDepth 100000 in
set_option maxHeartbeats 4000000 in
theorem awake_any (w : World) : Calls Try.prog 15 #[] w fun e w' => e = .returned (.bool true) ∧ Below w.heap.size w w' := by
  have heq0 : ∀ w, (binOp .eql 30 .nilIface .nilIface).run Try.prog w = .ok (.bool true) w := fun w => by kernel_rfl
  obtain ⟨w1, hw1⟩ : ∃ w1, w1 = w.alloc (.cells #[.int .u8 97, .int .u8 97] 5 (2, 3)) := ⟨_, rfl⟩
  obtain ⟨w2, hw2⟩ : ∃ w2, w2 = w1.alloc (.cells #[.int .u8 97, .int .u8 97] 5 (2, 3)) := ⟨_, rfl⟩
  obtain ⟨w3, hw3⟩ : ∃ w3, w3 = w2.alloc (.cells #[.slice (some ⟨w.heap.size, 0, none⟩) 2 2, .slice (some ⟨w.heap.size + 1, 0, none⟩) 2 2] 44) := ⟨_, rfl⟩
  obtain ⟨w5, hw5⟩ : ∃ w5, w5 = w3.alloc (.cells #[.int .u8 97, .int .u8 97, .int .u8 97] 5 (3, 4)) := ⟨_, rfl⟩
  have s1 : w1.heap.size = w.heap.size + 1 := by rw [hw1]; simp
  have s2 : w2.heap.size = w.heap.size + 1 + 1 := by rw [hw2]; simp [s1]
  have s3 : w3.heap.size = w.heap.size + 1 + 1 + 1 := by rw [hw3]; simp [s2]
  have k1 := run_convert_bytes_const_at (P := Try.prog) w 44 5 #[.int .u8 97, .int .u8 97] 2 2 w.heap.size rfl Try.underlying44 Try.underlying5
  have k2 := run_convert_bytes_const_at (P := Try.prog) w1 44 5 #[.int .u8 97, .int .u8 97] 2 2 (w.heap.size + 1) s1.symm Try.underlying44 Try.underlying5
  have k3 := run_convert_bytes_const_at (P := Try.prog) w3 44 5 #[.int .u8 97, .int .u8 97, .int .u8 97] 3 3 (w.heap.size + 1 + 1 + 1) s3.symm Try.underlying44 Try.underlying5
  have b1 : Below w.heap.size w w1 := by rw [hw1]; exact below_alloc _ _
  have b2 : Below w1.heap.size w1 w2 := by rw [hw2]; exact below_alloc _ _
  have b3 : Below w2.heap.size w2 w3 := by rw [hw3]; exact below_alloc _ _
  have b5 : Below w3.heap.size w3 w5 := by rw [hw5]; exact below_alloc _ _
  have hwf : ∀ x ∈ [(97 : Int), 97], (Lit.int .u8 x).wf = true := by decide
  have h1 : Rd w5 .u8 (some ⟨w.heap.size, 0, none⟩) 2 [97, 97] := by
    have h := rd_mark w .u8 5 (2, 3) [97, 97] w.heap.size rfl (by decide) hwf
    have h' : Rd w1 .u8 (some ⟨w.heap.size, 0, none⟩) 2 [97, 97] := by rw [hw1]; exact h
    exact ((h'.below b2).below b3).below b5
  have h2 : Rd w5 .u8 (some ⟨w.heap.size + 1, 0, none⟩) 2 [97, 97] := by
    have h := rd_mark w1 .u8 5 (2, 3) [97, 97] (w.heap.size + 1) s1.symm (by decide) hwf
    have h' : Rd w2 .u8 (some ⟨w.heap.size + 1, 0, none⟩) 2 [97, 97] := by rw [hw2]; exact h
    exact (h'.below b3).below b5
  have h3 : Rd w5 .u8 (some ⟨w.heap.size + 1 + 1 + 1, 0, none⟩) 3 [97, 97, 97] := by
    have h := rd_mark w3 .u8 5 (3, 4) [97, 97, 97] (w.heap.size + 1 + 1 + 1) s3.symm (by decide) (by decide)
    rw [hw5]; exact h
  have hrows : RdRows w5 .u8 (some ⟨w.heap.size + 1 + 1, 0, none⟩) 2 [[97, 97], [97, 97]] := by
    refine ⟨rfl, by decide, fun i hi => ?_⟩
    rcases i with _ | _ | i
    · exact ⟨_, _, _, _, _, rfl, below_cell b5 (by rw [hw3]; exact cell_alloc_mark_at w2 _ _ (0, 0) _ 0 s2.symm), h1, Nat.le_refl _⟩
    · exact ⟨_, _, _, _, _, rfl, below_cell b5 (by rw [hw3]; exact cell_alloc_mark_at w2 _ _ (0, 0) _ 1 s2.symm), h2, Nat.le_refl _⟩
    · omega
  have HC := Lib.hid (ends_any _ 2 2 _ _ 3 3 _ w5 hrows (by decide) h3)
  have HB1 := Lib.hid (bthen (bthen (bthen b1 b2) b3) b5)
  have HW1 := Lib.hid hw1
  have HW2 := Lib.hid hw2
  have HW3 := Lib.hid hw3
  have HW5 := Lib.hid hw5
  clear b1 b2 b3 b5 hwf h1 h2 h3 hrows
  simp only [List.size_toArray, List.length_cons, List.length_nil, Nat.zero_add, Nat.reduceAdd] at k1 k2 k3
  rw [hw3, hw2, hw1] at k3
  rw [hw1] at k2
  clear hw1 hw2 hw3 hw5 s1 s2 s3
  go_enter Try.func15, Try.ntmps15
  go_wp2_with fail
  rw [← HW1.out, ← HW2.out, ← HW3.out, ← HW5.out]
  clear k1 k2 k3
  refine HC.out.mono ?_
  rintro e w6 ⟨hb6, ⟨h0, rfl⟩ | ⟨h0, ea, ec, rfl, _, hr6⟩⟩
  · exact absurd awake_ecode h0
  · have HB6 := Lib.hid (HB1.out.trans (hb6.mono HB1.out.size))
    rw [awake_ends] at hr6
    have HR6 := Lib.hid (hr6.below (below_alloc w6 (.cells #[.int .i64 0, .int .i64 2, .int .i64 2] 3)))
    have HL := Lib.hid (Rd.lits w6 .i64 3 [0, 2, 2] (by decide) (by decide))
    clear hb6 hr6 h0
    go_wp2_with fail
    refine (ints_any _ _ 3 3 _ _ _ _ _ HR6.out HL.out).mono ?_
    rintro e w7 ⟨rfl, hb7⟩
    have HB7 := Lib.hid hb7
    clear hb7
    go_wp2
    go_ret
    refine ⟨ret_eq (by simp), ?_⟩
    exact (HB6.out.alloc HB6.out.size _).trans (HB7.out.mono (by have := HB6.out.size; simp; omega))

end Go.Proofs.Ytfhoaehoccfadaa
