/-
  the statements' alive: the document's example; what a nil graph returns.
-/
import Derived.Test.YtoakelgjofdmpaaHBasW
namespace Go.Proofs.Ytoakelgjofdmpaa
open Go.RowKit
set_option linter.unusedVariables false
set_option linter.unusedSimpArgs false

theorem acell {w : World} {xs : Array Value} {e : TypeId} {i z : Nat} {v : Value} (hz : w.heap.size = z) (h : xs[i]? = some v) : (w.alloc (.cells xs e)).cell? ⟨z, i, none⟩ = some v := by
  subst hz; rw [World.cell?_alloc_new]; exact h

def exL : List Cm := [([], 0, .empty), ([0], 0, .empty), ([0], 0, .empty), ([1, 2], 0, .empty), ([2, 1], 0, .empty)]
theorem exL_build : buildL exL = exL := by decide +kernel
theorem exL_good : GoodL exL := by rw [← exL_build]; exact buildL_good _
theorem exL_bases : bases exL 3 4 = [1, 2] := by decide +kernel

set_option maxRecDepth 100000 in
set_option maxHeartbeats 2000000 in
theorem alive_any (w : World) : Calls Try.prog 11 #[] w fun e w' => e = .returned (.bool true) ∧ Below w.heap.size w w' := by
  have hne : ∀ w, (binOp .eql 33 .nilIface .nilIface).run Try.prog w = .ok (.bool true) w := fun w => by kernel_rfl
  obtain ⟨z, hz⟩ : ∃ z, z = w.heap.size := ⟨_, rfl⟩
  obtain ⟨V1, hV1⟩ : ∃ V, V = w.alloc (.cells #[.int .i64 0] 3) := ⟨_, rfl⟩
  obtain ⟨V2, hV2⟩ : ∃ V, V = V1.alloc (.cells #[.int .i64 0] 3) := ⟨_, rfl⟩
  obtain ⟨V3, hV3⟩ : ∃ V, V = V2.alloc (.cells #[.int .i64 1, .int .i64 2] 3) := ⟨_, rfl⟩
  obtain ⟨V4, hV4⟩ : ∃ V, V = V3.alloc (.cells #[.int .i64 2, .int .i64 1] 3) := ⟨_, rfl⟩
  obtain ⟨W, hW⟩ : ∃ V, V = V4.alloc (.cells #[.slice none 0 0, .int .i64 0, .string ⟨#[]⟩, .slice (some ⟨z, 0, none⟩) 1 1, .int .i64 0, .string ⟨#[]⟩, .slice (some ⟨z + 1, 0, none⟩) 1 1, .int .i64 0, .string ⟨#[]⟩, .slice (some ⟨z + 1 + 1, 0, none⟩) 2 2, .int .i64 0, .string ⟨#[]⟩, .slice (some ⟨z + 1 + 1 + 1, 0, none⟩) 2 2, .int .i64 0, .string ⟨#[]⟩] 27) := ⟨_, rfl⟩
  have s1 : V1.heap.size = z + 1 := by rw [hV1, hz]; simp
  have s2 : V2.heap.size = z + 1 + 1 := by rw [hV2]; simp [s1]
  have s3 : V3.heap.size = z + 1 + 1 + 1 := by rw [hV3]; simp [s2]
  have s4 : V4.heap.size = z + 1 + 1 + 1 + 1 := by rw [hV4]; simp [s3]
  have q1 : Below w.heap.size w V1 := by rw [hV1]; exact below_alloc _ _
  have q2 : Below V1.heap.size V1 V2 := by rw [hV2]; exact below_alloc _ _
  have q3 : Below V2.heap.size V2 V3 := by rw [hV3]; exact below_alloc _ _
  have q4 : Below V3.heap.size V3 V4 := by rw [hV4]; exact below_alloc _ _
  have q5 : Below V4.heap.size V4 W := by rw [hW]; exact below_alloc _ _
  have HBW : Hid (Below w.heap.size w W) := Lib.hid (bthen q1 (bthen q2 (bthen q3 (bthen q4 q5))))
  have P1 : Par W (fun i => i < W.heap.size) (.slice (some ⟨z, 0, none⟩) 1 1) [0] := by
    refine ⟨_, _, _, rfl, ⟨Nat.le_refl _, fun h => by cases h⟩, ⟨⟨rfl, by omega, fun i hi => ⟨_, _, rfl, ?_⟩, by decide⟩, fun x hx _ => ?_⟩⟩
    · obtain rfl : i = 0 := by omega
      exact below_cell (bthen q2 (bthen q3 (bthen q4 q5))) (by rw [hV1]; exact acell hz.symm rfl)
    · cases hx; have := HBW.out.size; have := q1.size; have := (bthen q2 (bthen q3 (bthen q4 q5))).size; show z < _; omega
  have P2 : Par W (fun i => i < W.heap.size) (.slice (some ⟨z + 1, 0, none⟩) 1 1) [0] := by
    refine ⟨_, _, _, rfl, ⟨Nat.le_refl _, fun h => by cases h⟩, ⟨⟨rfl, by omega, fun i hi => ⟨_, _, rfl, ?_⟩, by decide⟩, fun x hx _ => ?_⟩⟩
    · obtain rfl : i = 0 := by omega
      exact below_cell (bthen q3 (bthen q4 q5)) (by rw [hV2]; exact acell s1 rfl)
    · cases hx; have := (bthen q3 (bthen q4 q5)).size; show z + 1 < _; omega
  have P3 : Par W (fun i => i < W.heap.size) (.slice (some ⟨z + 1 + 1, 0, none⟩) 2 2) [1, 2] := by
    refine ⟨_, _, _, rfl, ⟨Nat.le_refl _, fun h => by cases h⟩, ⟨⟨rfl, by omega, fun i hi => ⟨_, _, rfl, ?_⟩, by decide⟩, fun x hx _ => ?_⟩⟩
    · rcases (show i = 0 ∨ i = 1 by omega) with rfl | rfl
      · exact below_cell (bthen q4 q5) (by rw [hV3]; exact acell s2 rfl)
      · exact below_cell (bthen q4 q5) (by rw [hV3]; exact acell s2 rfl)
    · cases hx; have := (bthen q4 q5).size; show z + 1 + 1 < _; omega
  have P4 : Par W (fun i => i < W.heap.size) (.slice (some ⟨z + 1 + 1 + 1, 0, none⟩) 2 2) [2, 1] := by
    refine ⟨_, _, _, rfl, ⟨Nat.le_refl _, fun h => by cases h⟩, ⟨⟨rfl, by omega, fun i hi => ⟨_, _, rfl, ?_⟩, by decide⟩, fun x hx _ => ?_⟩⟩
    · rcases (show i = 0 ∨ i = 1 by omega) with rfl | rfl
      · exact below_cell q5 (by rw [hV4]; exact acell s3 rfl)
      · exact below_cell q5 (by rw [hV4]; exact acell s3 rfl)
    · cases hx; have := q5.size; show z + 1 + 1 + 1 < _; omega
  have P0 : Par W (fun i => i < W.heap.size) (.slice none 0 0) [] := ⟨_, _, _, rfl, ⟨Nat.le_refl _, fun _ => rfl⟩, ⟨⟨rfl, by omega, fun i hi => by omega, by simp⟩, fun x hx => by cases hx⟩⟩
  have hzW : z + 1 + 1 + 1 + 1 < W.heap.size := by rw [hW]; simp [s4]
  have HRC : Hid (RdC W (fun i => i < W.heap.size) (some ⟨z + 1 + 1 + 1 + 1, 0, none⟩) 5 exL) := Lib.hid (by
    refine ⟨rfl, by omega, fun i x hx => ?_, ?_⟩
    · have hi : i < 5 := (List.getElem?_eq_some_iff.1 hx).1
      rcases (show i = 0 ∨ i = 1 ∨ i = 2 ∨ i = 3 ∨ i = 4 by omega) with rfl | rfl | rfl | rfl | rfl
      · cases hx; exact ⟨_, 0, _, rfl, hzW, by rw [hW]; exact acell s4 rfl, by rw [hW]; exact acell s4 rfl, by rw [hW]; exact acell s4 rfl, P0⟩
      · cases hx; exact ⟨_, 0, _, rfl, hzW, by rw [hW]; exact acell s4 rfl, by rw [hW]; exact acell s4 rfl, by rw [hW]; exact acell s4 rfl, P1⟩
      · cases hx; exact ⟨_, 0, _, rfl, hzW, by rw [hW]; exact acell s4 rfl, by rw [hW]; exact acell s4 rfl, by rw [hW]; exact acell s4 rfl, P2⟩
      · cases hx; exact ⟨_, 0, _, rfl, hzW, by rw [hW]; exact acell s4 rfl, by rw [hW]; exact acell s4 rfl, by rw [hW]; exact acell s4 rfl, P3⟩
      · cases hx; exact ⟨_, 0, _, rfl, hzW, by rw [hW]; exact acell s4 rfl, by rw [hW]; exact acell s4 rfl, by rw [hW]; exact acell s4 rfl, P4⟩
    · intro x hx
      have : x = ([], 0, .empty) ∨ x = ([0], 0, .empty) ∨ x = ([0], 0, .empty) ∨ x = ([1, 2], 0, .empty) ∨ x = ([2, 1], 0, .empty) := by simpa [exL] using hx
      rcases this with rfl | rfl | rfl | rfl | rfl <;> exact ⟨rfl, by decide, by decide⟩)
  have HEQ : Hid (W = ((((w.alloc (.cells #[.int .i64 0] 3)).alloc (.cells #[.int .i64 0] 3)).alloc (.cells #[.int .i64 1, .int .i64 2] 3)).alloc (.cells #[.int .i64 2, .int .i64 1] 3)).alloc (.cells #[.slice none 0 0, .int .i64 0, .string ⟨#[]⟩, .slice (some ⟨w.heap.size, 0, none⟩) 1 1, .int .i64 0, .string ⟨#[]⟩, .slice (some ⟨w.heap.size + 1, 0, none⟩) 1 1, .int .i64 0, .string ⟨#[]⟩, .slice (some ⟨w.heap.size + 1 + 1, 0, none⟩) 2 2, .int .i64 0, .string ⟨#[]⟩, .slice (some ⟨w.heap.size + 1 + 1 + 1, 0, none⟩) 2 2, .int .i64 0, .string ⟨#[]⟩] 27)) := Lib.hid (by rw [hW, hV4, hV3, hV2, hV1, hz])
  have HZ := Lib.hid hz
  clear hV1 hV2 hV3 hV4 hW s1 s2 s3 s4 q1 q2 q3 q4 q5 P0 P1 P2 P3 P4 hzW hz
  rw [HZ.out] at HRC
  clear V1 V2 V3 V4
  go_enter Try.func11, Try.ntmps11
  go_wp2_with fail
  rw [← HEQ.out]
  refine (build_any _ _ 5 5 exL W HRC.out (fun i hi => hi)).mono ?_
  rintro e w1 ⟨bg, al, cl, S, T, rfl, htw⟩
  rw [exL_build] at htw ⊢
  have HTW := Lib.hid htw
  have HB1 : Hid (Below w.heap.size w w1) := Lib.hid (bthen HBW.out htw.bel)
  clear htw
  go_wp2_with fail
  refine (bases_ok S bg exL 3 4 w1 HTW.out.g.rg exL_good (by decide) (by decide)).mono ?_
  rintro e w2 ⟨la, lc, rfl, ho, hb2⟩
  rw [exL_bases] at ho ⊢
  have HO := Lib.hid ho
  have HB2 := Lib.hid hb2
  clear ho hb2
  go_wp2_with fail
  refine (ints_any la (some ⟨w2.heap.size, 0, none⟩) _ 2 lc 2 [1, 2] [1, 2] _ ((HO.out.rd (by decide)).below (below_alloc _ _)) (Rd.lits w2 .i64 3 [1, 2] (by decide) (by decide))).mono ?_
  rintro e w3 ⟨rfl, hb3⟩
  have HB3 := Lib.hid hb3
  clear hb3
  go_wp2
  go_ret
  exact ⟨ret_eq (by simp), bthen HB1.out (bthen HB2.out (bthen (below_alloc _ _) HB3.out))⟩

end Go.Proofs.Ytoakelgjofdmpaa
