/-
  evergreenlaw29.Odd('a') and awake.
-/
import Derived.Test.YtajajkganamfiaaMShort2
namespace Go.Proofs.Ytajajkganamfiaa
open Go.RowKit

/-- goes through only where the operation is this one -/
theorem guard_op {P : Program} {w : World} {ops : Array Oper} {rest : List Oper} {o : Oper} {a : Act} {Q : Exit → Act → World → Prop} (op : Op) (_ : o.op = op) (h : wpList P ops Q (o :: rest) a w) : wpList P ops Q (o :: rest) a w := h

/-- s[j] = u, integers -/
theorem store_int {P : Program} {w : World} {ops : Array Oper} {rest : List Oper} {o : Oper} {a : Act} {Q : Exit → Act → World → Prop} (hgd : o.guard = none) (t : TypeId) (k : IntKind) (x y : Operand) (ho : o.op = .store t x y)
    (g j : Nat) (hx : a.eval x = .pointer (some ⟨g, j, none⟩)) (u : Int) (hy : a.eval y = .int k u) (hi : (P.info? t).map (·.size) = some 1)
    (base n cap : Nat) (e : TypeId) (l : List Int) (hown : Own w base e k (.slice (some ⟨g, 0, none⟩) n cap) l) (hn : n = l.length) (hj : j < l.length)
    (h : ∀ w', Own w' base e k (.slice (some ⟨g, 0, none⟩) n cap) (l.set j u) → w.grownBy w' (some g) → wpList P ops Q rest (a.put o.dst undef) w') : wpList P ops Q (o :: rest) a w := by
  subst hn
  refine store_row hgd t x y ho g j hx (.int k u) hy [.int k u] rfl hi (by simp [Value.oneCell']) base e 1 l.length cap _ hown (by simp; omega) ?_
  intro w' hw' hg
  refine h w' ?_ hg
  unfold Own
  rw [List.length_set, List.map_set, List.set_eq_take_append_cons_drop, if_pos (by simpa using hj)]
  simpa using hw'

/-- a cell of a new block -/
theorem acell {w : World} {xs : Array Value} {e : TypeId} {i z : Nat} {v : Value} (hz : w.heap.size = z) (h : xs[i]? = some v) : (w.alloc (.cells xs e)).cell? ⟨z, i, none⟩ = some v := by
  subst hz; rw [World.cell?_alloc_new]; exact h

def oddCls : List Int := (List.replicate 256 (0 : Int)).set 97 1

def OddPost (w : World) (e : Ending) (w' : World) : Prop :=
  ∃ ac an aa, e = .returned (.agg #[.int .i64 0, .slice ac 256 256, .slice an 2 2, .slice aa 2 2]) ∧ Below w.heap.size w w' ∧ RdM w' ac 256 an 2 aa 2 oddCls [[0, 1], [1, 0]] [false, true]

set_option maxRecDepth 100000 in
set_option maxHeartbeats 1000000 in
theorem odd_any (w : World) : Calls Try.prog 32 #[.int .u8 97] w (OddPost w) := by
  go_enter Try.func32, Try.ntmps32
  obtain ⟨w1, hw1⟩ : ∃ w1, w1 = w.alloc (.cells #[.int .i64 0, .slice none 0 0, .slice none 0 0, .slice none 0 0] 26) := ⟨_, rfl⟩
  have HB1 := Lib.hid (show Below w.heap.size w w1 by rw [hw1]; exact below_alloc _ _)
  have HS1 : Hid (w1.heap.size = w.heap.size + 1) := Lib.hid (by rw [hw1]; simp)
  have hx0 : w1.cell? ⟨w.heap.size, 0, none⟩ = some (.int .i64 0) := by rw [hw1]; simp
  have hx1 : w1.cell? ⟨w.heap.size, 1, none⟩ = some (.slice none 0 0) := by rw [hw1]; simp
  have hx2 : w1.cell? ⟨w.heap.size, 2, none⟩ = some (.slice none 0 0) := by rw [hw1]; simp
  have hx3 : w1.cell? ⟨w.heap.size, 3, none⟩ = some (.slice none 0 0) := by rw [hw1]; simp
  have hf : ∀ j, w1.frozen? ⟨w.heap.size, j, none⟩ = false := by intro j; rw [hw1]; simp
  have HW1 := Lib.hid hw1
  clear hw1
  obtain ⟨N, hN⟩ : ∃ N : Nat, N = 256 := ⟨_, rfl⟩
  have hN2 : (97 : Int) < (N : Int) := by omega
  have HN := Lib.hid hN
  clear hN
  go_wp2_with (at_make; rw [← HW1.out]; refine make_full EI rfl _ _ rfl w1.heap.size _ _ _ _ N rfl rfl (by rw [HN.out]; rfl) (by rw [HN.out]; rfl) (by have := HN.out; omega) (by have := HN.out; omega) (by simp) ?_)
  intro w2 ho2 hg2
  have HO2 := Lib.hid ho2
  have HB2 := Lib.hid (grown_below' hg2 (base := w1.heap.size) (Nat.le_refl _))
  obtain ⟨g, hgg⟩ : ∃ g, g = w1.heap.size := ⟨_, rfl⟩
  rw [← hgg] at HO2 ⊢
  have hgw : w.heap.size < g := by have := HS1.out; omega
  have hgw2 : g ≤ w2.heap.size := by rw [hgg]; exact HB2.out.size
  have hy0 := below_cell HB2.out hx0
  have hy1 := below_cell HB2.out hx1
  have hy2 := below_cell HB2.out hx2
  have hy3 := below_cell HB2.out hx3
  have hf2 : ∀ j, w2.frozen? ⟨w.heap.size, j, none⟩ = false := fun j => (HB2.out.frozen (show w.heap.size < w1.heap.size by have := HS1.out; omega)).trans (hf j)
  have HGG := Lib.hid hgg
  have HF2 := Lib.hid hf2
  have HY := Lib.hid (And.intro hy0 (And.intro hy1 (And.intro hy2 hy3)))
  clear ho2 hg2 hx0 hx1 hx2 hx3 hy0 hy1 hy2 hy3 hf hf2 hgg
  have hlr : (List.replicate N (0:Int)).length = N := List.length_replicate
  go_wp2_with (refine guard_op (.store 3 (.tmp 13) (.const (.int .i64 1))) rfl ?_; refine store_int rfl 3 .i64 (.tmp 13) (.const (.int .i64 1)) rfl g 97 rfl 1 rfl (by kernel_rfl) g N N 3 (List.replicate N 0) (((((HO2.out.alloc _).alloc _).alloc _).alloc _).alloc _) hlr.symm (by omega) ?_)
  intro w3 ho3 hg3
  have HO3 := Lib.hid ho3
  obtain ⟨z, hz⟩ : ∃ z, z = w2.heap.size := ⟨_, rfl⟩
  rw [← hz] at hg3 hgw2 ⊢
  obtain ⟨V1, hV1⟩ : ∃ W : World, W = w2.alloc (.cells #[.int .i64 0, .int .i64 1] 3) := ⟨_, rfl⟩
  obtain ⟨V2, hV2⟩ : ∃ W : World, W = V1.alloc (.cells #[.int .i64 1, .int .i64 0] 3) := ⟨_, rfl⟩
  obtain ⟨V3, hV3⟩ : ∃ W : World, W = V2.alloc (.cells #[.slice (some ⟨z, 0, none⟩) 2 2, .slice (some ⟨z + 1, 0, none⟩) 2 2] 22) := ⟨_, rfl⟩
  obtain ⟨V4, hV4⟩ : ∃ W : World, W = V3.alloc (.cells #[.bool false, .bool true] 4) := ⟨_, rfl⟩
  obtain ⟨W, hW⟩ : ∃ W : World, W = V4.alloc (.cells #[.int .i64 0, .slice (some ⟨g, 0, none⟩) N N, .slice (some ⟨z + 1 + 1, 0, none⟩) 2 2, .slice (some ⟨z + 1 + 1 + 1, 0, none⟩) 2 2] 26) := ⟨_, rfl⟩
  rw [← hV1, ← hV2, ← hV3, ← hV4, ← hW] at hg3
  have s1 : V1.heap.size = z + 1 := by rw [hV1, hz]; simp
  have s2 : V2.heap.size = z + 1 + 1 := by rw [hV2]; simp [s1]
  have s3 : V3.heap.size = z + 1 + 1 + 1 := by rw [hV3]; simp [s2]
  have s4 : V4.heap.size = z + 1 + 1 + 1 + 1 := by rw [hV4]; simp [s3]
  have q1 : Below w2.heap.size w2 V1 := by rw [hV1]; exact below_alloc _ _
  have q2 : Below V1.heap.size V1 V2 := by rw [hV2]; exact below_alloc _ _
  have q3 : Below V2.heap.size V2 V3 := by rw [hV3]; exact below_alloc _ _
  have q4 : Below V3.heap.size V3 V4 := by rw [hV4]; exact below_alloc _ _
  have q5 : Below V4.heap.size V4 W := by rw [hW]; exact below_alloc _ _
  have HBW : Hid (Below w2.heap.size w2 W) := Lib.hid (bthen q1 (bthen q2 (bthen q3 (bthen q4 q5))))
  have c0 : W.cell? ⟨z + 1 + 1 + 1 + 1, 0, none⟩ = some (.int .i64 0) := by rw [hW]; exact acell s4 rfl
  have c1 : W.cell? ⟨z + 1 + 1 + 1 + 1, 1, none⟩ = some (.slice (some ⟨g, 0, none⟩) N N) := by rw [hW]; exact acell s4 rfl
  have c2 : W.cell? ⟨z + 1 + 1 + 1 + 1, 2, none⟩ = some (.slice (some ⟨z + 1 + 1, 0, none⟩) 2 2) := by rw [hW]; exact acell s4 rfl
  have c3 : W.cell? ⟨z + 1 + 1 + 1 + 1, 3, none⟩ = some (.slice (some ⟨z + 1 + 1 + 1, 0, none⟩) 2 2) := by rw [hW]; exact acell s4 rfl
  have d0 : W.cell? ⟨z, 0, none⟩ = some (.int .i64 0) := below_cell (bthen q2 (bthen q3 (bthen q4 q5))) (by rw [hV1]; exact acell hz.symm rfl)
  have d1 : W.cell? ⟨z, 1, none⟩ = some (.int .i64 1) := below_cell (bthen q2 (bthen q3 (bthen q4 q5))) (by rw [hV1]; exact acell hz.symm rfl)
  have d2 : W.cell? ⟨z + 1, 0, none⟩ = some (.int .i64 1) := below_cell (bthen q3 (bthen q4 q5)) (by rw [hV2]; exact acell s1 rfl)
  have d3 : W.cell? ⟨z + 1, 1, none⟩ = some (.int .i64 0) := below_cell (bthen q3 (bthen q4 q5)) (by rw [hV2]; exact acell s1 rfl)
  have d4 : W.cell? ⟨z + 1 + 1, 0, none⟩ = some (.slice (some ⟨z, 0, none⟩) 2 2) := below_cell (bthen q4 q5) (by rw [hV3]; exact acell s2 rfl)
  have d5 : W.cell? ⟨z + 1 + 1, 1, none⟩ = some (.slice (some ⟨z + 1, 0, none⟩) 2 2) := below_cell (bthen q4 q5) (by rw [hV3]; exact acell s2 rfl)
  have d6 : W.cell? ⟨z + 1 + 1 + 1, 0, none⟩ = some (.bool false) := below_cell q5 (by rw [hV4]; exact acell s3 rfl)
  have d7 : W.cell? ⟨z + 1 + 1 + 1, 1, none⟩ = some (.bool true) := below_cell q5 (by rw [hV4]; exact acell s3 rfl)
  clear hV1 hV2 hV3 hV4 s1 s2 s3 s4 q1 q2 q3 q4 q5
  have hgz : g < z := by have := (World.ownsRow.lt HO2.out g rfl).2; omega
  have G : ∀ a v, a.block ≠ g → W.cell? a = some v → w3.cell? a = some v := fun a v hn hc => hg3.cell hc (by simpa using hn)
  have c0 := G _ _ (by simp; omega) c0
  have c1 := G _ _ (by simp; omega) c1
  have c2 := G _ _ (by simp; omega) c2
  have c3 := G _ _ (by simp; omega) c3
  have d0 := G _ _ (by simp; omega) d0
  have d1 := G _ _ (by simp; omega) d1
  have d2 := G _ _ (by simp; omega) d2
  have d3 := G _ _ (by simp; omega) d3
  have d4 := G _ _ (by simp; omega) d4
  have d5 := G _ _ (by simp; omega) d5
  have d6 := G _ _ (by simp; omega) d6
  have d7 := G _ _ (by simp; omega) d7
  obtain ⟨hy0, hy1, hy2, hy3⟩ := HY.out
  have y0 := G _ _ (by simp; omega) (below_cell HBW.out hy0)
  have y1 := G _ _ (by simp; omega) (below_cell HBW.out hy1)
  have y2 := G _ _ (by simp; omega) (below_cell HBW.out hy2)
  have y3 := G _ _ (by simp; omega) (below_cell HBW.out hy3)
  have hf0 : ∀ j, w3.frozen? ⟨w.heap.size, j, none⟩ = false := fun j => (World.frozen?_of_block (w := W) (hg3.block w.heap.size (by have := HBW.out.size; omega) (by simp; omega))).trans ((HBW.out.frozen (by simp; omega)).trans (HF2.out j))
  have HB3 : Hid (Below w1.heap.size w2 w3) := Lib.hid (by
    exact (HBW.out.mono (by have := HB2.out.size; omega)).trans (Row.grown (Own.mono (Own.below HO2.out HBW.out) (by have := HGG.out; omega)) hg3 (by have := HBW.out.size; have := HB2.out.size; omega)))
  have HD := Lib.hid (And.intro d0 (And.intro d1 (And.intro d2 (And.intro d3 (And.intro d4 (And.intro d5 (And.intro d6 d7)))))))
  clear G hy0 hy1 hy2 hy3 ho3 hg3 hz hW d0 d1 d2 d3 d4 d5 d6 d7
  go_wp2
  have hN := HN.out
  subst hN
  obtain ⟨d0, d1, d2, d3, d4, d5, d6, d7⟩ := HD.out
  have hsz3 : w.heap.size < w3.heap.size := by have := HB3.out.size; have := HB2.out.size; have := HS1.out; omega
  have hbel : Below w.heap.size w ((((w3.setCell { block := w.heap.size, off := 0 } (Value.int IntKind.i64 0)).setCell { block := w.heap.size, off := 1 } (Value.slice (some { block := g, off := 0 }) 256 256)).setCell { block := w.heap.size, off := 2 } (Value.slice (some { block := z + 1 + 1, off := 0 }) 2 2)).setCell { block := w.heap.size, off := 3 } (Value.slice (some { block := z + 1 + 1 + 1, off := 0 }) 2 2)) :=
    ((((((HB1.out.trans (HB2.out.mono (by have := HS1.out; omega))).trans (HB3.out.mono (by have := HS1.out; omega))).setCell (Nat.le_refl _) _).setCell (Nat.le_refl _) _).setCell (Nat.le_refl _) _).setCell (Nat.le_refl _) _)
  have K : ∀ a v, a.block ≠ w.heap.size → w3.cell? a = some v → ((((w3.setCell { block := w.heap.size, off := 0 } (Value.int IntKind.i64 0)).setCell { block := w.heap.size, off := 1 } (Value.slice (some { block := g, off := 0 }) 256 256)).setCell { block := w.heap.size, off := 2 } (Value.slice (some { block := z + 1 + 1, off := 0 }) 2 2)).setCell { block := w.heap.size, off := 3 } (Value.slice (some { block := z + 1 + 1 + 1, off := 0 }) 2 2)).cell? a = some v := by
    intro a v hn hc
    rw [World.cell?_setCell_far _ _ _ _ (Ne.symm hn), World.cell?_setCell_far _ _ _ _ (Ne.symm hn), World.cell?_setCell_far _ _ _ _ (Ne.symm hn), World.cell?_setCell_far _ _ _ _ (Ne.symm hn)]; exact hc
  refine bodyPost_ret (v := .agg #[.int .i64 0, .slice (some ⟨g, 0, none⟩) 256 256, .slice (some ⟨z + 1 + 1, 0, none⟩) 2 2, .slice (some ⟨z + 1 + 1 + 1, 0, none⟩) 2 2]) (by simp [results, Try.results32, go_sem, y0, y1, y2, y3]) rfl ⟨_, _, _, rfl, hbel, ?_, ?_, ?_⟩
  · refine ⟨by simp [oddCls], by omega, fun i hi => ⟨_, _, rfl, ?_⟩, ?_⟩
    · refine K _ _ (by simp; omega) ?_
      have h := World.ownsRow.cellAt HO3.out i (by simpa using hi)
      rw [Nat.zero_add, h]
      have hl : i < oddCls.length := by simp [oddCls]; omega
      have e : oddCls[i]? = some (oddCls.getD i 0) := by simp [List.getD, hl]
      unfold oddCls at e
      rw [List.getElem?_map, e]; rfl
    · intro x hx
      have : x = 0 ∨ x = 1 := by
        unfold oddCls at hx
        rcases List.mem_or_eq_of_mem_set hx with h | h
        · exact .inl (List.eq_of_mem_replicate h)
        · exact .inr h
      rcases this with rfl | rfl <;> rfl
  · refine ⟨rfl, by omega, fun i hi => ?_⟩
    have h2 : i = 0 ∨ i = 1 := by omega
    rcases h2 with rfl | rfl
    · refine ⟨_, _, _, _, _, rfl, K _ _ (by simp; omega) d4, ⟨rfl, by omega, fun j hj => ⟨_, _, rfl, ?_⟩, ?_⟩, Nat.le_refl _⟩
      · have h3 : j = 0 ∨ j = 1 := by omega
        rcases h3 with rfl | rfl
        · exact K _ _ (by simp; omega) d0
        · exact K _ _ (by simp; omega) d1
      · intro x hx; have : x = 0 ∨ x = 1 := by simpa using hx
        rcases this with rfl | rfl <;> rfl
    · refine ⟨_, _, _, _, _, rfl, K _ _ (by simp; omega) d5, ⟨rfl, by omega, fun j hj => ⟨_, _, rfl, ?_⟩, ?_⟩, Nat.le_refl _⟩
      · have h3 : j = 0 ∨ j = 1 := by omega
        rcases h3 with rfl | rfl
        · exact K _ _ (by simp; omega) d2
        · exact K _ _ (by simp; omega) d3
      · intro x hx; have : x = 1 ∨ x = 0 := by simpa using hx
        rcases this with rfl | rfl <;> rfl
  · refine ⟨rfl, by omega, fun i hi => ⟨_, _, rfl, ?_⟩⟩
    have h3 : i = 0 ∨ i = 1 := by omega
    rcases h3 with rfl | rfl
    · exact K _ _ (by simp; omega) d6
    · exact K _ _ (by simp; omega) d7

/-- the fixed fact: chapter 29's example -/
theorem odd_valid : Valid 0 oddCls [[0, 1], [1, 0]] [false, true] := valid_of_code (by decide +kernel)
theorem odd_short : shortest 0 oddCls [[0, 1], [1, 0]] [false, true] = some [97] := by decide +kernel

set_option maxRecDepth 100000 in
set_option maxHeartbeats 1000000 in
theorem awake_any (w : World) : Calls Try.prog 12 #[] w fun e w' => e = .returned (.bool true) ∧ Below w.heap.size w w' := by
  have hne : ∀ w, (binOp .eql 30 .nilIface .nilIface).run Try.prog w = .ok (.bool true) w := fun w => by kernel_rfl
  go_enter Try.func12, Try.ntmps12
  go_wp2_with fail
  refine (odd_any _).mono ?_
  rintro e w1 ⟨ac, an, aa, rfl, hb1, hm⟩
  have HB1 := Lib.hid hb1
  have HM := Lib.hid hm
  clear hb1 hm
  go_wp2_with fail
  refine (short_any 0 ac 256 256 an 2 2 aa 2 2 oddCls _ _ w1 HM.out odd_valid).mono ?_
  rintro e w2 ⟨hb2, h⟩
  rw [odd_short] at h
  obtain ⟨a, c, rfl, hr⟩ := h
  have HB2 := Lib.hid hb2
  have hs := run_str (P := Try.prog) w2 c hr rfl 28 9 _ Try.underlying28 Try.underlying5 Try.underlying9
  have hs' : ∀ w0, w0 = w2 → (convert 28 9 (.slice a 1 c)).run Try.prog w0 = .ok (.string ⟨#[97]⟩) w0 := fun w0 h0 => by rw [h0]; exact hs
  have hs2 := hs' w2 rfl
  clear hr hb2 hs hs'
  go_wp2
  go_ret
  exact ⟨ret_eq (by simp), bthen HB1.out HB2.out⟩

end Go.Proofs.Ytajajkganamfiaa
