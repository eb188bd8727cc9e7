/-
  commits copied one by one into a row of the call's own, each with parents of its own; stores into those parents.
-/
import Derived.Test.YtoakelgjofdmpaaHCopy
import Derived.Deep.RegionLaw
namespace Go.Proofs.Ytoakelgjofdmpaa
open Go.RowKit
set_option linter.unusedVariables false
set_option linter.unusedSimpArgs false

theorem EIG : EltG Try.prog 24 3 (.int .i64 0) 1 8 := ⟨Try.underlying24, info_parts (by kernel_rfl), rfl, by decide⟩
theorem Rd.rdG {w : World} {k a n l} (h : Rd w k a n l) : RdG w 1 a n (l.map (Value.int k)) :=
  ⟨by rw [List.length_map, h.len, Nat.mul_one], fun j u hu => by
    have hj : j < l.length := by have := (List.getElem?_eq_some_iff.1 hu).1; simpa using this
    obtain ⟨b, off, ha, hc⟩ := h.cell j (by rw [← h.len]; exact hj)
    rw [List.getElem?_map, List.getElem?_eq_getElem hj] at hu
    cases hu
    refine ⟨b, off, ha, ?_⟩
    rw [hc]; simp [List.getD, hj]⟩

/-- commits in a row of the call's own, from block B on; the parents too, none in the row's block -/
structure CpI (B : Nat) (w : World) (a : Option Addr) (n c : Nat) (vs : List (Value × Cm)) : Prop where
  row : Row w B 27 3 (.slice a n c) n (cellsC vs)
  own : ∀ x ∈ vs, Own w B 3 .i64 x.1 x.2.1
  ap : ∀ x ∈ vs, ∀ g, x.1.ownBlock = some g → (Value.slice a n c).ownBlock ≠ some g
  pw : ∀ (i j : Nat) (x y : Value × Cm), i ≠ j → vs[i]? = some x → vs[j]? = some y → ∀ g, x.1.ownBlock = some g → y.1.ownBlock ≠ some g
theorem CpI.nil (B : Nat) (w : World) : CpI B w none 0 0 [] := ⟨World.ownsRow_nil _ _ _ _, fun x hx => by simp at hx, fun x hx => by simp at hx, fun i j x y _ hx => by simp at hx⟩
theorem CpI.len {B w a n c vs} (h : CpI B w a n c vs) : vs.length = n := by have := h.row.1; rw [cellsC_len] at this; omega
theorem CpI.fr {B : Nat} {w w' : World} {S : Nat → Prop} {a n c vs} (h : CpI B w a n c vs) (hf : Fr S w w') (hS : ∀ i, B ≤ i → i < w.heap.size → ¬ S i) : CpI B w' a n c vs :=
  ⟨Row.fr h.row hf fun g hg => hS g (Row.block_lt h.row hg).2 (Row.block_lt h.row hg).1, fun x hx => Row.fr (h.own x hx) hf fun g hg => hS g (Row.block_lt (h.own x hx) hg).2 (Row.block_lt (h.own x hx) hg).1, h.ap, h.pw⟩
theorem CpI.below {B : Nat} {w w' : World} {a n c vs} (h : CpI B w a n c vs) (hb : Below w.heap.size w w') : CpI B w' a n c vs := h.fr (S := fun _ => False) (.of_below hb) (fun _ _ _ h => h)

theorem cp_fin {B n c c5 c6 : Nat} {a a5 a6 : Option Addr} {w w5 W w6 : World} {vs : List (Value × Cm)} {ps : List Int} {t : Int} {s : ByteArray}
    (h : CpI B w a n c vs) (hBw : B ≤ w.heap.size) (hb5 : Below w.heap.size w w5) (ho5 : Own w5 w.heap.size 3 .i64 (.slice a5 ps.length c5) ps) (hW : Below w5.heap.size w5 W)
    (hr6 : Row w6 B 27 3 (.slice a6 (n + 1) c6) (n + 1) (cellsC vs ++ [.slice a5 ps.length c5, .int .i64 t, .string s]))
    (hg6 : W.grownBy w6 (Value.slice a n c).ownBlock) (hat : (Value.slice a6 (n + 1) c6).ownBlock = (Value.slice a n c).ownBlock ∨ (Value.slice a6 (n + 1) c6).ownBlock = some W.heap.size) :
    CpI B w6 a6 (n + 1) c6 (vs ++ [(.slice a5 ps.length c5, (ps, t, s))]) ∧ Below B w w6 := by
  have hwW := bthen hb5 hW
  have hf6 : Fr (fun k => (Value.slice a n c).ownBlock = some k) W w6 := .of_grown hg6 fun k hk => hk
  have hnew : ∀ g, (Value.slice a5 ps.length c5).ownBlock = some g → w.heap.size ≤ g ∧ g < w5.heap.size := fun g hg => ⟨(Row.block_lt ho5 hg).2, (Row.block_lt ho5 hg).1⟩
  have hrow : ∀ g, (Value.slice a n c).ownBlock = some g → g < w.heap.size ∧ B ≤ g := fun g hg => Row.block_lt h.row hg
  refine ⟨⟨by rw [cellsC_append]; exact hr6, fun x hx => ?_, fun x hx g hg e => ?_, fun i j x y hij hx hy g hg e => ?_⟩, (hwW.mono hBw).trans (Row.grown (Row.below h.row hwW) hg6 (by have := hwW.size; omega))⟩
  · rcases List.mem_append.1 hx with hx | hx
    · exact Row.fr (Row.below (h.own x hx) hwW) hf6 fun g hg e => h.ap x hx g hg e
    · rw [List.mem_singleton] at hx
      subst hx
      exact Row.fr (Row.below (Row.mono ho5 hBw) hW) hf6 fun g hg e => by have := hnew g hg; have := hrow g e; omega
  · rcases List.mem_append.1 hx with hx | hx
    · have hx1 := Row.block_lt (h.own x hx) hg
      rcases hat with e2 | e2
      · rw [e2] at e; exact h.ap x hx g hg e
      · rw [e2] at e
        have := Option.some.inj e
        have := hwW.size; omega
    · rw [List.mem_singleton] at hx
      subst hx
      have h5 := hnew g hg
      rcases hat with e2 | e2
      · rw [e2] at e; have := hrow g e; omega
      · rw [e2] at e
        have := Option.some.inj e
        have := hW.size; omega
  · have key : ∀ (k : Nat) (z : Value × Cm), (vs ++ [(.slice a5 ps.length c5, (ps, t, s))])[k]? = some z → ∀ q, z.1.ownBlock = some q → (k < vs.length ∧ vs[k]? = some z ∧ q < w.heap.size) ∨ (k = vs.length ∧ w.heap.size ≤ q) := by
      intro k z hz q hq
      by_cases hk : k < vs.length
      · rw [List.getElem?_append_left hk] at hz
        exact .inl ⟨hk, hz, (Row.block_lt (h.own z (List.mem_of_getElem? hz)) hq).1⟩
      · rw [List.getElem?_append_right (by omega)] at hz
        have hk2 : k = vs.length := by have := (List.getElem?_eq_some_iff.1 hz).1; simp at this; omega
        subst hk2
        simp only [Nat.sub_self, List.getElem?_cons_zero, Option.some.injEq] at hz
        subst hz
        exact .inr ⟨rfl, (hnew q hq).1⟩
    rcases key i x hx g hg with ⟨h1, h2, h3⟩ | ⟨h1, h2⟩ <;> rcases key j y hy g e with ⟨h4, h5, h6⟩ | ⟨h4, h5⟩
    · exact h.pw i j x y hij h2 h5 g hg e
    · omega
    · omega
    · omega

/-- read as commits -/
theorem CpI.rd {B : Nat} {w : World} {a n c vs} (h : CpI B w a n c vs) (hwf : WfL (vs.map (·.2))) (hn : n ≤ 9223372036854775807) : RdC w (fun i => B ≤ i ∧ i < w.heap.size) a n (vs.map (·.2)) := by
  have hlen := h.len
  refine ⟨by rw [List.length_map]; exact hlen, hn, fun i x hx => ?_, hwf⟩
  rw [List.getElem?_map, Option.map_eq_some_iff] at hx
  obtain ⟨y, hy, rfl⟩ := hx
  have hi : i < vs.length := (List.getElem?_eq_some_iff.1 hy).1
  obtain ⟨g1, g2, g3⟩ := cellsC_get vs i y hy
  obtain ⟨g, rfl, hg1, hg2⟩ : ∃ g, a = some ⟨g, 0, none⟩ ∧ B ≤ g ∧ g < w.heap.size := by
    rcases h.row.2 with ⟨hv, _⟩ | ⟨g, cap, cur, hv, hb, hh, _⟩
    · simp only [Value.slice.injEq] at hv; omega
    · simp only [Value.slice.injEq] at hv
      obtain ⟨rfl, _, _⟩ := hv
      exact ⟨g, rfl, hb, (Row.block_lt h.row (g := g) rfl).1⟩
  have hl := h.row.1
  have ho := h.own y (List.mem_of_getElem? hy)
  obtain ⟨a5, c5, he⟩ := Own.form ho
  obtain ⟨v, ps, t, s⟩ := y
  simp only at he ho g1
  subst he
  refine ⟨g, 0, _, rfl, ⟨hg1, hg2⟩, ?_, ?_, ?_, own_par ho (hwf _ (List.mem_map.2 ⟨_, List.mem_of_getElem? hy, rfl⟩)).2.2 (fun g h1 h2 => ⟨h1, h2⟩)⟩
  · rw [Nat.zero_add, World.ownsRow.cellAt h.row _ (by omega)]; exact g1
  · rw [Nat.zero_add, World.ownsRow.cellAt h.row _ (by omega)]; exact g2
  · rw [Nat.zero_add, World.ownsRow.cellAt h.row _ (by omega)]; exact g3

theorem cellsC_same : ∀ (vs : List (Value × Cm)) (i : Nat) (x x' : Value × Cm), vs[i]? = some x → x'.1 = x.1 → x'.2.2 = x.2.2 → cellsC (vs.set i x') = cellsC vs
  | [], _, _, _, h, _, _ => by simp at h
  | y :: r, 0, x, x', h, h1, h2 => by
    simp only [List.getElem?_cons_zero, Option.some.injEq] at h
    subst h
    simp [cellsC, h1, h2]
  | y :: r, i + 1, x, x', h, h1, h2 => by
    simp only [List.getElem?_cons_succ] at h
    have e : ∀ l, cellsC (y :: l) = y.1 :: .int .i64 y.2.2.1 :: .string y.2.2.2 :: cellsC l := fun _ => rfl
    rw [List.set_cons_succ, e, e, cellsC_same r i x x' h h1 h2]

/-- a store into the parents of one of them -/
theorem CpI.store {B : Nat} {w : World} {a : Option Addr} {n c gp pn pc i j : Nat} {us : List (Value × Cm)} {q : Cm} {z : Int} (h : CpI B w a n c us) (hx : us[i]? = some (.slice (some ⟨gp, 0, none⟩) pn pc, q)) (hpn : q.1.length = pn) :
    CpI B (w.setCell ⟨gp, j, none⟩ (.int .i64 z)) a n c (us.set i (.slice (some ⟨gp, 0, none⟩) pn pc, (q.1.set j z, q.2))) := by
  have hf : Fr (fun b => b = gp) w (w.setCell ⟨gp, j, none⟩ (.int .i64 z)) := (Fr.refl (fun b => b = gp) w).setCell (p := ⟨gp, j, none⟩) rfl _
  have hxm := List.mem_of_getElem? hx
  have hil : i < us.length := (List.getElem?_eq_some_iff.1 hx).1
  have ho := h.own _ hxm
  have hob : (Value.slice (some ⟨gp, 0, none⟩) pn pc).ownBlock = some gp := rfl
  refine ⟨?_, fun x hx2 => ?_, fun x hx2 g hg => ?_, fun k l x y hkl hk hl g hg => ?_⟩
  · rw [cellsC_same us i _ (.slice (some ⟨gp, 0, none⟩) pn pc, (q.1.set j z, q.2)) hx rfl rfl]
    exact Row.fr h.row hf fun g hg e => h.ap _ hxm gp hob (e ▸ hg)
  · obtain ⟨k, hk⟩ := List.getElem?_of_mem hx2
    rw [List.getElem?_set] at hk
    by_cases e : i = k
    · rw [if_pos e, if_pos hil] at hk
      cases hk
      have h0 : Row w B 3 1 (.slice (some ⟨gp, 0, none⟩) pn pc) q.1.length (q.1.map (Value.int .i64)) := ho
      rw [hpn] at h0
      have hs := (World.ownsRow.stored h0 j (.int .i64 z)).1
      show Row _ B _ 1 _ (q.1.set j z).length ((q.1.set j z).map (Value.int .i64))
      rw [List.length_set, List.map_set, hpn]
      exact hs
    · rw [if_neg e] at hk
      exact Row.fr (h.own x (List.mem_of_getElem? hk)) hf fun g hg e2 => h.pw i k _ x e hx hk gp hob (e2 ▸ hg)
  · obtain ⟨k, hk⟩ := List.getElem?_of_mem hx2
    rw [List.getElem?_set] at hk
    by_cases e : i = k
    · rw [if_pos e, if_pos hil] at hk
      cases hk
      exact h.ap _ hxm g hg
    · rw [if_neg e] at hk
      exact h.ap x (List.mem_of_getElem? hk) g hg
  · have key : ∀ (k : Nat) (x : Value × Cm), (us.set i (.slice (some ⟨gp, 0, none⟩) pn pc, (q.1.set j z, q.2)))[k]? = some x → ∃ x2, us[k]? = some x2 ∧ x2.1 = x.1 := by
      intro k x hk
      rw [List.getElem?_set] at hk
      by_cases e : i = k
      · rw [if_pos e, if_pos hil] at hk
        cases hk
        exact ⟨(.slice (some ⟨gp, 0, none⟩) pn pc, q), e ▸ hx, rfl⟩
      · rw [if_neg e] at hk; exact ⟨x, hk, rfl⟩
    obtain ⟨x2, h1, h2⟩ := key k x hk
    obtain ⟨y2, h3, h4⟩ := key l y hl
    rw [← h4]
    exact h.pw k l x2 y2 hkl h1 h3 g (by rw [h2]; exact hg)

end Go.Proofs.Ytoakelgjofdmpaa
