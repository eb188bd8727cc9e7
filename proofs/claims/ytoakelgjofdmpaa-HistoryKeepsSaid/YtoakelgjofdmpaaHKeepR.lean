/-
  the reference's Keep: what stands in memory while the kept commits are copied.
-/
import Derived.Test.YtoakelgjofdmpaaHKeepG
namespace Go.Proofs.Ytoakelgjofdmpaa
open Go.RowKit
set_option linter.unusedVariables false
set_option linter.unusedSimpArgs false

/-- in a round of the reference: the times, the new numbers, the result so far; all that the round makes lies at q or behind -/
structure KR (w wr : World) (gk gt B q N : Nat) (K : List Int) (T : List Int) (a : Option Addr) (n c : Nat) (vs : List (Value × Cm)) : Prop where
  kept : Own wr w.heap.size 3 .i64 (.slice (some ⟨gk, 0, none⟩) N N) K
  tn : Own wr w.heap.size 3 .i64 (.slice (some ⟨gt, 0, none⟩) N N) T
  cp : CpI B wr a n c vs
  cq : (∀ g, (Value.slice a n c).ownBlock = some g → g < q) ∧ ∀ x ∈ vs, ∀ g, x.1.ownBlock = some g → g < q
  lt : gk < B ∧ gt < B ∧ gk ≠ gt ∧ B ≤ q ∧ w.heap.size ≤ gk ∧ w.heap.size ≤ gt
  qle : q ≤ wr.heap.size
  bel : Below w.heap.size w wr

section
variable {w wr w' : World} {gk gt B q N n c : Nat} {K : List Int} {T : List Int} {a : Option Addr} {vs : List (Value × Cm)}

theorem KR.fr {F : Nat → Prop} (h : KR w wr gk gt B q N K T a n c vs) (hf : Fr F wr w') (hF : ∀ b, F b → q ≤ b) : KR w w' gk gt B q N K T a n c vs := by
  have hl := h.lt
  have nf : ∀ b, b < q → ¬ F b := fun b hb hh => by have := hF b hh; omega
  refine ⟨Row.fr h.kept hf fun g hg => ?_, Row.fr h.tn hf fun g hg => ?_, h.cp.fr2 hf (fun g hg => nf g (h.cq.1 g hg)) (fun x hx g hg => nf g (h.cq.2 x hx g hg)), h.cq, h.lt, Nat.le_trans h.qle hf.size, h.bel.trans (hf.below (fun b hb => by have := hF b hb; omega) h.bel.size)⟩
  · have e9 : gk = g := Option.some.inj hg
    exact nf _ (by omega)
  · have e9 : gt = g := Option.some.inj hg
    exact nf _ (by omega)
theorem KR.below (h : KR w wr gk gt B q N K T a n c vs) (hb : Below wr.heap.size wr w') : KR w w' gk gt B q N K T a n c vs := h.fr (F := fun _ => False) (.of_below hb) (fun _ h => h.elim)
/-- a new number is stored -/
theorem KR.num {T' : List Int} (h : KR w wr gk gt B q N K T a n c vs) (ho : Own w' w.heap.size 3 .i64 (.slice (some ⟨gt, 0, none⟩) N N) T') (hg : wr.grownBy w' (some gt)) : KR w w' gk gt B q N K T' a n c vs := by
  have hl := h.lt
  have hf : Fr (fun b => b = gt) wr w' := .of_grown hg fun k hk => (Option.some.inj hk).symm
  refine ⟨Row.fr h.kept hf fun g hg e => ?_, ho, h.cp.fr2 hf (fun g hg e => ?_) (fun x hx g hg e => ?_), h.cq, h.lt, Nat.le_trans h.qle hf.size, h.bel.trans (hf.below (fun b hb => by omega) h.bel.size)⟩
  · have e9 : gk = g := Option.some.inj hg
    omega
  · have := (Row.block_lt h.cp.row hg).2; omega
  · have := (Row.block_lt (h.cp.own x hx) hg).2; omega
theorem KR.mono {q' : Nat} (h : KR w wr gk gt B q N K T a n c vs) (hq : q' = wr.heap.size) : KR w wr gk gt B q' N K T a n c vs :=
  ⟨h.kept, h.tn, h.cp, ⟨fun g hg => by rw [hq]; exact (Row.block_lt h.cp.row hg).1, fun x hx g hg => by rw [hq]; exact (Row.block_lt (h.cp.own x hx) hg).1⟩, by have := h.lt; have := h.qle; omega, by omega, h.bel⟩
theorem KR.kcell (h : KR w wr gk gt B q N K T a n c vs) {p : Nat} (hp : p < K.length) : wr.cell? ⟨gk, p, none⟩ = some (.int .i64 (K.getD p 0)) := Own.icell h.kept hp
theorem KR.tcell (h : KR w wr gk gt B q N K T a n c vs) {p : Nat} (hp : p < T.length) : wr.cell? ⟨gt, p, none⟩ = some (.int .i64 (T.getD p 0)) := Own.icell h.tn hp

/-- a commit more -/
theorem KR.push {W w6 : World} {c5 c6 : Nat} {a5 a6 : Option Addr} {ps : List Int} {t : Int} {s : ByteArray} (h : KR w wr gk gt B q N K T a n c vs) (ho5 : Own wr q 3 .i64 (.slice a5 ps.length c5) ps) (hW : Below wr.heap.size wr W)
    (hr6 : Row w6 B 27 3 (.slice a6 (n + 1) c6) (n + 1) (cellsC vs ++ [.slice a5 ps.length c5, .int .i64 t, .string s]))
    (hg6 : W.grownBy w6 (Value.slice a n c).ownBlock) (hat : (Value.slice a6 (n + 1) c6).ownBlock = (Value.slice a n c).ownBlock ∨ (Value.slice a6 (n + 1) c6).ownBlock = some W.heap.size) :
    KR w w6 gk gt B w6.heap.size N K T a6 (n + 1) c6 (vs ++ [(.slice a5 ps.length c5, (ps, t, s))]) := by
  have hl := h.lt
  have hql := h.qle
  have hWs := hW.size
  have hf6 : Fr (fun k => (Value.slice a n c).ownBlock = some k) W w6 := .of_grown hg6 fun k hk => hk
  have hrow : ∀ g, (Value.slice a n c).ownBlock = some g → B ≤ g ∧ g < q := fun g hg => ⟨(Row.block_lt h.cp.row hg).2, h.cq.1 g hg⟩
  have hnew : ∀ g, (Value.slice a5 ps.length c5).ownBlock = some g → q ≤ g ∧ g < wr.heap.size := fun g hg => ⟨(Row.block_lt ho5 hg).2, (Row.block_lt ho5 hg).1⟩
  have hcp : CpI B w6 a6 (n + 1) c6 (vs ++ [(.slice a5 ps.length c5, (ps, t, s))]) := by
    refine ⟨by rw [cellsC_append]; exact hr6, fun x hx => ?_, fun x hx g hg e => ?_, fun i j x y hij hx hy g hg e => ?_⟩
    · rcases List.mem_append.1 hx with hx | hx
      · exact Row.fr (Row.below (h.cp.own x hx) hW) hf6 fun g hg e => h.cp.ap x hx g hg e
      · rw [List.mem_singleton] at hx
        subst hx
        exact Row.fr (Row.below (Row.mono ho5 (by omega)) hW) hf6 fun g hg e => by have := hnew g hg; have := hrow g e; omega
    · rcases List.mem_append.1 hx with hx | hx
      · have hx1 := h.cq.2 x hx g hg
        rcases hat with e2 | e2
        · rw [e2] at e; exact h.cp.ap x hx g hg e
        · rw [e2] at e
          have := Option.some.inj e
          omega
      · rw [List.mem_singleton] at hx
        subst hx
        have h5 := hnew g hg
        rcases hat with e2 | e2
        · rw [e2] at e; have := hrow g e; omega
        · rw [e2] at e
          have := Option.some.inj e
          omega
    · have key : ∀ (k : Nat) (z : Value × Cm), (vs ++ [(.slice a5 ps.length c5, (ps, t, s))])[k]? = some z → ∀ r, z.1.ownBlock = some r → (k < vs.length ∧ vs[k]? = some z ∧ r < q) ∨ (k = vs.length ∧ q ≤ r) := by
        intro k z hz r hr
        by_cases hk : k < vs.length
        · rw [List.getElem?_append_left hk] at hz
          exact .inl ⟨hk, hz, h.cq.2 z (List.mem_of_getElem? hz) r hr⟩
        · rw [List.getElem?_append_right (by omega)] at hz
          have hk2 : k = vs.length := by have := (List.getElem?_eq_some_iff.1 hz).1; simp at this; omega
          subst hk2
          simp only [Nat.sub_self, List.getElem?_cons_zero, Option.some.injEq] at hz
          subst hz
          exact .inr ⟨rfl, (hnew r hr).1⟩
      rcases key i x hx g hg with ⟨h1, h2, h3⟩ | ⟨h1, h2⟩ <;> rcases key j y hy g e with ⟨h4, h5, h6⟩ | ⟨h4, h5⟩
      · exact h.cp.pw i j x y hij h2 h5 g hg e
      · omega
      · omega
      · omega
  have hF : Fr (fun k => (Value.slice a n c).ownBlock = some k) wr w6 := (Fr.of_below hW).trans hf6
  refine ⟨Row.fr h.kept hF fun g hg e => ?_, Row.fr h.tn hF fun g hg e => ?_, hcp, ⟨fun g hg => (Row.block_lt hcp.row hg).1, fun x hx g hg => (Row.block_lt (hcp.own x hx) hg).1⟩, ?_, Nat.le_refl _, ?_⟩
  · have e9 : gk = g := Option.some.inj hg
    have := hrow _ e; omega
  · have e9 : gt = g := Option.some.inj hg
    have := hrow _ e; omega
  · have := hF.size; omega
  · exact h.bel.trans (hF.below (fun b hb => by have := hrow b hb; omega) h.bel.size)
end

theorem KR.rd {w wr : World} {gk gt B q N n c : Nat} {K T : List Int} {a : Option Addr} {vs : List (Value × Cm)} (h : KR w wr gk gt B q N K T a n c vs) (hw : WfL (vs.map (·.2))) (hn : n ≤ 65536) : RdC wr (fun b => w.heap.size ≤ b) a n (vs.map (·.2)) :=
  (h.cp.rd hw (by omega)).mono fun i hi => by have := h.lt; omega

end Go.Proofs.Ytoakelgjofdmpaa
