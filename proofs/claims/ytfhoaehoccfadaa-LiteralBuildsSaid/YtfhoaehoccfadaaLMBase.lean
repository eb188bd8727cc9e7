/-
  the machine of a trie: what the walk of (*trie).machine carries.
-/
import Derived.Test.YtfhoaehoccfadaaLAdd
import Derived.Test.YtfhoaehoccfadaaRF
import Derived.Test.YtfhoaehoccfadaaMBase
import Derived.Deep.LoopGhost
import Derived.Deep.Cut
import Derived.Deep.CutRange
import Derived.Deep.DeepCutAuto
import Derived.Deep.RegionLaw
namespace Go.Proofs.Ytfhoaehoccfadaa
open Go.RowKit Go.Maps
set_option linter.unusedVariables false
set_option linter.unusedSimpArgs false

theorem EU8 : EltG Try.prog 44 5 (.int .u8 0) 1 1 := ⟨Try.underlying44, info_parts (by kernel_rfl), rfl, by decide⟩
theorem EBG : EltG Try.prog 26 4 (.bool false) 1 1 := ⟨Try.underlying26, info_parts (by kernel_rfl), rfl, by decide⟩
theorem ESI : EltG Try.prog 25 24 (.slice none 0 0) 1 24 := ⟨Try.underlying25, info_parts (by kernel_rfl), rfl, by decide⟩

/-- numbers as cells -/
abbrev vi (l : List Int) : List Value := l.map (Value.int .i64)
abbrev vu (l : List Int) : List Value := l.map (Value.int .u8)

/-- the array of marks -/
def arrU (U : Nat → Bool) : List Value := (List.range 256).map fun b => .bool (U b)
theorem arr_len (U) : (arrU U).length = 256 := by simp [arrU]
theorem arr_get (U : Nat → Bool) {b : Nat} (hb : b < 256) : (arrU U)[b]? = some (.bool (U b)) := by simp [arrU, hb]
theorem arr_info (U) : (Try.prog.info? 59).map (·.size) = some (arrU U).length := by rw [arr_len]; kernel_rfl
theorem arr_index (U : Nat → Bool) {b : Nat} (hb : b < 256) (w : World) : (Instr.index 59 (.agg (arrU U).toArray) (.int .i64 (b : Int))).run Try.prog w = .ok (.bool (U b)) w := by
  have hsz : (sizeOf 4).run Try.prog w = .ok 1 w := by kernel_rfl
  have hagg : (isAgg 4).run Try.prog w = .ok false w := by kernel_rfl
  have h0 : (0 : Int) ≤ (b : Int) := by omega
  have h1 : (b : Int) < 256 := by omega
  have hg : (arrU U).toArray[b]? = some (.bool (U b)) := by simpa using arr_get U hb
  have hgd : (arrU U)[b]'(by rw [arr_len]; exact hb) = .bool (U b) := by have := arr_get U hb; rw [List.getElem?_eq_getElem (by rw [arr_len]; exact hb)] at this; exact Option.some.inj this
  unfold Instr.index
  simp [asIntOf, run_underlying Try.underlying59, Result.andThen, h0, h1, part, hsz, hagg, hgd, arr_len, hb]

/-- the trie's block and its map -/
structure TN (N : Nat → Prop) (w : World) (bt bm : Nat) (ve : Value) (W : List (List Int)) (U : Nat → Bool) : Prop where
  c0 : w.cell? ⟨bt, 0, none⟩ = some (.map (some bm))
  c1 : w.cell? ⟨bt, 1, none⟩ = some ve
  cu : ∀ b, b < 256 → w.cell? ⟨bt, 2 + b, none⟩ = some (.bool (U b))
  map : ∃ D : DataW Unit, w.ownsMap Try.prog 69 (plainElem Try.prog 3) bm W.length D ∧ MapIs D W
  nt : N bt
  nm : N bm
theorem TN.fr {N w w' bt bm ve W U} {S : Nat → Prop} (h : TN N w bt bm ve W U) (hf : Fr S w w') (hS : ∀ i, S i → ¬ N i) : TN N w' bt bm ve W U := by
  obtain ⟨D, m1, m2⟩ := h.map
  have h1 : ¬ S bt := fun hc => hS _ hc h.nt
  have h2 : ¬ S bm := fun hc => hS _ hc h.nm
  exact ⟨hf.cell h.c0 h1, hf.cell h.c1 h1, fun b hb => hf.cell (h.cu b hb) h1, ⟨D, ownsMap_fr m1 hf h2, m2⟩, h.nt, h.nm⟩
theorem TN.frN {N w w' bt bm ve W U} (h : TN N w bt bm ve W U) (hf : Fr (fun b => ¬ N b) w w') : TN N w' bt bm ve W U := h.fr hf fun _ hi => hi
theorem TN.below {N w w' bt bm ve W U} (h : TN N w bt bm ve W U) (hb : Below w.heap.size w w') : TN N w' bt bm ve W U := h.fr (S := fun _ => False) (.of_below hb) fun _ hi => hi.elim
theorem TN.range {N w bt bm ve W U} (h : TN N w bt bm ve W U) : w.rangeAt bt 2 (arrU U) := fun j v hv => by
  have hj : j < 256 := by have := (List.getElem?_eq_some_iff.1 hv).1; rwa [arr_len] at this
  rw [arr_get U hj] at hv
  cases hv
  exact h.cu j hj
theorem TN.mono {N N' : Nat → Prop} {w bt bm ve W U} (h : TN N w bt bm ve W U) (hN : ∀ b, N b → N' b) : TN N' w bt bm ve W U := ⟨h.c0, h.c1, h.cu, h.map, hN _ h.nt, hN _ h.nm⟩

/-- the machine's block -/
structure QN (N : Nat → Prop) (w : World) (bq : Nat) (vc vx va : Value) : Prop where
  q0 : w.cell? ⟨bq, 0, none⟩ = some (.int .i64 0)
  q1 : w.cell? ⟨bq, 1, none⟩ = some vc
  q2 : w.cell? ⟨bq, 2, none⟩ = some vx
  q3 : w.cell? ⟨bq, 3, none⟩ = some va
  fz : ∀ j, w.frozen? ⟨bq, j, none⟩ = false
  nq : N bq
theorem QN.fr {N w w' bq vc vx va} {S : Nat → Prop} (h : QN N w bq vc vx va) (hf : Fr S w w') (hS : ∀ i, S i → ¬ N i) : QN N w' bq vc vx va := by
  have h1 : ¬ S bq := fun hc => hS _ hc h.nq
  exact ⟨hf.cell h.q0 h1, hf.cell h.q1 h1, hf.cell h.q2 h1, hf.cell h.q3 h1, fun j => (hf.frozen (x := ⟨bq, j, none⟩) (World.block_lt_of_cell? w ⟨bq, 0, none⟩ h.q0) h1).trans (h.fz j), h.nq⟩
theorem QN.frN {N w w' bq vc vx va} (h : QN N w bq vc vx va) (hf : Fr (fun b => ¬ N b) w w') : QN N w' bq vc vx va := h.fr hf fun _ hi => hi
theorem QN.below {N w w' bq vc vx va} (h : QN N w bq vc vx va) (hb : Below w.heap.size w w') : QN N w' bq vc vx va := h.fr (S := fun _ => False) (.of_below hb) fun _ hi => hi.elim
theorem QN.set2 {N w bq vc vx va} (h : QN N w bq vc vx va) (u : Value) : QN N (w.setCell ⟨bq, 2, none⟩ u) bq vc u va :=
  ⟨set_other (by simp) h.q0, set_other (by simp) h.q1, set_same h.q2, set_other (by simp) h.q3, fun j => by rw [World.frozen?_setCell]; exact h.fz j, h.nq⟩
theorem QN.set3 {N w bq vc vx va} (h : QN N w bq vc vx va) (u : Value) : QN N (w.setCell ⟨bq, 3, none⟩ u) bq vc vx u :=
  ⟨set_other (by simp) h.q0, set_other (by simp) h.q1, set_other (by simp) h.q2, set_same h.q3, fun j => by rw [World.frozen?_setCell]; exact h.fz j, h.nq⟩
theorem QN.setq {N w b vc vx va} (h : QN N w b vc vx va) {bq : Nat} (hb : b ≠ bq) (j : Nat) (u : Value) : QN N (w.setCell ⟨bq, j, none⟩ u) b vc vx va :=
  ⟨set_other (by simp only [ne_eq, Addr.mk.injEq]; omega) h.q0, set_other (by simp only [ne_eq, Addr.mk.injEq]; omega) h.q1, set_other (by simp only [ne_eq, Addr.mk.injEq]; omega) h.q2, set_other (by simp only [ne_eq, Addr.mk.injEq]; omega) h.q3, fun j => by rw [World.frozen?_setCell]; exact h.fz j, h.nq⟩
theorem fr_setN {N : Nat → Prop} {w : World} {b j : Nat} {u : Value} (hb : N b) : Fr N w (w.setCell ⟨b, j, none⟩ u) := fr_set.mono fun i hi => hi ▸ hb
/-- the trie stays while the machine's block is written -/
theorem TN.setq {N w bt bm ve W U bq} (h : TN N w bt bm ve W U) (h1 : bt ≠ bq) (h2 : bm ≠ bq) (j : Nat) (u : Value) : TN N (w.setCell ⟨bq, j, none⟩ u) bt bm ve W U := by
  obtain ⟨D, m1, m2⟩ := h.map
  exact ⟨set_other (by simp only [ne_eq, Addr.mk.injEq]; omega) h.c0, set_other (by simp only [ne_eq, Addr.mk.injEq]; omega) h.c1, fun b hb => set_other (by simp only [ne_eq, Addr.mk.injEq]; omega) (h.cu b hb), ⟨D, ownsMap_fr m1 fr_set h2, m2⟩, h.nt, h.nm⟩

/-- a family of eight rows and those of the machine behind them -/
theorem at8 {x0 x1 x2 x3 x4 x5 x6 x7 : Option Rw} {rs : List (Option Rw)} {e v xs} {k : Nat} (hk : rs.length = k) : AtR (x0 :: x1 :: x2 :: x3 :: x4 :: x5 :: x6 :: x7 :: (rs ++ [some (e, v, xs)])) (k + 8) e v xs := by
  show (rs ++ [some (e, v, xs)])[k]? = _
  rw [List.getElem?_append_right (by omega), hk, Nat.sub_self]; rfl
theorem set8 {x0 x1 x2 x3 x4 x5 x6 x7 a b : Option Rw} {rs : List (Option Rw)} {k : Nat} (hk : rs.length = k) : (x0 :: x1 :: x2 :: x3 :: x4 :: x5 :: x6 :: x7 :: (rs ++ [a])).set (k + 8) b = x0 :: x1 :: x2 :: x3 :: x4 :: x5 :: x6 :: x7 :: (rs ++ [b]) := by
  show x0 :: x1 :: x2 :: x3 :: x4 :: x5 :: x6 :: x7 :: ((rs ++ [a]).set k b) = _
  rw [List.set_append, if_neg (by omega), hk, Nat.sub_self]; rfl
theorem at8i {x0 x1 x2 x3 x4 x5 x6 x7 : Option Rw} {rs : List (Option Rw)} {r : Option Rw} {e v xs} {i : Nat} (hi : rs[i]? = some (some (e, v, xs))) : AtR (x0 :: x1 :: x2 :: x3 :: x4 :: x5 :: x6 :: x7 :: (rs ++ [r])) (i + 8) e v xs := by
  show (rs ++ [r])[i]? = _
  rw [List.getElem?_append_left (List.getElem?_eq_some_iff.1 hi).1]; exact hi

/-- the machine's rows: where each lies -/
def Rows8 (xs : List Value) (rs : List (Option Rw)) (R : List (List Int)) (k m : Nat) : Prop :=
  xs.length = k ∧ rs.length = k ∧ ∀ i, i < k → ∃ g c, xs[i]? = some (.slice (some ⟨g, 0, none⟩) m c) ∧ rs[i]? = some (some (3, .slice (some ⟨g, 0, none⟩) m c, vi (R.getD i [])))
theorem Rows8.push {xs rs R k m} (h : Rows8 xs rs R k m) (hR : R.length = k) (g c : Nat) (row : List Int) : Rows8 (xs ++ [.slice (some ⟨g, 0, none⟩) m c]) (rs ++ [some (3, .slice (some ⟨g, 0, none⟩) m c, vi row)]) (R ++ [row]) (k + 1) m := by
  obtain ⟨h1, h2, h3⟩ := h
  refine ⟨by simp [h1], by simp [h2], fun i hi => ?_⟩
  by_cases e : i < k
  · obtain ⟨g', c', a1, a2⟩ := h3 i e
    refine ⟨g', c', by rw [List.getElem?_append_left (by omega)]; exact a1, ?_⟩
    rw [List.getElem?_append_left (by omega), a2]
    simp [List.getD, List.getElem?_append, hR, e]
  · obtain rfl : i = k := by omega
    refine ⟨g, c, by rw [List.getElem?_append_right (by omega), h1]; simp, ?_⟩
    rw [List.getElem?_append_right (by omega), h2]
    simp [List.getD, ← hR]

theorem fr_setCells {b : Nat} : ∀ (vs : List Value) (o : Nat) (w : World), Fr (fun i => i = b) w (w.setCells b o vs)
  | [], o, w => Fr.refl _ _
  | v :: r, o, w => by
    rw [World.setCells]
    exact fr_set.trans (fr_setCells r (o + 1) _)
theorem QN.range {N w bq vc vx va} (h : QN N w bq vc vx va) : w.rangeAt bq 0 [.int .i64 0, vc, vx, va] := fun j v hv => by
  rcases j with _ | _ | _ | _ | j
  · cases hv; exact h.q0
  · cases hv; exact h.q1
  · cases hv; exact h.q2
  · cases hv; exact h.q3
  · simp at hv
theorem QN.there {N w bq vc vx va} (h : QN N w bq vc vx va) : w.there bq 0 4 := fun j hj => by
  refine ⟨?_, by rw [Nat.zero_add]; exact h.fz j⟩
  rcases j with _ | _ | _ | _ | j
  · rw [h.q0]; rfl
  · rw [h.q1]; rfl
  · rw [h.q2]; rfl
  · rw [h.q3]; rfl
  · omega
theorem mach_info : (Try.prog.info? 28).map (·.size) = some 4 := by kernel_rfl

theorem RF.rd {B N w l} (h : RF B N w l) {i e a n c} {k : IntKind} {ls : List Int} (hi : AtR l i e (.slice a n c) (ls.map (Value.int k))) (hw : ∀ x ∈ ls, (Lit.int k x).wf = true) : Rd w k a n ls := by
  have hr := h.own i _ _ _ hi
  have hn := h.len hi
  rw [List.length_map] at hn hr
  subst hn
  exact Own.rd (base := B) (e := e) (c := c) hr hw
theorem RF.cap {B N w l} (h : RF B N w l) {i e a n c xs} (hi : AtR l i e (.slice a n c) xs) : n ≤ c := Row.cap (h.own i _ _ _ hi)

/-- the classes up to k, zeros behind -/
def clsPad (U : Nat → Bool) (k : Nat) : List Int := clsTo U k ++ List.replicate (256 - k) 0
theorem clsPad_len (U) {k : Nat} (hk : k ≤ 256) : (clsPad U k).length = 256 := by simp [clsPad, clsTo_len]; omega
theorem clsPad_zero (U) : clsPad U 0 = List.replicate 256 0 := rfl
theorem clsPad_end (U) : clsPad U 256 = clsTo U 256 := by simp [clsPad]
theorem clsPad_used {U : Nat → Bool} {k : Nat} (hk : k < 256) (hu : U k = true) : (clsPad U k).set k ((letsTo U (k + 1)).length : Int) = clsPad U (k + 1) := by
  unfold clsPad
  rw [clsTo_succ, if_pos hu, List.set_append, if_neg (by rw [clsTo_len]; omega), clsTo_len, Nat.sub_self]
  rw [show 256 - k = (256 - (k + 1)) + 1 by omega, List.replicate_succ, List.set_cons_zero]
  simp
theorem clsPad_unused {U : Nat → Bool} {k : Nat} (hk : k < 256) (hu : U k = false) : clsPad U (k + 1) = clsPad U k := by
  unfold clsPad
  rw [clsTo_succ, hu]
  simp only [Bool.false_eq_true, if_false]
  rw [show 256 - k = (256 - (k + 1)) + 1 by omega, List.replicate_succ]
  simp

end Go.Proofs.Ytfhoaehoccfadaa
