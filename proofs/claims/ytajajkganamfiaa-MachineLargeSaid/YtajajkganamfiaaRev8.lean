/-
  slices.Reverse of bytes, on a slice of the call's own.
-/
import Derived.Test.YtajajkganamfiaaBase
import Derived.BigRegion
namespace Go.Proofs.Ytajajkganamfiaa
open Go.RowKit

/-- the list behind k exchanges from both ends -/
def rv (l : List Int) (k : Nat) : List Int := (List.range l.length).map fun p => if p < k ∨ l.length - k ≤ p then l.getD (l.length - 1 - p) 0 else l.getD p 0

theorem rv_len (l : List Int) (k : Nat) : (rv l k).length = l.length := by simp [rv]
theorem rv_get (l : List Int) (k p : Nat) (hp : p < l.length) : (rv l k)[p]? = some (if p < k ∨ l.length - k ≤ p then l.getD (l.length - 1 - p) 0 else l.getD p 0) := by
  simp [rv, hp]
theorem rv_zero (l : List Int) : rv l 0 = l := by
  apply List.ext_getElem? ; intro p
  by_cases hp : p < l.length
  · rw [rv_get l 0 p hp, if_neg (by omega)]; simp [List.getD, hp]
  · rw [List.getElem?_eq_none (by rw [rv_len]; omega), List.getElem?_eq_none (by omega)]
theorem rv_end (l : List Int) (k : Nat) (hk : l.length ≤ 2 * k + 1) : rv l k = l.reverse := by
  apply List.ext_getElem? ; intro p
  by_cases hp : p < l.length
  · rw [rv_get l k p hp, List.getElem?_reverse hp]
    by_cases h : p < k ∨ l.length - k ≤ p
    · rw [if_pos h]; simp [List.getD, show l.length - 1 - p < l.length by omega]
    · rw [if_neg h, show l.length - 1 - p = p by omega]; simp [List.getD, hp]
  · rw [List.getElem?_eq_none (by rw [rv_len]; omega), List.getElem?_eq_none (by simp; omega)]
theorem rv_step (l : List Int) (k : Nat) (hk : 2 * k + 1 < l.length) : ((rv l k).set k (l.getD (l.length - 1 - k) 0)).set (l.length - 1 - k) (l.getD k 0) = rv l (k + 1) := by
  apply List.ext_getElem? ; intro p
  by_cases hp : p < l.length
  · rw [rv_get l (k + 1) p hp, List.getElem?_set, List.getElem?_set, rv_get l k p hp]
    by_cases h1 : l.length - 1 - k = p
    · rw [if_pos h1, if_pos (by simp [rv_len]; omega), if_pos (by omega), ← h1]
      congr 2; omega
    · rw [if_neg h1]
      by_cases h2 : k = p
      · rw [if_pos h2, if_pos (by rw [rv_len]; omega), if_pos (by omega), h2]
      · rw [if_neg h2]
        by_cases h3 : p < k ∨ l.length - k ≤ p
        · rw [if_pos h3, if_pos (by omega)]
        · rw [if_neg h3, if_neg (by omega)]
  · rw [List.getElem?_eq_none (by simp [rv_len]; omega), List.getElem?_eq_none (by rw [rv_len]; omega)]
theorem rv_at (l : List Int) (k : Nat) (hk : 2 * k + 1 < l.length) : (rv l k)[k]? = some (l.getD k 0) ∧ (rv l k)[l.length - 1 - k]? = some (l.getD (l.length - 1 - k) 0) := by
  rw [rv_get l k k (by omega), rv_get l k (l.length - 1 - k) (by omega), if_neg (by omega), if_neg (by omega)]
  exact ⟨rfl, rfl⟩

theorem grown_trans {a b c : World} {row : Option Nat} (h : a.grownBy b row) (k : b.grownBy c row) : a.grownBy c row :=
  ⟨k.os.trans h.os, k.tape.trans h.tape, k.output.trans h.output, Nat.le_trans h.size k.size, fun i hi hr => (k.block i (Nat.lt_of_lt_of_le hi h.size) hr).trans (h.block i hi hr)⟩

theorem Own.set2 {w : World} {B e g n c i j} {k : IntKind} {l : List Int} (h : Own w B e k (.slice (some ⟨g, 0, none⟩) n c) l) (hn : n = l.length) (x y : Int) :
    Own ((w.drew.setCell ⟨g, i, none⟩ (.int k x)).setCell ⟨g, j, none⟩ (.int k y)) B e k (.slice (some ⟨g, 0, none⟩) n c) ((l.set i x).set j y) ∧ w.grownBy ((w.drew.setCell ⟨g, i, none⟩ (.int k x)).setCell ⟨g, j, none⟩ (.int k y)) (some g) := by
  subst hn
  have h1 : w.drew.ownsRow B e 1 (.slice (some ⟨g, 0, none⟩) l.length c) l.length (l.map (Value.int k)) := h
  have h2 := World.ownsRow.stored h1 i (.int k x)
  have h3 := World.ownsRow.stored h2.1 j (.int k y)
  refine ⟨?_, grown_trans (b := w.drew) ⟨rfl, rfl, rfl, Nat.le_refl _, fun _ _ _ => rfl⟩ (grown_trans h2.2 h3.2)⟩
  unfold Own
  rw [List.length_set, List.length_set, List.map_set, List.map_set]
  exact h3.1

theorem Own.at_ {w : World} {B e g n c i} {k : IntKind} {l : List Int} (h : Own w B e k (.slice (some ⟨g, 0, none⟩) n c) l) (hn : n = l.length) {x : Int} (hx : l[i]? = some x) :
    w.cell? ⟨g, i, none⟩ = some (.int k x) ∧ w.frozen? ⟨g, i, none⟩ = false := by
  subst hn
  have hi : i < l.length := (List.getElem?_eq_some_iff.1 hx).1
  refine ⟨?_, World.ownsRow.frozenAt h i⟩
  rw [World.ownsRow.cellAt h i (by simpa using hi), List.getElem?_map, hx]; rfl

/-- what Reverse leaves -/
def RevPost (B g n c : Nat) (l : List Int) (w : World) (e : Ending) (w' : World) : Prop :=
  e = .returned (.tuple #[]) ∧ Own w' B 5 .u8 (.slice (some ⟨g, 0, none⟩) n c) l.reverse ∧ w.grownBy w' (some g)

set_option maxRecDepth 100000 in
set_option maxHeartbeats 1000000 in
theorem rev8_any (B g n c : Nat) (l : List Int) (w : World) (ho : Own w B 5 .u8 (.slice (some ⟨g, 0, none⟩) n c) l) (hn : n = l.length) (hmax : n ≤ 9223372036854775807) :
    Calls Try.prog 30 #[.slice (some ⟨g, 0, none⟩) n c] w (RevPost B g n c l w) := by
  have HO := Lib.hid ho
  have HN := Lib.hid hn
  clear ho hn
  go_enter Try.func30, Try.ntmps30
  go_wp2
  go_loopw [2, 3] (fun iv jv wr => ∃ k : Nat, 2 * k ≤ n + 1 ∧ iv = .int .i64 k ∧ jv = .int .i64 ((n : Int) - 1 - k) ∧ Own wr B 5 .u8 (.slice (some ⟨g, 0, none⟩) n c) (rv l k) ∧ w.grownBy wr (some g)) (fun iv _ _ => n - (intOf iv).toNat)
  case atStart => exact ⟨0, by omega, rfl, by simp, by rw [rv_zero]; exact HO.out, World.grownBy.refl _ _⟩
  case round =>
    obtain ⟨k, hk, rfl, rfl, hown, hgr⟩ := hrel
    have HW := Lib.hid hown
    have HG := Lib.hid hgr
    clear hown hgr HO
    by_cases hlt : 2 * k + 1 < n
    · have ha := rv_at l k (by rw [← HN.out]; exact hlt)
      rw [← HN.out] at ha
      have h1 := HW.out.at_ (by rw [rv_len]; exact HN.out) ha.1
      have h2 := HW.out.at_ (by rw [rv_len]; exact HN.out) ha.2
      have HS := Lib.hid (rv_step l k (by rw [← HN.out]; exact hlt))
      rw [← HN.out] at HS
      have e1 : ((n : Int) - 1 - k) = ((n - 1 - k : Nat) : Int) := by omega
      rw [e1]
      clear ha e1
      obtain ⟨j, hj⟩ : ∃ j, j = n - 1 - k := ⟨_, rfl⟩
      rw [← hj] at h2 HS ⊢
      have hj1 : k < j := by omega
      have hj2 : j < n := by omega
      have HJ := Lib.hid hj
      obtain ⟨c1, f1⟩ := h1
      obtain ⟨c2, f2⟩ := h2
      generalize l.getD j 0 = y at *
      generalize l.getD k 0 = x at *
      clear hj
      go_wp2
      go_region
      go_wp2
      go_roundw
      case rel =>
        have h3 := HW.out.set2 (i := k) (j := j) (by rw [rv_len]; exact HN.out) y x
        rw [HS.out] at h3
        exact ⟨k + 1, by omega, by go_num, by have := HJ.out; congr 1; omega, h3.1, grown_trans HG.out h3.2⟩
      case measure => simp [intOf]; omega
    · go_wp2
      go_end0
      refine ⟨rfl, ?_, HG.out⟩
      rw [← rv_end l k (by rw [← HN.out]; omega)]
      exact HW.out

end Go.Proofs.Ytajajkganamfiaa
