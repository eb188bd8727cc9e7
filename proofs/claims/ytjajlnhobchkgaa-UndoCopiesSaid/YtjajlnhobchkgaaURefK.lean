/-
  Children of the reference.
-/
import Derived.Test.YtjajlnhobchkgaaURef
import Derived.Test.YtjajlnhobchkgaaURefM
import Derived.BigQuiet
namespace Go.Proofs.Ytjajlnhobchkgaa
open Go.RowKit
set_option linter.unusedVariables false
set_option linter.unusedSimpArgs false

/-- the nodes below i whose parent is k -/
def kidsR (P : List Int) (k : Int) (i : Nat) : List Int := List.map (fun (j : Nat) => (j : Int)) ((List.range i).filter (fun (j : Nat) => P.getD j 0 == k))

theorem kidsR_in {P : List Int} {k : Int} {i : Nat} (h : P.getD i 0 = k) : kidsR P k (i + 1) = kidsR P k i ++ [(i : Int)] := by
  have hf : [i].filter (fun (j : Nat) => P.getD j 0 == k) = [i] := by rw [List.filter_cons, if_pos (by rw [h]; simp)]; rfl
  unfold kidsR; rw [List.range_succ, List.filter_append, List.map_append, hf]; rfl
theorem kidsR_out {P : List Int} {k : Int} {i : Nat} (h : P.getD i 0 ≠ k) : kidsR P k (i + 1) = kidsR P k i := by
  have hf : [i].filter (fun (j : Nat) => P.getD j 0 == k) = [] := by rw [List.filter_cons, if_neg (by simpa using h)]; rfl
  unfold kidsR; rw [List.range_succ, List.filter_append, List.map_append, hf]; simp
theorem kidsR_len (P : List Int) (k : Int) (i : Nat) : (kidsR P k i).length ≤ i := by
  unfold kidsR; rw [List.length_map]; exact Nat.le_trans (List.length_filter_le ..) (by simp)
theorem kidsR_mem {P : List Int} {k : Int} {i : Nat} {c : Int} : c ∈ kidsR P k i ↔ ∃ j : Nat, c = j ∧ j < i ∧ P.getD j 0 = k := by
  unfold kidsR
  simp only [List.mem_map, List.mem_filter, List.mem_range, beq_iff_eq]
  exact ⟨fun ⟨j, ⟨h1, h2⟩, h3⟩ => ⟨j, h3.symm, h1, h2⟩, fun ⟨j, h1, h2, h3⟩ => ⟨j, ⟨h2, h3⟩, h1.symm⟩⟩
theorem kidsR_sorted (P : List Int) (k : Int) (i : Nat) : (kidsR P k i).Pairwise (· < ·) := by
  unfold kidsR
  rw [List.pairwise_map]
  exact (List.pairwise_lt_range.filter _).imp (fun h => by omega)

theorem sorted_ext : ∀ {l1 l2 : List Int}, l1.Pairwise (· < ·) → l2.Pairwise (· < ·) → (∀ c, c ∈ l1 ↔ c ∈ l2) → l1 = l2
  | [], [], _, _, _ => rfl
  | [], y :: r, _, _, h => absurd ((h y).2 (by simp)) (by simp)
  | x :: r, [], _, _, h => absurd ((h x).1 (by simp)) (by simp)
  | x :: r, y :: s, h1, h2, h => by
    have hx := List.pairwise_cons.1 h1
    have hy := List.pairwise_cons.1 h2
    have e : x = y := by
      rcases List.mem_cons.1 ((h x).1 (by simp)) with e | e
      · exact e
      · rcases List.mem_cons.1 ((h y).2 (by simp)) with e2 | e2
        · exact e2.symm
        · have := hy.1 x e; have := hx.1 y e2; omega
    subst e
    rw [sorted_ext hx.2 hy.2 (fun c => ⟨fun hc => by
      rcases List.mem_cons.1 ((h c).1 (List.mem_cons_of_mem _ hc)) with e | e
      · have := hx.1 c hc; omega
      · exact e, fun hc => by
      rcases List.mem_cons.1 ((h c).2 (List.mem_cons_of_mem _ hc)) with e | e
      · have := hy.1 c hc; omega
      · exact e⟩)]

theorem kids_are {l : List Nd} (hw : WfT l) {k : Nat} {x : Nd} (hx : l[k]? = some x) : kidsR (l.map (·.parent)) k l.length = x.kids := by
  have h := hw.kids k x hx
  refine sorted_ext (kidsR_sorted _ _ _) h.1 (fun c => ?_)
  rw [kidsR_mem, h.2 c]
  constructor
  · rintro ⟨j, rfl, hj, hp⟩
    refine ⟨j, l[j], rfl, List.getElem?_eq_getElem hj, ?_⟩
    simpa [List.getD, List.getElem?_eq_getElem hj] using hp
  · rintro ⟨j, y, rfl, hy, hp⟩
    exact ⟨j, rfl, WfT.lt hy, by simp [List.getD, hy, hp]⟩

def RKidsPost (xs : List Int) (w : World) (e : Ending) (w' : World) : Prop :=
  ∃ a c, e = .returned (.slice a xs.length c) ∧ Rd w' .i64 a xs.length xs ∧ Below w.heap.size w w'

set_option maxRecDepth 100000 in
set_option maxHeartbeats 1500000 in
theorem rchildren_any (ta pa fa : Option Addr) (tn tc pc fn fc n : Nat) (now k : Int) (P : List Int) (w : World) (hr : Rd w .i64 pa n P) (hlen : n ≤ 1000) :
    Calls Try.prog 48 #[.agg #[.slice ta tn tc, .slice pa n pc, .slice fa fn fc, .int .i64 now], .int .i64 k] w (RKidsPost (kidsR P k n) w) := by
  have HR := Lib.hid hr
  have HL := Lib.hid hlen
  obtain ⟨w1, hw1⟩ : ∃ w1, w1 = w.alloc (.cells #[.slice ta tn tc, .slice pa n pc, .slice fa fn fc, .int .i64 now] 36) := ⟨_, rfl⟩
  have HB1 : Hid (Below w.heap.size w w1) := Lib.hid (by rw [hw1]; exact below_alloc _ _)
  have HZ1 : Hid (w1.heap.size = w.heap.size + 1) := Lib.hid (by rw [hw1]; simp)
  have hp1 : w1.cell? ⟨w.heap.size, 1, none⟩ = some (.slice pa n pc) := by rw [hw1]; exact acell rfl rfl
  have HW1 := Lib.hid hw1
  have HP1 := Lib.hid hp1
  have hn9 : (n : Int) ≤ 1000 := by omega
  clear hr hlen hw1 hp1
  go_enter Try.func48, Try.ntmps48
  go_upto_region 1 with fail
  rw [← HW1.out]
  go_wp2
  go_loopw [5, 6] (fun ov iv wr => ∃ (i : Nat) (xs : List Int) (a : Option Addr) (c : Nat), iv = .int .i64 i ∧ i ≤ n ∧ xs = kidsR P k i ∧ ov = .slice a xs.length c ∧ Own wr w1.heap.size 3 .i64 (.slice a xs.length c) xs ∧ Below w1.heap.size w1 wr) (fun _ iv _ => n - (intOf iv).toNat)
  case atStart => exact ⟨0, [], none, 0, rfl, by omega, by simp [kidsR], rfl, Own.nil _ _ _ _, Below.refl _ _⟩
  case round =>
    obtain ⟨i, xs, a, c, rfl, hi, hxs, rfl, ho, hb⟩ := hrel
    have HXS := Lib.hid hxs
    have HX9 : Hid (xs.length ≤ 1000) := Lib.hid (by rw [hxs]; have := kidsR_len P k i; have := HL.out; omega)
    have hp := below_cell hb HP1.out
    have HO := Lib.hid ho
    have HB := Lib.hid hb
    by_cases hlt : i < n
    · obtain ⟨b, off, rfl, hc⟩ := ((HR.out.below HB1.out).below hb).cell i hlt
      have hlt2 : (i : Int) < (n : Int) := by omega
      have hi9 : (i : Int) ≤ 1000 := by omega
      have HLT := Lib.hid hlt
      obtain ⟨q, hq⟩ : ∃ q, q = P.getD i 0 := ⟨_, rfl⟩
      have HQ := Lib.hid hq
      rw [← hq] at hc
      by_cases hqk : q = k
      · have HK : Hid (P.getD i 0 = k) := Lib.hid (by rw [← hq]; exact hqk)
        have hbq : (q == k) = true := by simpa using hqk
        generalize hm : xs.length = m at *
        have HM := Lib.hid hm
        clear hq hqk ho hb hxs hlt hm
        go_wp2_with (at_builtin; go_loud (refine app_rd (.tmp 21) (.tmp 23) EI rfl rfl w1.heap.size (.slice a m c) xs rfl (by have h := HO.out.alloc (.cells #[.int .i64 (i : Int)] 3); rw [← HM.out] at h ⊢; exact h) _ 1 _ [(i : Int)] rfl (Rd.one wr .i64 3 i (WalkArith.wf_i64 (by have := HLT.out; have := HL.out; omega))) (by rw [HM.out]; have := HX9.out; simp; omega) (by decide) (by have := HB.out.size; simp; omega) ?_); intro a7 c7 w7 ho7 hg7; have HB7 := Lib.hid ((HB.out.alloc HB.out.size _).trans (grown_below (HO.out.alloc _) hg7 (by have := HB.out.size; simp; omega))); have HO7 := Lib.hid ho7; clear ho7 hg7)
        go_roundw
        case rel => exact ⟨i + 1, xs ++ [(i : Int)], a7, c7, by go_num, HLT.out, by rw [kidsR_in HK.out, ← HXS.out], by simp [HM.out], HO7.out, HB7.out⟩
        case measure => have := HLT.out; simp [intOf]; omega
      · have HK : Hid (P.getD i 0 ≠ k) := Lib.hid (by rw [← hq]; exact hqk)
        have hbq : (q == k) = false := by simpa using hqk
        generalize hm : xs.length = m at *
        have HM := Lib.hid hm
        clear hq hqk ho hb hxs hlt HX9 hm
        go_wp2
        go_roundw
        case rel => exact ⟨i + 1, xs, a, c, by go_num, HLT.out, by rw [kidsR_out HK.out, ← HXS.out], by rw [HM.out], by rw [HM.out]; exact HO.out, HB.out⟩
        case measure => have := HLT.out; simp [intOf]; omega
    · obtain rfl : i = n := by omega
      generalize hm : xs.length = m at *
      have HM := Lib.hid hm
      clear ho hb hxs hlt hi hm
      go_wp2
      go_ret
      have hwf : ∀ x ∈ kidsR P k i, (Lit.int .i64 x).wf = true := fun x hx => by
        obtain ⟨j, rfl, hj, _⟩ := kidsR_mem.1 hx
        exact WalkArith.wf_i64 (by have := HL.out; omega)
      refine ⟨a, c, ret_eq (by rw [← HXS.out, HM.out]; simp), ?_, bthen HB1.out HB.out⟩
      rw [← HXS.out, HM.out]
      exact Own.rd HO.out (by rw [HXS.out]; exact hwf)

end Go.Proofs.Ytjajlnhobchkgaa
