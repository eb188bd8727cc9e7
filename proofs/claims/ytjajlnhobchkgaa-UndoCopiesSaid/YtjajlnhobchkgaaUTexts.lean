/-
  Texts of a tree; Children of the reference.
-/
import Derived.Test.YtjajlnhobchkgaaUNo
import Derived.Test.YtjajlnhobchkgaaRF
import Derived.BigQuiet
namespace Go.Proofs.Ytjajlnhobchkgaa
open Go.RowKit
set_option linter.unusedVariables false
set_option linter.unusedSimpArgs false

theorem fill_step {α : Type} [Inhabited α] {L : List α} {z : α} {i : Nat} {x : α} (hx : L[i]? = some x) : (L.take i ++ List.replicate (L.length - i) z).set i x = L.take (i + 1) ++ List.replicate (L.length - (i + 1)) z := by
  have hi : i < L.length := (List.getElem?_eq_some_iff.1 hx).1
  have hx2 : L[i] = x := (List.getElem?_eq_some_iff.1 hx).2
  rw [List.set_append_right _ _ (by simp; omega), List.length_take, Nat.min_eq_left (Nat.le_of_lt hi), Nat.sub_self]
  rw [show L.length - i = (L.length - (i + 1)) + 1 by omega, List.replicate_succ, List.set_cons_zero, ← List.take_append_getElem hi, hx2, List.append_assoc]
  rfl

def TextsPost (l : List Nd) (w : World) (e : Ending) (w' : World) : Prop :=
  ∃ a c, e = .returned (.slice a l.length c) ∧ Own w' w.heap.size 32 .i64 (.slice a l.length c) (l.map (·.text)) ∧ Below w.heap.size w w'

set_option maxRecDepth 100000 in
set_option maxHeartbeats 1500000 in
theorem texts_any (S : Nat → Prop) (bt : Nat) (l : List Nd) (now : Int) (w : World) (ht : TI w S bt l now) (hl : 0 < l.length) (hlen : l.length ≤ 1000) :
    Calls Try.prog 31 #[.pointer (some ⟨bt, 0, none⟩)] w (TextsPost l w) := by
  obtain ⟨g, n, c, vs, hT, hvs, hSg, hSo⟩ := ht.ex
  have hn := hT.hn
  have hln : l.length = n := by rw [hvs, List.length_map, hn]
  have HNO := Lib.hid (none_no bt g n c w hT.c0 (by omega))
  have hc0 := hT.c0
  have HT := Lib.hid hT
  have HVS := Lib.hid hvs
  have HN := Lib.hid hn
  have HLN := Lib.hid hln
  have hn9 : (n : Int) ≤ 1000 := by omega
  have HN9 : Hid (n ≤ 1000) := Lib.hid (by omega)
  obtain ⟨L, hL⟩ : ∃ L, L = l.map (·.text) := ⟨_, rfl⟩
  have HL := Lib.hid hL
  have HLL : Hid (L.length = n) := Lib.hid (by rw [hL, List.length_map, hln])
  clear ht hT hvs hSg hSo hn hlen hl hln hL
  go_enter Try.func31, Try.ntmps31
  go_wp2_with fail
  refine HNO.out.mono ?_
  rintro e w1 ⟨rfl, rfl⟩
  go_wp2_with (at_make; refine make_full EDI rfl _ _ rfl w.heap.size _ _ _ _ n rfl rfl rfl rfl (by have := HN9.out; omega) (by have := HN9.out; omega) (Nat.le_refl _) ?_; intro w1 ho1 hg1; have hb1 := Below.grown (Below.refl w.heap.size w) hg1 (Nat.le_refl _) (by simp); have hc1 := below_cell hb1 hc0; have HO1 := Lib.hid ho1; have HB1 := Lib.hid hb1; clear ho1 hg1 hb1 hc0)
  go_loopw [19] (fun iv wr => ∃ i : Nat, iv = .int .i64 i ∧ i ≤ n ∧ Own wr w.heap.size 32 .i64 (.slice (some ⟨w.heap.size, 0, none⟩) n n) (L.take i ++ List.replicate (L.length - i) 0) ∧ Below w.heap.size w wr) (fun iv _ => n - (intOf iv).toNat)
  case atStart => exact ⟨0, rfl, by omega, by rw [HLL.out]; exact HO1.out, HB1.out⟩
  case round =>
    obtain ⟨i, rfl, hi, ho, hb⟩ := hrel
    by_cases hlt : i < n
    · obtain ⟨⟨v, nd⟩, hvx⟩ : ∃ y, vs[i]? = some y := ⟨_, List.getElem?_eq_getElem (show i < vs.length by rw [← HN.out]; exact hlt)⟩
      obtain ⟨ka, kc, rfl⟩ : ∃ a c, v = .slice a nd.kids.length c := (HT.out.own _ (List.mem_of_getElem? hvx)).form
      have HLX : Hid (L[i]? = some nd.text) := Lib.hid (by rw [HL.out, HVS.out, List.getElem?_map, List.getElem?_map, hvx]; rfl)
      obtain ⟨k1, k2, k3, k4, k5⟩ := (HT.out.below hb).node hvx
      simp only at k1 k2 k3 k4 k5
      have hlt2 : (i : Int) < (n : Int) := by omega
      have hi9 : (i : Int) ≤ 1000 := by omega
      have hi0 : (0 : Int) ≤ (i : Int) := by omega
      have HLT := Lib.hid hlt
      have HO := Lib.hid (ho.below (below_alloc wr (.cells #[.int .i64 nd.text, .int .i64 nd.parent, .int .i64 nd.pref, .int .i64 nd.depth, .slice ka nd.kids.length kc] 71)))
      have HB := Lib.hid (bthen hb (below_alloc wr (.cells #[.int .i64 nd.text, .int .i64 nd.parent, .int .i64 nd.pref, .int .i64 nd.depth, .slice ka nd.kids.length kc] 71)))
      have HSZ : Hid (w.heap.size ≤ wr.heap.size + 1) := Lib.hid (by have := hb.size; omega)
      clear ho hb hvx hlt
      go_wp2_with (refine guard_op (.store 32 (.tmp 28) (.tmp 27)) rfl ?_; refine store_int rfl 32 .i64 (.tmp 28) (.tmp 27) rfl w.heap.size i rfl nd.text rfl (by kernel_rfl) w.heap.size n n 32 (L.take i ++ List.replicate (L.length - i) 0) HO.out (by have := HLL.out; have := HLT.out; simp; omega) (by have := HLL.out; have := HLT.out; simp; omega) ?_; intro w2 ho2 hg2; have HO2 := Lib.hid ho2; have HG2 := Lib.hid hg2; clear ho2 hg2)
      go_roundw
      case rel =>
        refine ⟨i + 1, by go_num, HLT.out, ?_, HB.out.grown HG2.out (by simp; exact HSZ.out) (fun k e => by cases e; exact Nat.le_refl _)⟩
        rw [← fill_step HLX.out]
        exact HO2.out
      case measure => have := HLT.out; simp [intOf]; omega
    · obtain rfl : i = n := by omega
      have HO := Lib.hid ho
      have HB := Lib.hid hb
      clear ho hb hlt hi
      go_wp2
      go_ret
      refine ⟨some ⟨w.heap.size, 0, none⟩, i, ret_eq (by rw [HLN.out]; simp), ?_, HB.out⟩
      have h := HO.out
      rw [HLL.out, Nat.sub_self, List.take_of_length_le (by rw [HLL.out]; exact Nat.le_refl _), List.replicate_zero, List.append_nil, HL.out] at h
      rw [HLN.out]
      exact h

end Go.Proofs.Ytjajlnhobchkgaa
