/-
  Undo and Redo of a tree; the statements' alive.
-/
import Derived.Test.YtjajlnhobchkgaaUDo
import Derived.Deep.QuietTactic
import Derived.BigQuiet
namespace Go.Proofs.Ytjajlnhobchkgaa
open Go.RowKit
set_option linter.unusedVariables false
set_option linter.unusedSimpArgs false

/-- what Undo leaves -/
def GoPost (S : Nat → Prop) (bt : Nat) (l : List Nd) (to : Int) (w : World) (e : Ending) (w' : World) : Prop :=
  e = .returned .nilIface ∧ TI w' S bt l to ∧ Fr S w w'

set_option maxRecDepth 100000 in
set_option maxHeartbeats 2000000 in
theorem undo_ok (S : Nat → Prop) (bt : Nat) (l : List Nd) (now : Nat) (w : World) (ht : TI w S bt l now) (x : Nd) (hx : l[now]? = some x) (hlen : l.length ≤ 1000) (h0 : now ≠ 0) :
    Calls Try.prog 10 #[.pointer (some ⟨bt, 0, none⟩)] w (GoPost S bt l x.parent w) := by
  obtain ⟨g, n, c, vs, hT, rfl, hSg, hSo⟩ := ht.ex
  have hnow : now < vs.length := by have := (List.getElem?_eq_some_iff.1 hx).1; simpa using this
  obtain ⟨⟨v, nd⟩, hvx⟩ : ∃ y, vs[now]? = some y := ⟨_, List.getElem?_eq_getElem hnow⟩
  obtain rfl : nd = x := by rw [List.getElem?_map, hvx] at hx; simpa using hx
  have hn : n = vs.length := hT.hn
  have HT := Lib.hid hT
  have HSG := Lib.hid hSg
  have HSO := Lib.hid hSo
  have HSB := Lib.hid ht.foot
  have hlen2 : vs.length ≤ 1000 := by simpa using hlen
  have hnn : (now : Int) < (n : Int) := by omega
  have hn9 : (n : Int) ≤ 1000 := by omega
  have hz : ((now : Int) == 0) = false := by simp; omega
  have HNONE := Lib.hid (none_no bt g n c w hT.c0 (by omega))
  have hc0 := hT.c0
  have hc1 := hT.c1
  have hf1 := hT.fz 1
  have hpa := (hT.node hvx).2.1
  simp only at hpa
  have hgb : g ≠ bt := hT.gb
  have HGO := Lib.hid (hT.goto nd.parent)
  clear ht hT hx hvx hSg hSo hn hlen hnow hlen2 h0
  go_enter Try.func10, Try.ntmps10
  go_wp2_with fail
  refine HNONE.out.mono ?_
  rintro e w1 ⟨rfl, rfl⟩
  go_wp2_with fail
  go_region
  have hgd := HGO.out.1.below (Below.refl _ _).drew
  have HGD := Lib.hid hgd
  clear hgd hc0 hc1 hf1 hpa
  go_wp2
  go_ret
  exact ⟨rfl, ⟨⟨g, n, c, vs, HGD.out, rfl, HSG.out, HSO.out⟩, HSB.out⟩, (HGO.out.2.mono (T := S) fun i hi => hi ▸ HSB.out).drew⟩

theorem undo_root (S : Nat → Prop) (bt : Nat) (l : List Nd) (w : World) (ht : TI w S bt l 0) (h1 : 0 < l.length) :
    Calls Try.prog 10 #[.pointer (some ⟨bt, 0, none⟩)] w fun e w' => e = .returned (.iface 46 (.int .i64 7)) ∧ w = w' := by
  obtain ⟨g, n, c, vs, hT, rfl, hSg, hSo⟩ := ht.ex
  have hn : n = vs.length := hT.hn
  have HNONE := Lib.hid (none_no bt g n c w hT.c0 (by simp at h1; omega))
  have hc1 := hT.c1
  clear ht hT hSg hSo hn h1
  go_enter Try.func10, Try.ntmps10
  go_wp2_with fail
  refine HNONE.out.mono ?_
  rintro e w1 ⟨rfl, rfl⟩
  go_wp2
  go_ret
  exact ⟨rfl, rfl⟩

set_option maxRecDepth 100000 in
set_option maxHeartbeats 2000000 in
theorem redo_ok (S : Nat → Prop) (bt : Nat) (l : List Nd) (now : Nat) (w : World) (ht : TI w S bt l now) (x : Nd) (hx : l[now]? = some x) (hlen : l.length ≤ 1000) (h0 : 0 ≤ x.pref) :
    Calls Try.prog 11 #[.pointer (some ⟨bt, 0, none⟩)] w (GoPost S bt l x.pref w) := by
  obtain ⟨g, n, c, vs, hT, rfl, hSg, hSo⟩ := ht.ex
  have hnow : now < vs.length := by have := (List.getElem?_eq_some_iff.1 hx).1; simpa using this
  obtain ⟨⟨v, nd⟩, hvx⟩ : ∃ y, vs[now]? = some y := ⟨_, List.getElem?_eq_getElem hnow⟩
  obtain rfl : nd = x := by rw [List.getElem?_map, hvx] at hx; simpa using hx
  have hn : n = vs.length := hT.hn
  have HT := Lib.hid hT
  have HSG := Lib.hid hSg
  have HSO := Lib.hid hSo
  have HSB := Lib.hid ht.foot
  have hlen2 : vs.length ≤ 1000 := by simpa using hlen
  have hnn : (now : Int) < (n : Int) := by omega
  have hn9 : (n : Int) ≤ 1000 := by omega
  have HNONE := Lib.hid (none_no bt g n c w hT.c0 (by omega))
  have hc0 := hT.c0
  have hc1 := hT.c1
  have hpa := (hT.node hvx).2.2.1
  simp only at hpa
  clear ht hT hx hvx hSg hSo hn hlen hnow hlen2
  go_enter Try.func11, Try.ntmps11
  go_wp2_with fail
  refine HNONE.out.mono ?_
  rintro e w1 ⟨rfl, rfl⟩
  go_wp2_with fail
  go_quiet (fail)
  obtain ⟨wq, hwq⟩ : ∃ wq, wq = w.drewN nq := ⟨_, rfl⟩
  rw [← hwq]
  have hbq : Below w.heap.size w wq := by rw [hwq]; exact ⟨rfl, rfl, rfl, Nat.le_refl _, fun _ _ => rfl⟩
  have HTQ := Lib.hid (HT.out.below hbq)
  have HBQ := Lib.hid hbq
  have HGO := Lib.hid (HTQ.out.goto nd.pref)
  have hq1 := HTQ.out.c1
  have hqf := HTQ.out.fz 1
  clear hc0 hc1 hbq hwq hpa
  go_wp2
  go_ret
  exact ⟨rfl, ⟨⟨g, n, c, vs, HGO.out.1, rfl, HSG.out, HSO.out⟩, HSB.out⟩, (Fr.of_below HBQ.out).then (HGO.out.2.mono (T := S) fun i hi => hi ▸ HSB.out) fun i hi => .inl hi⟩

set_option maxRecDepth 100000 in
set_option maxHeartbeats 2000000 in
theorem redo_no (S : Nat → Prop) (bt : Nat) (l : List Nd) (now : Nat) (w : World) (ht : TI w S bt l now) (x : Nd) (hx : l[now]? = some x) (hlen : l.length ≤ 1000) (h0 : x.pref < 0) :
    Calls Try.prog 11 #[.pointer (some ⟨bt, 0, none⟩)] w fun e w' => e = .returned (.iface 46 (.int .i64 7)) ∧ Below w.heap.size w w' := by
  obtain ⟨g, n, c, vs, hT, rfl, hSg, hSo⟩ := ht.ex
  have hnow : now < vs.length := by have := (List.getElem?_eq_some_iff.1 hx).1; simpa using this
  obtain ⟨⟨v, nd⟩, hvx⟩ : ∃ y, vs[now]? = some y := ⟨_, List.getElem?_eq_getElem hnow⟩
  obtain rfl : nd = x := by rw [List.getElem?_map, hvx] at hx; simpa using hx
  have hn : n = vs.length := hT.hn
  have hlen2 : vs.length ≤ 1000 := by simpa using hlen
  have hnn : (now : Int) < (n : Int) := by omega
  have hn9 : (n : Int) ≤ 1000 := by omega
  have HNONE := Lib.hid (none_no bt g n c w hT.c0 (by omega))
  have hc0 := hT.c0
  have hc1 := hT.c1
  have hpa := (hT.node hvx).2.2.1
  simp only at hpa
  clear ht hT hx hvx hSg hSo hn hlen hnow hlen2
  go_enter Try.func11, Try.ntmps11
  go_wp2_with fail
  refine HNONE.out.mono ?_
  rintro e w1 ⟨rfl, rfl⟩
  go_wp2_with fail
  go_quiet (fail)
  go_wp2
  go_ret
  exact ⟨rfl, ⟨rfl, rfl, rfl, Nat.le_refl _, fun _ _ => rfl⟩⟩

/-- Now and Len, off the tree -/
theorem now_ti (S : Nat → Prop) (bt : Nat) (l : List Nd) (now : Int) (w : World) (ht : TI w S bt l now) (h0 : 0 < l.length) :
    Calls Try.prog 9 #[.pointer (some ⟨bt, 0, none⟩)] w fun e w' => e = .returned (.int .i64 now) ∧ w = w' := by
  obtain ⟨g, n, c, vs, hT, rfl, hSg, hSo⟩ := ht.ex
  have hn : n = vs.length := hT.hn
  exact now_any bt g n c now w hT.c0 hT.c1 (by simp at h0; omega)
theorem len_ti (S : Nat → Prop) (bt : Nat) (l : List Nd) (now : Int) (w : World) (ht : TI w S bt l now) (h0 : 0 < l.length) :
    Calls Try.prog 21 #[.pointer (some ⟨bt, 0, none⟩)] w fun e w' => e = .returned (.int .i64 l.length) ∧ w = w' := by
  obtain ⟨g, n, c, vs, hT, rfl, hSg, hSo⟩ := ht.ex
  have hn : n = vs.length := hT.hn
  have := len_any bt g n c w hT.c0 (by simp at h0; omega)
  rw [hn] at this
  simpa using this

set_option maxRecDepth 100000 in
set_option maxHeartbeats 2000000 in
theorem alive_any (w : World) : Calls Try.prog 13 #[] w fun e w' => e = .returned (.bool true) ∧ Below w.heap.size w w' := by
  have hp : ∀ (a : Addr) (w : World), (binOp .neq 23 (.pointer (some a)) (.pointer none)).run Try.prog w = .ok (.bool true) w := fun a w => by kernel_rfl
  have hne : ∀ w, (binOp .eql 28 .nilIface .nilIface).run Try.prog w = .ok (.bool true) w := fun w => by kernel_rfl
  go_enter Try.func13, Try.ntmps13
  go_wp2_with fail
  refine (new_any 7 w).mono ?_
  rintro e w1 ⟨rfl, ht1, hb1⟩
  have HT1 := Lib.hid ht1
  have HB1 := Lib.hid hb1
  clear ht1 hb1
  go_wp2_with fail
  refine (do_any _ _ _ 0 8 w1 HT1.out ⟨7, -1, -1, 0, []⟩ rfl (by simp) (by simp) (by simp) (by simp)).mono ?_
  rintro e w2 ⟨rfl, S2, ht2, hf2, hs2⟩
  have HT2 : Hid (TI w2 S2 (w.heap.size + 1) [⟨7, -1, 1, 0, [1]⟩, ⟨8, 0, -1, 1, []⟩] 1) := Lib.hid ht2
  have HB2 : Hid (Below w.heap.size w w2) := Lib.hid (HB1.out.trans (hf2.below (fun i hi => hi) HB1.out.size))
  have HS2 : Hid (∀ i, S2 i → w.heap.size ≤ i) := Lib.hid fun i hi => by
    rcases hs2 i hi with h | h
    · exact h
    · have := HB1.out.size; omega
  clear ht2 hf2 hs2
  go_wp2_with fail
  refine (now_ti S2 _ _ 1 w2 HT2.out (by simp)).mono ?_
  rintro e w3 ⟨rfl, rfl⟩
  go_wp2_with fail
  refine (undo_ok S2 _ _ 1 w2 HT2.out ⟨8, 0, -1, 1, []⟩ rfl (by simp) (by simp)).mono ?_
  rintro e w3 ⟨rfl, ht3, hf3⟩
  have HT3 := Lib.hid ht3
  have HB3 : Hid (Below w.heap.size w w3) := Lib.hid (HB2.out.trans (hf3.below HS2.out HB2.out.size))
  clear ht3 hf3
  go_wp2_with fail
  refine (redo_ok S2 _ _ 0 w3 HT3.out ⟨7, -1, 1, 0, [1]⟩ rfl (by simp) (by simp)).mono ?_
  rintro e w4 ⟨rfl, ht4, hf4⟩
  have HT4 := Lib.hid ht4
  have HB4 : Hid (Below w.heap.size w w4) := Lib.hid (HB3.out.trans (hf4.below HS2.out HB3.out.size))
  clear ht4 hf4
  go_wp2_with fail
  refine (len_ti S2 _ _ _ w4 HT4.out (by simp)).mono ?_
  rintro e w5 ⟨rfl, rfl⟩
  go_wp2
  go_ret
  exact ⟨ret_eq (by simp), HB4.out⟩

end Go.Proofs.Ytjajlnhobchkgaa
