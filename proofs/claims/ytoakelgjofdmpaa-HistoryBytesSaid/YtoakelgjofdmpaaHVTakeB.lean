/-
  byte strings: varint.TakeBytes.
-/
import Derived.Test.YtoakelgjofdmpaaHVPut
import Derived.Laws.CopyOwn
namespace Go.Proofs.Ytoakelgjofdmpaa
open Go.RowKit

/-- what TakeBytes does: an error's number, or the byte string and how many bytes were read -/
def tb (l : List Int) (most : Int) : Int ⊕ (List Int × Nat) :=
  match tk l with
  | none => .inl 4
  | some (v, u) => if max most 0 < v then .inl 9 else if ((l.length - u : Nat) : Int) < v then .inl 4 else .inr ((l.drop u).take v.toNat, u + v.toNat)

/-- the byte string, its length read, no error; in memory from block B on -/
def TbOk (B : Nat) (r : List Int) (q : Nat) (x : Value) (w : World) (e : Ending) (w' : World) : Prop :=
  ∃ a c, e = .returned (.tuple #[.slice a r.length c, .int .i64 q, x]) ∧ Own w' B 5 .u8 (.slice a r.length c) r ∧ Below B w w'

theorem splice_all {cur cs : List Value} (h : cs.length = cur.length) : splice cur 0 cs = cs := by
  simp [splice, h]

/-- copy into a whole slice of the call's own, from a slice that is not shorter -/
theorem copy_rd {P : Program} {w : World} {ops : Array Oper} {rest : List Oper} {o : Oper} {a : Act} {Q : Exit → Act → World → Prop} {t e : TypeId} {k : IntKind} {bytes : Nat} (E : Elt P t e k bytes) (hgd : o.guard = none) (d s : Operand)
    (ho : o.op = .call { callee := .builtin .copy, args := #[d, s], argTypes := #[t, t] }) (B : Nat) (dp sp : Option Addr) (n cap m sc : Nat) (l0 l : List Int) (hd : a.eval d = .slice dp n cap) (hs : a.eval s = .slice sp m sc)
    (hown : Own w B e k (.slice dp n cap) l0) (hn : n = l0.length) (hcap : cap = n) (hr : Rd w k sp m l) (hnm : n ≤ m)
    (h : ∀ w', Own w' B e k (.slice dp n cap) (l.take n) → Below B w w' → wpList P ops Q rest (a.put o.dst (goInt n)) w') : wpList P ops Q (o :: rest) a w := by
  obtain ⟨i, hi, _, hsz, _⟩ := E.hi
  subst hcap
  subst hn
  have hlen : (l.take l0.length).length = l0.length := by rw [List.length_take, hr.len]; omega
  rcases hown.2 with ⟨hv, h0⟩ | ⟨g, cap', cur, hv, hbg, hg, hnc, hcm, hcs, htake⟩
  · have hl : l0 = [] := List.eq_nil_of_length_eq_zero h0
    subst hl
    cases hv
    refine wpList_copy_nothing hgd d s t t ho e E.ht (by rw [hi]; simp [hsz]) none sp 0 0 m sc hd hs (by simp) ?_
    exact h w (by rw [List.length_nil, List.take_zero]; exact hown) (Below.refl _ _)
  · cases hv
    have hcl : cur.toList.length = l0.length := by rw [Array.length_toList, hcs]; omega
    refine wpList_copy_splice hgd d s t t ho e E.ht (by rw [hi]; simp [hsz]) (some ⟨g, 0, none⟩) sp l0.length l0.length m sc hd hs g 0 cur.toList e (by simpa using hg) ((l.take l0.length).map (Value.int k)) (by rw [List.length_map, hlen]; exact (Nat.min_eq_right hnm).symm) ?_ (by rw [List.length_map, hlen, hcl]; omega)
      (ints_oneCell k _) B w (Below.refl _ _) hbg ?_
    · intro hpos
      rw [List.length_map, hlen] at hpos
      obtain ⟨b, off, rfl, _⟩ := hr.cell 0 (by omega)
      exact ⟨rfl, _, rfl, (hr.take_ hnm).news⟩
    · intro w' hh hb
      have hh' := hh.out
      rw [splice_all (by rw [List.length_map, hlen, hcl])] at hh'
      have h3 : Own w' B e k (.slice (some ⟨g, 0, none⟩) l0.length l0.length) (l.take l0.length) := by
        refine ⟨by simp, .inr ⟨g, l0.length, _, by rw [hlen], hbg, hh', by rw [hlen]; exact Nat.le_refl _, hcm, by simp [hr.len]; omega, ?_⟩⟩
        rw [hlen, Nat.mul_one]
        exact List.take_of_length_le (by simp; omega)
      have h4 := h w' h3 hb
      rw [List.length_map, hlen]
      exact h4

set_option maxRecDepth 100000 in
set_option maxHeartbeats 2000000 in
theorem takeBytes_err (a : Option Addr) (n c : Nat) (l : List Int) (most : Int) (w : World) (hr : Rd w .u8 a n l) (h0 : -9223372036854775808 ≤ most) (h1 : most ≤ 9223372036854775807) (k : Int) (h : tb l most = .inl k) :
    Calls Try.prog 54 #[.slice a n c, .int .i64 most] w fun e w' => e = .returned (.tuple #[.slice none 0 0, .int .i64 0, .iface 63 (.int .i64 k)]) ∧ w = w' := by
  have hmax := hr.max
  have HL := Lib.hid hr.len
  unfold tb at h
  cases hk : tk l with
  | none =>
    rw [hk] at h
    obtain rfl : 4 = k := by simpa using h
    have H := Lib.hid (take_none a n c l w hr hk)
    clear h hr hk
    have hne : ∀ w, (binOp .neq 33 (.iface 63 (.int .i64 4)) .nilIface).run Try.prog w = .ok (.bool true) w := fun w => by kernel_rfl
    go_enter Try.func54, Try.ntmps54
    go_wp2_with fail
    refine H.out.mono ?_
    rintro e w' ⟨rfl, rfl⟩
    go_wp2
    go_ret3
    exact ⟨rfl, rfl⟩
  | some r =>
    obtain ⟨v, u⟩ := r
    rw [hk] at h
    simp only at h
    have H := Lib.hid (take_some a n c l w hr v u hk)
    obtain ⟨N, hN, hN1, hu1, hu2, _⟩ := tk_inv (fun x hx => bd_u8 (hr.wf x hx)) hk
    subst hN
    rw [HL.out] at hu2 h
    clear hr hk
    have hne : ∀ w, (binOp .neq 33 .nilIface .nilIface).run Try.prog w = .ok (.bool false) w := fun w => by kernel_rfl
    by_cases hm : max most 0 < (N : Int)
    · rw [if_pos hm] at h
      obtain rfl : 9 = k := by simpa using h
      clear h
      by_cases hp : most < 0
      · have hmx : max most 0 = 0 := by omega
        rw [hmx] at hm
        clear hmx
        go_enter Try.func54, Try.ntmps54
        go_wp2_with fail
        refine H.out.mono ?_
        rintro e w' ⟨rfl, rfl⟩
        go_wp2
        go_ret3
        exact ⟨rfl, rfl⟩
      · have hmx : max most 0 = most := by omega
        rw [hmx] at hm
        clear hmx
        go_enter Try.func54, Try.ntmps54
        go_wp2_with fail
        refine H.out.mono ?_
        rintro e w' ⟨rfl, rfl⟩
        go_wp2
        go_ret3
        exact ⟨rfl, rfl⟩
    · rw [if_neg hm] at h
      by_cases hf : ((n - u : Nat) : Int) < N
      · rw [if_pos hf] at h
        obtain rfl : 4 = k := by simpa using h
        clear h
        by_cases hp : most < 0
        · have hN0 : N = 0 := by omega
          omega
        · have hmx : max most 0 = most := by omega
          rw [hmx] at hm
          clear hmx
          have hf2 : (n : Int) - u < N := by omega
          clear hf
          go_enter Try.func54, Try.ntmps54
          go_wp2_with fail
          refine H.out.mono ?_
          rintro e w' ⟨rfl, rfl⟩
          go_wp2
          go_ret3
          exact ⟨rfl, rfl⟩
      · rw [if_neg hf] at h; cases h

set_option maxRecDepth 100000 in
set_option maxHeartbeats 2000000 in
theorem takeBytes_ok (a : Option Addr) (n c : Nat) (l : List Int) (most : Int) (w : World) (hr : Rd w .u8 a n l) (hc : n ≤ c) (hn : n ≤ 140737488355328) (h0 : -9223372036854775808 ≤ most) (h1 : most ≤ 9223372036854775807) (r : List Int) (q : Nat) (h : tb l most = .inr (r, q)) :
    Calls Try.prog 54 #[.slice a n c, .int .i64 most] w (TbOk w.heap.size r q .nilIface w) := by
  have hmax := hr.max
  have HL := Lib.hid hr.len
  unfold tb at h
  cases hk : tk l with
  | none => rw [hk] at h; cases h
  | some r' =>
    obtain ⟨v, u⟩ := r'
    rw [hk] at h
    simp only at h
    have H := Lib.hid (take_some a n c l w hr v u hk)
    obtain ⟨N, hN, hN1, hu1, hu2, _⟩ := tk_inv (fun x hx => bd_u8 (hr.wf x hx)) hk
    subst hN
    rw [HL.out] at hu2 h
    clear hk
    have hne : ∀ w, (binOp .neq 33 .nilIface .nilIface).run Try.prog w = .ok (.bool false) w := fun w => by kernel_rfl
    by_cases hm : max most 0 < (N : Int)
    · rw [if_pos hm] at h; cases h
    rw [if_neg hm] at h
    by_cases hf : ((n - u : Nat) : Int) < N
    · rw [if_pos hf] at h; cases h
    rw [if_neg hf, Int.toNat_natCast] at h
    simp only [Sum.inr.injEq, Prod.mk.injEq] at h
    obtain ⟨hrr, hq⟩ := h
    have hf2 : (N : Int) ≤ (n : Int) - u := by omega
    have hf3 : N ≤ n - u := by omega
    obtain ⟨ax, hrx, hcut⟩ := hr.cutL E8 (c := c) hu2 hc
    have HX := Lib.hid hrx
    have HRR := Lib.hid hrr
    have HQ := Lib.hid hq
    have hlr : r.length = N := by rw [← hrr, List.length_take, List.length_drop, HL.out]; omega
    have HLR := Lib.hid hlr
    clear hf hr hrx hrr hq hlr
    by_cases hp : most < 0
    · have hmx : max most 0 = 0 := by omega
      rw [hmx] at hm
      have hm2 : (N : Int) ≤ 0 := by omega
      clear hmx hm
      go_enter Try.func54, Try.ntmps54
      go_wp2_with fail
      refine H.out.mono ?_
      rintro e w' ⟨rfl, rfl⟩
      go_wp2_with (at_make; refine make_full E8 rfl _ _ rfl w.heap.size _ _ _ _ N rfl rfl rfl rfl (by omega) (by omega) (Nat.le_refl _) ?_)
      intro w1 ho1 hg1
      have ho1 := Lib.hid ho1
      have hb1 := Lib.hid (grown_below' hg1 (Nat.le_refl _))
      clear hg1
      go_wp2_with (refine copy_rd E8 rfl (.tmp 36) (.tmp 39) rfl w.heap.size _ _ N N _ _ _ _ rfl rfl ho1.out (by simp) rfl (HX.out.below hb1.out) hf3 ?_)
      intro w2 ho2 hb2
      have ho2 := Lib.hid ho2
      have hb2 := Lib.hid hb2
      go_wp2
      go_ret3
      refine ⟨some ⟨w.heap.size, 0, none⟩, N, ret_eq (by rw [HLR.out, ← HQ.out]; simp), by rw [HLR.out, ← HRR.out]; exact ho2.out, hb1.out.trans hb2.out⟩
    · have hmx : max most 0 = most := by omega
      rw [hmx] at hm
      clear hmx
      have hm2 : (N : Int) ≤ most := by omega
      clear hm
      go_enter Try.func54, Try.ntmps54
      go_wp2_with fail
      refine H.out.mono ?_
      rintro e w' ⟨rfl, rfl⟩
      go_wp2_with (at_make; refine make_full E8 rfl _ _ rfl w.heap.size _ _ _ _ N rfl rfl rfl rfl (by omega) (by omega) (Nat.le_refl _) ?_)
      intro w1 ho1 hg1
      have ho1 := Lib.hid ho1
      have hb1 := Lib.hid (grown_below' hg1 (Nat.le_refl _))
      clear hg1
      go_wp2_with (refine copy_rd E8 rfl (.tmp 36) (.tmp 39) rfl w.heap.size _ _ N N _ _ _ _ rfl rfl ho1.out (by simp) rfl (HX.out.below hb1.out) hf3 ?_)
      intro w2 ho2 hb2
      have ho2 := Lib.hid ho2
      have hb2 := Lib.hid hb2
      go_wp2
      go_ret3
      refine ⟨some ⟨w.heap.size, 0, none⟩, N, ret_eq (by rw [HLR.out, ← HQ.out]; simp), by rw [HLR.out, ← HRR.out]; exact ho2.out, hb1.out.trans hb2.out⟩

end Go.Proofs.Ytoakelgjofdmpaa
