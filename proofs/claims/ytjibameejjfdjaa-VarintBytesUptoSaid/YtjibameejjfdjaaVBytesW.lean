/-
  PutBytes, the reference's PutBytes, and the walk of VarintBytes.
-/
import Derived.Test.YtjibameejjfdjaaVTakeB
import Derived.Test.YtjibameejjfdjaaVRefPut
namespace Go.Proofs.Ytjibameejjfdjaa
open Go.RowKit

/-- a list in memory from block B on -/
def MadeL (B : Nat) (r : List Int) (w : World) (e : Ending) (w' : World) : Prop :=
  ∃ a c, e = .returned (.slice a r.length c) ∧ Own w' B 5 .u8 (.slice a r.length c) r ∧ Below B w w'

theorem wrap_len {n : Nat} (h : n ≤ 140737488355328) : IntKind.u64.wrap (n : Int) = n := by rw [IntKind.wrap_u64]; omega

set_option maxRecDepth 100000 in
theorem putBytes_any (a : Option Addr) (n c : Nat) (l : List Int) (w : World) (hr : Rd w .u8 a n l) (hn : n ≤ 140737488300000) :
    Calls Try.prog 27 #[.slice a n c] w (MadeL w.heap.size (put n ++ l) w) := by
  have HL := Lib.hid hr.len
  have HR := Lib.hid hr
  have hten := put_len_ten (n := n) (by omega)
  have HP := Lib.hid (fun w => put_any (n : Int) w (by omega) (by omega))
  rw [Int.toNat_natCast] at HP
  clear hr
  go_enter Try.func27, Try.ntmps27
  go_wp2_with (first
    | (go_at_call 17; refine (HP.out _).mono ?_; rintro e w1 ⟨a1, c1, rfl, ho1, hb1⟩; have ho1 := Lib.hid ho1; have hb1 := Lib.hid hb1; have hsz1 := hb1.out.size)
    | (at_builtin; refine app_rd _ _ E8 rfl rfl w.heap.size _ _ rfl ho1.out _ _ _ _ rfl (HR.out.below hb1.out) (by rw [HL.out]; omega) (by omega) (by omega) ?_; intro a2 c2 w2 ho2 hg2))
  have hb2 := Lib.hid (grown_below ho1.out hg2 (by omega))
  have ho2 := Lib.hid ho2
  clear hg2
  go_ret
  exact ⟨a2, c2, ret_eq (by simp), by simpa using ho2.out, hb1.out.trans hb2.out⟩

set_option maxRecDepth 100000 in
theorem rputBytes_any (a : Option Addr) (n c : Nat) (l : List Int) (w : World) (hr : Rd w .u8 a n l) (hn : n ≤ 140737488300000) :
    Calls Try.prog 28 #[.slice a n c] w (MadeL w.heap.size (put n ++ l) w) := by
  have HL := Lib.hid hr.len
  have HR := Lib.hid hr
  have hten := put_len_ten (n := n) (by omega)
  have HP := Lib.hid (fun w => refPut_any (n : Int) w (by omega) (by omega))
  rw [Int.toNat_natCast] at HP
  clear hr
  go_enter Try.func28, Try.ntmps28
  go_wp2_with (first
    | (go_at_call 25; refine (HP.out _).mono ?_; rintro e w1 ⟨a1, c1, rfl, ho1, hb1⟩; have ho1 := Lib.hid ho1; have hb1 := Lib.hid hb1; have hsz1 := hb1.out.size)
    | (at_builtin; refine app_rd _ _ E8 rfl rfl w.heap.size _ _ rfl ho1.out _ _ _ _ rfl (HR.out.below hb1.out) (by rw [HL.out]; omega) (by omega) (by omega) ?_; intro a2 c2 w2 ho2 hg2))
  have hb2 := Lib.hid (grown_below ho1.out hg2 (by omega))
  have ho2 := Lib.hid ho2
  clear hg2
  go_ret
  exact ⟨a2, c2, ret_eq (by simp), by simpa using ho2.out, hb1.out.trans hb2.out⟩

theorem tb_put {l : List Int} (tail : List Int) {n : Nat} (hl : l.length = n) (h : n < 18446744073709551616) {most : Int} (hm : (n : Int) ≤ max most 0) : tb (put n ++ (l ++ tail)) most = .inr (l, (put n).length + n) := by
  unfold tb
  rw [tk_put _ h]
  simp only
  rw [if_neg (by omega), if_neg (by simp only [List.length_append]; omega)]
  simp [hl]

theorem tb_put_large {l : List Int} {n : Nat} (h : n < 18446744073709551616) {most : Int} (hm : max most 0 < (n : Int)) : tb (put n ++ l) most = .inl 9 := by
  unfold tb
  rw [tk_put _ h]
  simp only
  rw [if_pos hm]

set_option maxRecDepth 100000 in
set_option maxHeartbeats 600000 in
theorem walk_VarintBytes (a : Option Addr) (n c : Nat) (l : List Int) (a0 : Option Addr) (m c0 : Nat) (l2 : List Int) (most : Int) (w : World) (hr : Rd w .u8 a n l) (hn : n ≤ 1048576) (_hc : n ≤ c)
    (hr2 : Rd w .u8 a0 m l2) (hm : m ≤ 1048576) (_hc0 : m ≤ c0) (wm : (Lit.int .i64 most).wf = true) :
    Calls Try.prog 10 #[.slice a n c, .slice a0 m c0, .int .i64 most] w fun e w' => e = .returned (.bool true) ∧ Below w.heap.size w w' := by
  obtain ⟨h0, h1⟩ := bd_i64 wm
  have HR := Lib.hid hr
  have HR2 := Lib.hid hr2
  have HW := Lib.hid hr.wf
  have HL := Lib.hid hr.len
  have HL2 := Lib.hid hr2.len
  have hten := put_len_ten (n := n) (by omega)
  have HPW : Hid (∀ x ∈ put n ++ l, (Lit.int .u8 x).wf = true) := Lib.hid fun x hx => by
    rcases List.mem_append.1 hx with h | h
    · exact put_wf n x h
    · exact hr.wf x h
  have HW7 : Hid (∀ x ∈ (put n ++ l) ++ l2, (Lit.int .u8 x).wf = true) := Lib.hid fun x hx => by
    rcases List.mem_append.1 hx with h | h
    · exact HPW.out x h
    · exact hr2.wf x h
  obtain ⟨z, hz⟩ : ∃ z, z = (put n).length + n := ⟨_, rfl⟩
  have HPL : Hid ((put n ++ l).length = z) := Lib.hid (by rw [List.length_append, hr.len, hz])
  have hz1 : z ≤ n + 10 := by omega
  have HZ := Lib.hid hz
  clear hz
  have HB1 := Lib.hid (tb_put l2 hr.len (by omega) (most := (n : Int)) (by omega))
  clear wm
  have hnn : ∀ w, (binOp .eql 25 .nilIface .nilIface).run Try.prog w = .ok (.bool true) w := fun w => by kernel_rfl
  have hne : ∀ w, (binOp .neq 25 .nilIface .nilIface).run Try.prog w = .ok (.bool false) w := fun w => by kernel_rfl
  have hnx : ∀ w, (binOp .eql 25 (.iface 52 (.int .i64 9)) .nilIface).run Try.prog w = .ok (.bool false) w := fun w => by kernel_rfl
  by_cases hA : (n : Int) ≤ most
  · have HB2 := Lib.hid (tb_put [] hr.len (by omega) (most := most) (by omega))
    rw [List.append_nil] at HB2
    clear hr hr2
    go_enter Try.func10, Try.ntmps10
    go_wp2_with fail
    refine (copied_any a n c l _ HR.out (by omega)).mono ?_
    rintro e w1 ⟨a1, c1, rfl, ho1, hb1⟩
    have ho1 := Lib.hid ho1
    have hb1 := Lib.hid hb1
    go_wp2_with fail
    refine (putBytes_any _ _ _ l _ (ho1.out.rd HW.out) (by omega)).mono ?_
    rintro e w2 ⟨a2, c2, rfl, ho2, hb2⟩
    have ho2 := Lib.hid ho2
    have hb2 := Lib.hid hb2
    rw [HPL.out]
    go_wp2_with fail
    refine (awake_any _).mono ?_
    rintro e w3 ⟨rfl, hb3⟩
    have hb3 := Lib.hid hb3
    go_wp2_with fail
    refine (rputBytes_any _ _ _ l _ (HR.out.below (bthen hb1.out (bthen hb2.out hb3.out))) (by omega)).mono ?_
    rintro e w4 ⟨a4, c4, rfl, ho4, hb4⟩
    have ho4 := Lib.hid ho4
    have hb4 := Lib.hid hb4
    rw [HPL.out]
    have HC := Lib.hid ((ho2.out.rd HPW.out).below (bthen hb3.out hb4.out))
    rw [HPL.out] at HC
    have HC4 := Lib.hid (ho4.out.rd HPW.out)
    rw [HPL.out] at HC4
    go_wp2_with fail
    refine (bytes_eq _ _ _ _ _ _ _ _ HC.out HC4.out).mono ?_
    rintro e w5 ⟨rfl, rfl⟩
    go_wp2_with fail
    refine (copied_any _ _ _ _ _ HC.out (by omega)).mono ?_
    rintro e w6 ⟨a6, c6, rfl, ho6, hb6⟩
    have ho6 := Lib.hid ho6
    have hb6 := Lib.hid hb6
    have hsz6 := hb6.out.size
    have hbw6 := Lib.hid (bthen hb1.out (bthen hb2.out (bthen hb3.out (bthen hb4.out hb6.out))))
    go_wp2_with (at_builtin; refine app_rd _ _ E8 rfl rfl w4.heap.size _ _ rfl ho6.out _ _ _ l2 rfl (HR2.out.below hbw6.out) (by rw [HPL.out, HL2.out]; omega) (by omega) hsz6 ?_; intro a7 c7 w7 ho7 hg7)
    have hb7 := Lib.hid (grown_below ho6.out hg7 hsz6)
    have ho7 := Lib.hid ho7
    clear hg7
    have HR7 := Lib.hid (ho7.out.rd HW7.out)
    have hc7 := ho7.out.cap
    rw [List.length_append, HPL.out] at hc7
    rw [List.append_assoc, List.length_append, List.length_append, HL.out, HL2.out] at HR7
    rw [HL2.out]
    rw [show (put n).length + (n + m) = z + m by have := HZ.out; omega] at HR7
    rw [show (put n).length + (l.length + m) = z + m by have := HZ.out; have := HL.out; omega]
    go_wp2_with fail
    refine (takeBytes_ok _ _ _ _ _ _ HR7.out (by have := HL2.out; omega) (by omega) (by omega) (by omega) _ _ HB1.out).mono ?_
    rintro e w8 ⟨a8, c8, rfl, ho8, hb8⟩
    have ho8 := Lib.hid ho8
    have hb8 := Lib.hid hb8
    have HQ : Hid ((((put n).length + n : Nat) : Int) = (z : Int)) := Lib.hid (by rw [HZ.out])
    rw [HQ.out, HL.out]
    have HO8 := Lib.hid (ho8.out.rd HW.out)
    rw [HL.out] at HO8
    have hbw7 := Lib.hid (hbw6.out.trans (hb7.out.mono (bthen hb1.out (bthen hb2.out (bthen hb3.out hb4.out))).size))
    go_wp2_with fail
    refine (bytes_eq _ _ _ _ _ _ l _ HO8.out (HR.out.below (bthen hbw7.out hb8.out))).mono ?_
    rintro e w9 ⟨rfl, rfl⟩
    have HC9 := Lib.hid (HC.out.below (hb6.out.trans (hb7.out.trans (hb8.out.mono (by have := hb7.out.size; omega)))))
    have hbw8 := Lib.hid (bthen hbw7.out hb8.out)
    have hc2 := ho2.out.cap
    rw [HPL.out] at hc2
    go_wp2_with fail
    refine (takeBytes_ok _ _ _ _ _ _ HC9.out hc2 (by omega) h0 h1 _ _ HB2.out).mono ?_
    rintro e w10 ⟨a10, c10, rfl, ho10, hb10⟩
    have ho10 := Lib.hid ho10
    have hb10 := Lib.hid hb10
    go_wp2
    go_ret
    exact ⟨ret_eq (by simp), bthen hbw8.out hb10.out⟩
  · by_cases hB : n = 0
    · have HB2 := Lib.hid (tb_put [] hr.len (by omega) (most := most) (by omega))
      rw [List.append_nil] at HB2
      have hB2 : ((n : Int) == 0) = true := by simp [hB]
      clear hr hr2 hB
      go_enter Try.func10, Try.ntmps10
      go_wp2_with fail
      refine (copied_any a n c l _ HR.out (by omega)).mono ?_
      rintro e w1 ⟨a1, c1, rfl, ho1, hb1⟩
      have ho1 := Lib.hid ho1
      have hb1 := Lib.hid hb1
      go_wp2_with fail
      refine (putBytes_any _ _ _ l _ (ho1.out.rd HW.out) (by omega)).mono ?_
      rintro e w2 ⟨a2, c2, rfl, ho2, hb2⟩
      have ho2 := Lib.hid ho2
      have hb2 := Lib.hid hb2
      rw [HPL.out]
      go_wp2_with fail
      refine (awake_any _).mono ?_
      rintro e w3 ⟨rfl, hb3⟩
      have hb3 := Lib.hid hb3
      go_wp2_with fail
      refine (rputBytes_any _ _ _ l _ (HR.out.below (bthen hb1.out (bthen hb2.out hb3.out))) (by omega)).mono ?_
      rintro e w4 ⟨a4, c4, rfl, ho4, hb4⟩
      have ho4 := Lib.hid ho4
      have hb4 := Lib.hid hb4
      rw [HPL.out]
      have HC := Lib.hid ((ho2.out.rd HPW.out).below (bthen hb3.out hb4.out))
      rw [HPL.out] at HC
      have HC4 := Lib.hid (ho4.out.rd HPW.out)
      rw [HPL.out] at HC4
      go_wp2_with fail
      refine (bytes_eq _ _ _ _ _ _ _ _ HC.out HC4.out).mono ?_
      rintro e w5 ⟨rfl, rfl⟩
      go_wp2_with fail
      refine (copied_any _ _ _ _ _ HC.out (by omega)).mono ?_
      rintro e w6 ⟨a6, c6, rfl, ho6, hb6⟩
      have ho6 := Lib.hid ho6
      have hb6 := Lib.hid hb6
      have hsz6 := hb6.out.size
      have hbw6 := Lib.hid (bthen hb1.out (bthen hb2.out (bthen hb3.out (bthen hb4.out hb6.out))))
      go_wp2_with (at_builtin; refine app_rd _ _ E8 rfl rfl w4.heap.size _ _ rfl ho6.out _ _ _ l2 rfl (HR2.out.below hbw6.out) (by rw [HPL.out, HL2.out]; omega) (by omega) hsz6 ?_; intro a7 c7 w7 ho7 hg7)
      have hb7 := Lib.hid (grown_below ho6.out hg7 hsz6)
      have ho7 := Lib.hid ho7
      clear hg7
      have HR7 := Lib.hid (ho7.out.rd HW7.out)
      have hc7 := ho7.out.cap
      rw [List.length_append, HPL.out] at hc7
      rw [List.append_assoc, List.length_append, List.length_append, HL.out, HL2.out] at HR7
      rw [HL2.out]
      rw [show (put n).length + (n + m) = z + m by have := HZ.out; omega] at HR7
      rw [show (put n).length + (l.length + m) = z + m by have := HZ.out; have := HL.out; omega]
      go_wp2_with fail
      refine (takeBytes_ok _ _ _ _ _ _ HR7.out (by have := HL2.out; omega) (by omega) (by omega) (by omega) _ _ HB1.out).mono ?_
      rintro e w8 ⟨a8, c8, rfl, ho8, hb8⟩
      have ho8 := Lib.hid ho8
      have hb8 := Lib.hid hb8
      have HQ : Hid ((((put n).length + n : Nat) : Int) = (z : Int)) := Lib.hid (by rw [HZ.out])
      rw [HQ.out, HL.out]
      have HO8 := Lib.hid (ho8.out.rd HW.out)
      rw [HL.out] at HO8
      have hbw7 := Lib.hid (hbw6.out.trans (hb7.out.mono (bthen hb1.out (bthen hb2.out (bthen hb3.out hb4.out))).size))
      go_wp2_with fail
      refine (bytes_eq _ _ _ _ _ _ l _ HO8.out (HR.out.below (bthen hbw7.out hb8.out))).mono ?_
      rintro e w9 ⟨rfl, rfl⟩
      have HC9 := Lib.hid (HC.out.below (hb6.out.trans (hb7.out.trans (hb8.out.mono (by have := hb7.out.size; omega)))))
      have hbw8 := Lib.hid (bthen hbw7.out hb8.out)
      have hc2 := ho2.out.cap
      rw [HPL.out] at hc2
      go_wp2_with fail
      refine (takeBytes_ok _ _ _ _ _ _ HC9.out hc2 (by omega) h0 h1 _ _ HB2.out).mono ?_
      rintro e w10 ⟨a10, c10, rfl, ho10, hb10⟩
      have ho10 := Lib.hid ho10
      have hb10 := Lib.hid hb10
      go_wp2
      go_ret
      exact ⟨ret_eq (by simp), bthen hbw8.out hb10.out⟩
    · have HB2 := Lib.hid (tb_put_large (l := l) (n := n) (by omega) (most := most) (by omega))
      have hB2 : ((n : Int) == 0) = false := by simp [hB]
      clear hr hr2 hB
      go_enter Try.func10, Try.ntmps10
      go_wp2_with fail
      refine (copied_any a n c l _ HR.out (by omega)).mono ?_
      rintro e w1 ⟨a1, c1, rfl, ho1, hb1⟩
      have ho1 := Lib.hid ho1
      have hb1 := Lib.hid hb1
      go_wp2_with fail
      refine (putBytes_any _ _ _ l _ (ho1.out.rd HW.out) (by omega)).mono ?_
      rintro e w2 ⟨a2, c2, rfl, ho2, hb2⟩
      have ho2 := Lib.hid ho2
      have hb2 := Lib.hid hb2
      rw [HPL.out]
      go_wp2_with fail
      refine (awake_any _).mono ?_
      rintro e w3 ⟨rfl, hb3⟩
      have hb3 := Lib.hid hb3
      go_wp2_with fail
      refine (rputBytes_any _ _ _ l _ (HR.out.below (bthen hb1.out (bthen hb2.out hb3.out))) (by omega)).mono ?_
      rintro e w4 ⟨a4, c4, rfl, ho4, hb4⟩
      have ho4 := Lib.hid ho4
      have hb4 := Lib.hid hb4
      rw [HPL.out]
      have HC := Lib.hid ((ho2.out.rd HPW.out).below (bthen hb3.out hb4.out))
      rw [HPL.out] at HC
      have HC4 := Lib.hid (ho4.out.rd HPW.out)
      rw [HPL.out] at HC4
      go_wp2_with fail
      refine (bytes_eq _ _ _ _ _ _ _ _ HC.out HC4.out).mono ?_
      rintro e w5 ⟨rfl, rfl⟩
      go_wp2_with fail
      refine (copied_any _ _ _ _ _ HC.out (by omega)).mono ?_
      rintro e w6 ⟨a6, c6, rfl, ho6, hb6⟩
      have ho6 := Lib.hid ho6
      have hb6 := Lib.hid hb6
      have hsz6 := hb6.out.size
      have hbw6 := Lib.hid (bthen hb1.out (bthen hb2.out (bthen hb3.out (bthen hb4.out hb6.out))))
      go_wp2_with (at_builtin; refine app_rd _ _ E8 rfl rfl w4.heap.size _ _ rfl ho6.out _ _ _ l2 rfl (HR2.out.below hbw6.out) (by rw [HPL.out, HL2.out]; omega) (by omega) hsz6 ?_; intro a7 c7 w7 ho7 hg7)
      have hb7 := Lib.hid (grown_below ho6.out hg7 hsz6)
      have ho7 := Lib.hid ho7
      clear hg7
      have HR7 := Lib.hid (ho7.out.rd HW7.out)
      have hc7 := ho7.out.cap
      rw [List.length_append, HPL.out] at hc7
      rw [List.append_assoc, List.length_append, List.length_append, HL.out, HL2.out] at HR7
      rw [HL2.out]
      rw [show (put n).length + (n + m) = z + m by have := HZ.out; omega] at HR7
      rw [show (put n).length + (l.length + m) = z + m by have := HZ.out; have := HL.out; omega]
      go_wp2_with fail
      refine (takeBytes_ok _ _ _ _ _ _ HR7.out (by have := HL2.out; omega) (by omega) (by omega) (by omega) _ _ HB1.out).mono ?_
      rintro e w8 ⟨a8, c8, rfl, ho8, hb8⟩
      have ho8 := Lib.hid ho8
      have hb8 := Lib.hid hb8
      have HQ : Hid ((((put n).length + n : Nat) : Int) = (z : Int)) := Lib.hid (by rw [HZ.out])
      rw [HQ.out, HL.out]
      have HO8 := Lib.hid (ho8.out.rd HW.out)
      rw [HL.out] at HO8
      have hbw7 := Lib.hid (hbw6.out.trans (hb7.out.mono (bthen hb1.out (bthen hb2.out (bthen hb3.out hb4.out))).size))
      go_wp2_with fail
      refine (bytes_eq _ _ _ _ _ _ l _ HO8.out (HR.out.below (bthen hbw7.out hb8.out))).mono ?_
      rintro e w9 ⟨rfl, rfl⟩
      have HC9 := Lib.hid (HC.out.below (hb6.out.trans (hb7.out.trans (hb8.out.mono (by have := hb7.out.size; omega)))))
      have hbw8 := Lib.hid (bthen hbw7.out hb8.out)
      have hc2 := ho2.out.cap
      rw [HPL.out] at hc2
      go_wp2_with fail
      refine (takeBytes_err _ _ _ _ _ _ HC9.out h0 h1 _ HB2.out).mono ?_
      rintro e w10 ⟨rfl, rfl⟩
      go_wp2
      go_ret
      exact ⟨ret_eq (by simp; omega), hbw8.out⟩

end Go.Proofs.Ytjibameejjfdjaa
