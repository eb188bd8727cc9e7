/-
  the walks of VarintGrows and VarintPuts.
-/
import Derived.Test.YtjibameejjfdjaaVSize
import Derived.Test.YtjibameejjfdjaaVRefPut
namespace Go.Proofs.Ytjibameejjfdjaa
open Go.RowKit

set_option maxRecDepth 100000 in
set_option maxHeartbeats 1000000 in
theorem walk_VarintGrows (a b : Int) (w : World) (wa : (Lit.int .u64 a).wf = true) (wb : (Lit.int .u64 b).wf = true) :
    Calls Try.prog 7 #[.int .u64 a, .int .u64 b] w fun e w' => e = .returned (.bool true) ∧ Below w.heap.size w w' := by
  obtain ⟨ha0, ha1⟩ := bd_u64 wa
  obtain ⟨hb0, hb1⟩ := bd_u64 wb
  have HA := Lib.hid (fun w => size_any a w ha0 ha1)
  have HB := Lib.hid (fun w => size_any b w hb0 hb1)
  have p1 := put_len_pos a.toNat
  have p2 := put_len_ten (n := a.toNat) (by omega)
  have p3 : a ≤ b → (put a.toNat).length ≤ (put b.toNat).length := fun h => put_len_mono (by omega)
  generalize (put a.toNat).length = s at *
  generalize (put b.toNat).length = t at *
  clear wa wb ha1 hb1
  by_cases hab : b < a
  · clear p3
    go_enter Try.func7, Try.ntmps7
    go_wp2_with fail
    refine (awake_any _).mono ?_
    rintro e w1 ⟨rfl, hb1⟩
    have hb1 := Lib.hid hb1
    go_wp2_with fail
    refine (HA.out _).mono ?_
    rintro e w2 ⟨rfl, rfl⟩
    go_wp2_with fail
    refine (HA.out _).mono ?_
    rintro e w2 ⟨rfl, rfl⟩
    go_wp2
    go_ret
    exact ⟨ret_eq (by simp; omega), hb1.out⟩
  · have hs := p3 (by omega)
    clear p3
    go_enter Try.func7, Try.ntmps7
    go_wp2_with fail
    refine (awake_any _).mono ?_
    rintro e w1 ⟨rfl, hb1⟩
    have hb1 := Lib.hid hb1
    go_wp2_with fail
    refine (HA.out _).mono ?_
    rintro e w2 ⟨rfl, rfl⟩
    go_wp2_with fail
    refine (HB.out _).mono ?_
    rintro e w2 ⟨rfl, rfl⟩
    go_wp2_with fail
    refine (HA.out _).mono ?_
    rintro e w2 ⟨rfl, rfl⟩
    go_wp2_with fail
    refine (HA.out _).mono ?_
    rintro e w2 ⟨rfl, rfl⟩
    go_wp2
    go_ret
    exact ⟨ret_eq (by simp; omega), hb1.out⟩

set_option maxRecDepth 100000 in
set_option maxHeartbeats 1000000 in
theorem walk_VarintPuts (n : Int) (w : World) (wn : (Lit.int .u64 n).wf = true) :
    Calls Try.prog 9 #[.int .u64 n] w fun e w' => e = .returned (.bool true) ∧ Below w.heap.size w w' := by
  obtain ⟨h0, h1⟩ := bd_u64 wn
  have HS := Lib.hid (fun w => size_any n w h0 h1)
  have HP := Lib.hid (fun w => put_any n w h0 h1)
  have HR := Lib.hid (fun w => refPut_any n w h0 h1)
  have HW := Lib.hid (put_wf n.toNat)
  clear wn h1 h0
  go_enter Try.func9, Try.ntmps9
  go_wp2_with fail
  refine (HR.out _).mono ?_
  rintro e w1 ⟨a1, c1, rfl, ho1, hb1⟩
  have ho1 := Lib.hid ho1
  have hb1 := Lib.hid hb1
  go_wp2_with fail
  refine (awake_any _).mono ?_
  rintro e w2 ⟨rfl, hb2⟩
  have hb2 := Lib.hid hb2
  go_wp2_with fail
  refine (HP.out _).mono ?_
  rintro e w3 ⟨a3, c3, rfl, ho3, hb3⟩
  have ho3 := Lib.hid ho3
  have hb3 := Lib.hid hb3
  go_wp2_with fail
  refine (bytes_eq _ _ _ _ _ _ _ _ (ho3.out.rd HW.out) ((ho1.out.rd HW.out).below (bthen hb2.out hb3.out))).mono ?_
  rintro e w4 ⟨rfl, rfl⟩
  go_wp2_with fail
  refine (HS.out _).mono ?_
  rintro e w4 ⟨rfl, rfl⟩
  go_wp2
  go_ret
  exact ⟨by simp, bthen hb1.out (bthen hb2.out hb3.out)⟩

end Go.Proofs.Ytjibameejjfdjaa
