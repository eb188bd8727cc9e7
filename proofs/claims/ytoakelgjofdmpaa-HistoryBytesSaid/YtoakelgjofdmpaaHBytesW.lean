/-
  the walk of HistoryBytes.
-/
import Derived.Test.YtoakelgjofdmpaaHByK
import Derived.Test.YtoakelgjofdmpaaHIs
namespace Go.Proofs.Ytoakelgjofdmpaa
open Go.RowKit
set_option linter.unusedVariables false
set_option linter.unusedSimpArgs false

theorem encL_len {L : List Cm} (h : ∀ x ∈ L, okC x) (hn : L.length ≤ 65536) : (encL L).length ≤ 140737488300000 := by
  have h1 := put_len_ten (n := L.length) (by omega)
  have h2 := cmsE_len h
  unfold encL
  rw [List.length_append]; omega
theorem encL_wf {L : List Cm} : ∀ x ∈ encL L, (Lit.int .u8 x).wf = true := by
  intro x hx
  refine WalkArith.wf_u8 ?_
  unfold encL at hx
  rcases List.mem_append.1 hx with hx | hx
  · exact put_bytes _ x hx
  · obtain ⟨y, _, hy⟩ := List.mem_flatMap.1 hx
    unfold cmE at hy
    rcases List.mem_append.1 hy with hy | hy
    · exact put_bytes _ x hy
    · rcases List.mem_append.1 hy with hy | hy
      · obtain ⟨p, _, hp⟩ := List.mem_flatMap.1 hy
        exact put_bytes _ x hp
      · rcases List.mem_append.1 hy with hy | hy
        · exact put_bytes _ x hy
        · rcases List.mem_append.1 hy with hy | hy
          · exact put_bytes _ x hy
          · exact bsOf_bd _ x hy

set_option maxRecDepth 100000 in
set_option maxHeartbeats 4000000 in
theorem walk_HistoryBytes (a0 : Option Addr) (n cp : Nat) (list : List Cm) (a1 : Option Addr) (n1 c1 : Nat) (l : List Int) (w : World) (hr : RdC w (fun i => i < w.heap.size) a0 n list) (hl : Rd w .u8 a1 n1 l) (_hb : n1 * 1 ≤ 140737488351232) (hc : n1 ≤ c1) :
    Calls Try.prog 9 #[.slice a0 n cp, .slice a1 n1 c1] w fun e w' => e = .returned (.bool true) ∧ Below w.heap.size w w' := by
  have HR := Lib.hid hr
  have HLL := Lib.hid hl
  have HLB := Lib.hid (u8_bd hl)
  have HCC := Lib.hid hc
  have hmx := hr.max
  have hmx1 := hl.max
  have HGL := Lib.hid (buildL_good list)
  have hpn : ∀ w, (binOp .eql 28 (.pointer none) (.pointer none)).run Try.prog w = .ok (.bool true) w := fun w => by kernel_rfl
  have hps : ∀ (a : Addr) w, (binOp .neq 28 (.pointer (some a)) (.pointer none)).run Try.prog w = .ok (.bool true) w := fun a w => by kernel_rfl
  have hne0 : ∀ w, (binOp .neq 33 .nilIface .nilIface).run Try.prog w = .ok (.bool false) w := fun w => by kernel_rfl
  have hneE : ∀ (k : Int) w, (binOp .neq 33 (.iface 63 (.int .i64 k)) .nilIface).run Try.prog w = .ok (.bool true) w := fun k w => by kernel_rfl
  clear hr hl _hb hc
  go_enter Try.func9, Try.ntmps9
  go_wp2_with fail
  refine (alive_any _).mono ?_
  rintro e w1 ⟨rfl, hb1⟩
  have HB1 := Lib.hid hb1
  clear hb1
  by_cases h60 : 60 < n
  · have h61 : decide ((60 : Int) < (n : Int)) = true := decide_eq_true (by omega)
    have h62 : decide (60 < n) = true := decide_eq_true h60
    go_wp2
    go_ret
    exact ⟨rfl, HB1.out⟩
  have h61 : decide ((60 : Int) < (n : Int)) = false := decide_eq_false (by omega)
  have h62 : decide (60 < n) = false := decide_eq_false h60
  by_cases h200 : 2000 < n1
  · have h63 : decide ((2000 : Int) < (n1 : Int)) = true := decide_eq_true (by omega)
    have h64 : decide (2000 < n1) = true := decide_eq_true h200
    go_wp2
    go_ret
    exact ⟨rfl, HB1.out⟩
  have h63 : decide ((2000 : Int) < (n1 : Int)) = false := decide_eq_false (by omega)
  have h64 : decide (2000 < n1) = false := decide_eq_false h200
  have H200 : Hid (n1 ≤ 2000) := Lib.hid (by omega)
  clear h60 h200
  go_wp2_with fail
  refine (build_any (fun i => i < w.heap.size) a0 n cp list w1 (HR.out.below HB1.out) (fun i hi => Nat.lt_of_lt_of_le hi HB1.out.size)).mono ?_
  rintro e w2 ⟨bg, al, cl, S, T, rfl, htw⟩
  have HB2 := Lib.hid (bthen HB1.out htw.bel)
  have HG := Lib.hid htw.g
  have HLC := Lib.hid htw.l
  clear htw
  generalize buildL list = L at *
  have HENC := Lib.hid (encL_len (good_ok HGL.out HLC.out.wf HG.out.n1) HG.out.n1)
  have HTP := Lib.hid (takeR_put HGL.out HLC.out.wf HG.out.n1)
  go_wp2_with fail
  refine (putG_any S bg L w2 HG.out.rg HGL.out).mono ?_
  rintro e w3 ⟨pa, pc, rfl, ho3, hb3⟩
  have HRB := Lib.hid (ho3.rd encL_wf)
  have hcap := ho3.cap
  have HC3 := Lib.hid hb3
  have HB3 := Lib.hid (bthen HB2.out hb3)
  have HTK := Lib.hid (takeH_any pa (encL L).length pc (encL L) w3 HRB.out hcap (by have := HENC.out; omega))
  clear ho3 hb3 hcap
  obtain ⟨en, hen⟩ : ∃ en, en = (encL L).length := ⟨_, rfl⟩
  have HEN := Lib.hid hen
  rw [← hen] at HTK HRB ⊢
  clear hen
  go_wp2_with fail
  refine HTK.out.mono ?_
  rintro e w4 ⟨hb4, hpost⟩
  have HC4 := Lib.hid (bthen HC3.out hb4)
  have HD4 := Lib.hid hb4
  have HB4 := Lib.hid (bthen HB3.out hb4)
  clear hb4 HTK
  rcases hpost with ⟨L2, bh, hL2, rfl, hgh⟩ | ⟨hno, _⟩
  rotate_left
  · exact absurd (HTP.out.symm.trans hno) (by simp)
  obtain rfl : L2 = L := Option.some.inj (hL2.symm.trans HTP.out)
  have HGH := Lib.hid hgh
  clear hL2 hgh
  go_wp2_with fail
  refine (refPut_any T al cl L2 w4 (HLC.out.below HC4.out) HG.out.n1 HGL.out).mono ?_
  rintro e w5 ⟨pa5, pc5, rfl, ho5, hb5⟩
  have HR5 := Lib.hid (ho5.rd encL_wf)
  have HD5 := Lib.hid hb5
  have HB5 := Lib.hid (bthen HB4.out hb5)
  rw [← HEN.out] at HR5 ⊢
  clear ho5 hb5
  go_wp2_with fail
  refine (bytes_eq pa pa5 en en pc pc5 (encL L2) w5 ((HRB.out.below HD4.out).below HD5.out) HR5.out).mono ?_
  rintro e w6 ⟨rfl, rfl⟩
  go_wp2_with fail
  refine (is_any _ T bh al cl L2 w5 (HGH.out.below HD5.out).rg ((HLC.out.below HC4.out).below HD5.out) HGL.out).mono ?_
  rintro e w6 ⟨rfl, hb6⟩
  have HB6 := Lib.hid (bthen HB5.out hb6)
  clear hb6
  have HTS := Lib.hid (takeH_any a1 n1 c1 l w6 (HLL.out.below HB6.out) HCC.out (by have := H200.out; omega))
  go_wp2_with fail
  refine HTS.out.mono ?_
  rintro e w7 ⟨hb7, hpost⟩
  have HB7 := Lib.hid (bthen HB6.out hb7)
  clear hb7 HTS
  rcases hpost with ⟨L3, bx, hL3, rfl, hgx⟩ | ⟨hno, rfl⟩
  · obtain ⟨hl3, hg3⟩ := takeR_inv HLB.out hL3
    have HGX := Lib.hid hgx
    have HL3 := Lib.hid hl3
    have HG3 := Lib.hid hg3
    clear hL3 hgx hl3 hg3
    go_wp2_with fail
    refine (putG_any _ bx L3 w7 HGX.out.rg HG3.out).mono ?_
    rintro e w8 ⟨pa8, pc8, rfl, ho8, hb8⟩
    have HR8 := Lib.hid (ho8.rd encL_wf)
    have HB8 := Lib.hid (bthen HB7.out hb8)
    clear ho8 hb8
    have HLN : Hid ((encL L3).length = n1) := Lib.hid (by rw [← HL3.out]; exact HLL.out.len)
    rw [HLN.out] at HR8 ⊢
    rw [← HL3.out] at HR8
    go_wp2_with fail
    refine (bytes_eq pa8 a1 n1 n1 pc8 c1 l w8 HR8.out (HLL.out.below HB8.out)).mono ?_
    rintro e w9 ⟨rfl, rfl⟩
    go_wp2
    go_ret
    exact ⟨rfl, HB8.out⟩
  · clear hno
    go_wp2_with fail
    refine (is_errno 4 (by decide) w7).mono ?_
    rintro e w8 ⟨rfl, rfl⟩
    go_wp2
    go_ret
    exact ⟨rfl, HB7.out⟩

end Go.Proofs.Ytoakelgjofdmpaa
