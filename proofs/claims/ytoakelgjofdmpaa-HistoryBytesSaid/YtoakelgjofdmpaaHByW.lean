/-
  Graph.Put: the bytes of a graph; the reference's number and Put.
-/
import Derived.Test.YtoakelgjofdmpaaHByP
import Derived.Test.YtoakelgjofdmpaaHHeads
import Derived.Lib.ConvBytes
namespace Go.Proofs.Ytoakelgjofdmpaa
open Go.RowKit
set_option linter.unusedVariables false
set_option linter.unusedSimpArgs false

theorem bytesW_below (w : World) (e : TypeId) (s : ByteArray) : Below w.heap.size w (Lib.bytesWorld w e s) :=
  ⟨rfl, rfl, rfl, by rw [Lib.bytesWorld_size]; omega, fun k hk => Lib.bytesWorld_at_old w e s k hk⟩
theorem bytesW_rd (w : World) (e : TypeId) (s : ByteArray) (hs : s.size ≤ 9223372036854775807) : Rd (Lib.bytesWorld w e s) .u8 (some ⟨w.heap.size, 0, none⟩) s.size (bsOf s) := by
  refine ⟨bsOf_len s, hs, fun i hi => ⟨_, _, rfl, ?_⟩, fun x hx => WalkArith.wf_u8 (bsOf_bd s x hx)⟩
  rw [Nat.zero_add, Lib.bytesWorld_cell w e s i hi]
  have hi2 : i < s.data.toList.length := hi
  unfold bsOf
  simp only [List.getD, List.getElem?_map, List.getElem?_eq_getElem hi2, Option.map_some, Option.getD_some]

theorem cmE_len {x : Cm} (h : okC x) : (cmE x).length ≤ 400 := by
  obtain ⟨h1, h2, h3, h4, h5⟩ := h
  unfold cmE
  have a1 := put_len_ten (n := x.1.length) (by omega)
  have a2 := putP_len x.1 (fun p hp => by have := h2 p hp; omega)
  have a3 := put_len_ten (n := x.2.1.toNat) (by omega)
  have a4 := put_len_ten (n := x.2.2.size) (by omega)
  simp only [List.length_append, bsOf_len]
  omega
theorem cmsE_len {L : List Cm} (h : ∀ x ∈ L, okC x) : (cmsE L).length ≤ 400 * L.length := by
  induction L with
  | nil => simp [cmsE]
  | cons x r ih =>
    have h1 := cmE_len (h x (by simp))
    have h2 := ih (fun y hy => h y (by simp [hy]))
    simp only [cmsE, List.flatMap_cons, List.length_append, List.length_cons] at *
    omega
theorem good_ok {L : List Cm} (hL : GoodL L) (hw : WfL L) (hn : L.length ≤ 65536) : ∀ x ∈ L, okC x := fun x hx => by
  obtain ⟨i, hi⟩ := List.getElem?_of_mem hx
  exact (good_okC hL hw hn hi).1

/-- the copy of a commit stays while bytes are appended -/
theorem step_fin {w Wi Wj Wk : World} {v sv : Value} {l : List Int} {xs : List Value} (hO : Own Wi w.heap.size 5 .u8 v l) (hS : Row Wi 0 27 3 sv 1 xs) (hB : Below w.heap.size w Wi) (hj : Below Wi.heap.size Wi Wj) (hg : Wj.grownBy Wk v.ownBlock) :
    Row Wk 0 27 3 sv 1 xs ∧ Below w.heap.size w Wk := by
  have h1 : Row Wj w.heap.size 5 1 v l.length (l.map (Value.int .u8)) := Own.below hO hj
  exact ⟨Row.keep (Row.below hS hj) h1 (by decide) hg, (hB.trans (hj.mono hB.size)).trans (grown_below (Own.below hO hj) hg (Nat.le_trans hB.size hj.size))⟩
theorem sc (g : Nat) {w : World} {u0 u1 u2 : Value} (h : Row w 0 27 3 (.slice (some ⟨g, 0, none⟩) 1 1) 1 [u0, u1, u2]) : w.cell? ⟨g, 0, none⟩ = some u0 ∧ w.cell? ⟨g, 1, none⟩ = some u1 ∧ w.cell? ⟨g, 2, none⟩ = some u2 :=
  ⟨World.ownsRow.cellAt h 0 (by omega), World.ownsRow.cellAt h 1 (by omega), World.ownsRow.cellAt h 2 (by omega)⟩

set_option maxRecDepth 100000 in
set_option maxHeartbeats 2000000 in
theorem putG_any (T : Nat → Prop) (bg : Nat) (L : List Cm) (w : World) (hg : RG w T bg L) (hL : GoodL L) :
    Calls Try.prog 35 #[.pointer (some ⟨bg, 0, none⟩)] w (MadeL w.heap.size (encL L) w) := by
  have hne : ∀ (a : Addr) (w : World), (binOp .eql 28 (.pointer (some a)) (.pointer none)).run Try.prog w = .ok (.bool false) w := fun a w => by kernel_rfl
  obtain ⟨ga, gc, hgc, hgl⟩ := hg.ex
  have hn1 := hg.n1
  have HOK := Lib.hid (good_ok hL hgl.wf hn1)
  have HGL0 := Lib.hid hgl
  obtain ⟨N, hN⟩ : ∃ N, N = L.length := ⟨_, rfl⟩
  have HN := Lib.hid hN
  rw [← hN] at hgc hn1 HGL0
  have HGC := Lib.hid hgc
  have HC10 := Lib.hid (put_len_ten (n := N) (by omega))
  have hcv := fun (w : World) (s : ByteArray) => Lib.run_convert_string_bytes (P := Try.prog) w 9 66 5 s Try.underlying9 Try.underlying66 Try.underlying5
  clear hg hL hN hgl
  go_enter Try.func35, Try.ntmps35
  go_wp2_with fail
  refine (put_any (N : Int) w (by omega) (by omega)).mono ?_
  rintro e w1 ⟨pa, pc, rfl, ho1, hb1⟩
  rw [Int.toNat_natCast] at ho1 ⊢
  have HO1 := Lib.hid ho1
  have HB1 := Lib.hid hb1
  have hgc1 := below_cell hb1 HGC.out
  clear ho1 hb1 hgc
  go_wp2
  clear hgc1
  go_loopg [3, 22] N (fun gg ov iv wr => ∃ (i : Nat) (a : Option Addr) (c : Nat) (out : List Int), i ≤ N ∧ gg = N - i ∧ iv = .int .i64 i ∧ ov = .slice a out.length c ∧ out = put N ++ cmsE (L.take i) ∧ Own wr w.heap.size 5 .u8 (.slice a out.length c) out ∧ Below w.heap.size w wr)
  case atStart => exact ⟨0, pa, pc, put N, by omega, rfl, rfl, rfl, by simp [cmsE], HO1.out, HB1.out⟩
  case round =>
    clear HO1 HB1
    obtain ⟨i, a, c, out, hi, rfl, rfl, rfl, hout, ho, hb⟩ := hrel
    have HOUT := Lib.hid hout
    have HO := Lib.hid ho
    have HB := Lib.hid hb
    have HBZ := Lib.hid hb.size
    have hol : out.length ≤ 10 + 400 * i := by
      have h1 := HC10.out
      have h2 := cmsE_len (L := L.take i) (fun x hx => HOK.out x (List.mem_of_mem_take hx))
      rw [hout, List.length_append]
      rw [List.length_take] at h2
      omega
    clear hout ho hb
    by_cases hlt : i < N
    · have hiz : (i : Int) < (N : Int) := by omega
      obtain ⟨b, off, qa, qn, qc, x, hx, hxp, rfl, h1, h2, h3, hpr, hpn⟩ := HGL0.out.parsN hlt
      have hok := HOK.out x (List.mem_of_getElem? hx)
      have HTK := Lib.hid (cmsE_take hx)
      obtain ⟨ps, t, s⟩ := x
      simp only at hxp h2 h3
      rw [← hxp] at hpr hpn
      subst hpn
      obtain ⟨g1, g2, g3, g4, g5⟩ := hok
      simp only at g1 g2 g3 g4 g5
      have k1 := below_cell HB.out h1
      have k2 := below_cell HB.out h2
      have k3 := below_cell HB.out h3
      have HPR := Lib.hid hpr
      have HPB := Lib.hid g2
      clear hx hxp hpr h1 h2 h3 g2
      obtain ⟨g, hgg⟩ : ∃ g, g = wr.heap.size := ⟨_, rfl⟩
      obtain ⟨g, hgg⟩ : ∃ g, g = wr.heap.size := ⟨_, rfl⟩
      obtain ⟨g, hgg⟩ : ∃ g, g = wr.heap.size := ⟨_, rfl⟩
      obtain ⟨g, hgg⟩ : ∃ g, g = wr.heap.size := ⟨_, rfl⟩
      obtain ⟨w2, hw2⟩ : ∃ w2, w2 = wr.alloc (.cells #[.slice qa ps.length qc, .int .i64 t, .string s] 27) := ⟨_, rfl⟩
      have hb2 : Below wr.heap.size wr w2 := by rw [hw2]; exact below_alloc _ _
      have HS2 : Hid (Row w2 0 27 3 (.slice (some ⟨g, 0, none⟩) 1 1) 1 [.slice qa ps.length qc, .int .i64 t, .string s]) := Lib.hid (by
        rw [hw2, hgg]; exact World.ownsRow_lit wr #[.slice qa ps.length qc, .int .i64 t, .string s] 1 (Nat.zero_le _) (by decide) rfl)
      have HW2 : Hid (Below w.heap.size w w2) := Lib.hid (HB.out.trans (hb2.mono HBZ.out))
      have HO2 : Hid (Own w2 w.heap.size 5 .u8 (.slice a out.length c) out) := Lib.hid (Own.below HO.out hb2)
      have HE2 := Lib.hid hw2
      have HGG := Lib.hid hgg
      have z2 := (sc _ HS2.out).1
      clear hw2 hb2 hgg
      go_upto_region 7 with fail
      rw [← HE2.out, ← HGG.out]
      clear k1 k2 k3
      go_wp2_with fail
      refine (put_any (ps.length : Int) w2 (by omega) (by omega)).mono ?_
      rintro e w3 ⟨pa3, pc3, rfl, ho3, hb3⟩
      rw [Int.toNat_natCast] at ho3 ⊢
      have HO3 := Lib.hid ho3
      have HB3 := Lib.hid hb3
      have HL3 := Lib.hid (put_len_ten (n := ps.length) (by omega))
      clear ho3 hb3 z2
      go_wp2_with (at_builtin; refine app_rd (.tmp 26) (.tmp 31) E8 rfl rfl w.heap.size _ _ rfl (Own.below HO2.out HB3.out) _ _ _ _ rfl (HO3.out.rd (put_wf _)) (by have := HL3.out; omega) (by omega) (Nat.le_trans HW2.out.size HB3.out.size) ?_; intro a4 c4 w4 ho4 hg4; have hfin := step_fin HO2.out HS2.out HW2.out HB3.out hg4; have z4 := (sc _ hfin.1).1; have HS4 := Lib.hid hfin.1; have HW4 := Lib.hid hfin.2; have HO4 := Lib.hid ho4; clear ho4 hg4 hfin)
      clear z4
      obtain ⟨o4, ho4⟩ : ∃ o4, o4 = out ++ put ps.length := ⟨_, rfl⟩
      have hl4 : o4.length ≤ 20 + 400 * i := by rw [ho4, List.length_append]; have := HL3.out; omega
      have HE4 := Lib.hid ho4
      rw [show out.length + (put ps.length).length = o4.length by rw [ho4, List.length_append]]
      rw [← ho4] at HO4
      clear ho4
      go_loopg [3, 36] ps.length (fun gg ov jv wx => ∃ (j : Nat) (a : Option Addr) (c : Nat) (o : List Int), j ≤ ps.length ∧ gg = ps.length - j ∧ jv = .int .i64 j ∧ ov = .slice a o.length c ∧ o = o4 ++ putP (ps.take j) ∧ Own wx w.heap.size 5 .u8 (.slice a o.length c) o ∧ Row wx 0 27 3 (.slice (some ⟨g, 0, none⟩) 1 1) 1 [.slice qa ps.length qc, .int .i64 t, .string s] ∧ Below w.heap.size w wx)
      case atStart => exact ⟨0, a4, c4, o4, by omega, rfl, rfl, rfl, by simp [putP], HO4.out, HS4.out, HW4.out⟩
      case round =>
        clear HO4 HS4 HW4 HO2 HS2 HW2 HO HB3 HO3
        obtain ⟨j, a, c, o, hj, rfl, rfl, rfl, ho, hown, hrow, hbw⟩ := hrel
        have HO5 := Lib.hid hown
        have HS5 := Lib.hid hrow
        have HW5 := Lib.hid hbw
        have HOE := Lib.hid ho
        have hol5 : o.length ≤ 20 + 400 * i + 10 * j := by
          have h2 := putP_len (ps.take j) (fun p hp => by have := HPB.out p (List.mem_of_mem_take hp); omega)
          rw [ho, List.length_append]
          rw [List.length_take] at h2
          omega
        clear ho hown hrow hbw
        by_cases hjl : j < ps.length
        · have hjz : (j : Int) < (ps.length : Int) := by omega
          have hpb := HPB.out _ (getD_mem (d := 0) hjl)
          have HTJ := Lib.hid (putP_take ps hjl)
          obtain ⟨pb, po, rfl, hcp⟩ := (HPR.out.below HW5.out).cell j hjl
          generalize ps.getD j 0 = pp at *
          obtain ⟨pp, rfl⟩ := Int.eq_ofNat_of_zero_le hpb.1
          have hpp : (pp : Int) ≤ 9223372036854775807 := hpb.2
          rw [Int.toNat_natCast] at HTJ
          clear hpb
          go_wp2_with fail
          refine (put_any (pp : Int) wr (by omega) (by omega)).mono ?_
          rintro e w6 ⟨pa6, pc6, rfl, ho6, hb6⟩
          rw [Int.toNat_natCast] at ho6 ⊢
          have HO6 := Lib.hid ho6
          have HB6 := Lib.hid hb6
          have HL6 := Lib.hid (put_len_ten (n := pp) (by omega))
          clear ho6 hb6 hcp
          go_wp2_with (at_builtin; refine app_rd (.tmp 40) (.tmp 43) E8 rfl rfl w.heap.size _ _ rfl (Own.below HO5.out HB6.out) _ _ _ _ rfl (HO6.out.rd (put_wf _)) (by have := HL6.out; omega) (by omega) (Nat.le_trans HW5.out.size HB6.out.size) ?_; intro a7 c7 w7 ho7 hg7; have hfin := step_fin HO5.out HS5.out HW5.out HB6.out hg7; have HS7 := Lib.hid hfin.1; have HW7 := Lib.hid hfin.2; have HO7 := Lib.hid ho7; clear ho7 hg7 hfin)
          go_roundg (ps.length - (j + 1))
          case measure => omega
          case rel => exact ⟨j + 1, a7, c7, o ++ put pp, by omega, rfl, by go_num, by rw [List.length_append], by rw [HOE.out, HTJ.out, List.append_assoc], HO7.out, HS7.out, HW7.out⟩
        · have hjn : ¬ ((j : Int) < (ps.length : Int)) := by omega
          have HOF : Hid (o = o4 ++ putP ps) := Lib.hid (by rw [HOE.out, List.take_of_length_le (by omega)])
          obtain ⟨tn, htn⟩ := Int.eq_ofNat_of_zero_le g3
          subst htn
          have z5 := (sc _ HS5.out).2.1
          go_wp2_with fail
          refine (put_any (tn : Int) wr (by omega) (by omega)).mono ?_
          rintro e w6 ⟨pa6, pc6, rfl, ho6, hb6⟩
          rw [Int.toNat_natCast] at ho6 ⊢
          have HO6 := Lib.hid ho6
          have HB6 := Lib.hid hb6
          have HL6 := Lib.hid (put_len_ten (n := tn) (by omega))
          clear ho6 hb6 z5
          go_upto_region 14 with (at_builtin; refine app_rd (.tmp 46) (.tmp 50) E8 rfl rfl w.heap.size _ _ rfl (Own.below HO5.out HB6.out) _ _ _ _ rfl (HO6.out.rd (put_wf _)) (by have := HL6.out; omega) (by omega) (Nat.le_trans HW5.out.size HB6.out.size) ?_; intro a7 c7 w7 ho7 hg7; have hfin := step_fin HO5.out HS5.out HW5.out HB6.out hg7; have HS7 := Lib.hid hfin.1; have HW7 := Lib.hid hfin.2; have HO7 := Lib.hid ho7; clear ho7 hg7 hfin)
          have z7 := (sc _ HS7.out).2.2
          obtain ⟨o7, ho7⟩ : ∃ o7, o7 = o ++ put tn := ⟨_, rfl⟩
          have hl7 : o7.length ≤ 120 + 400 * i := by rw [ho7, List.length_append]; have := HL6.out; omega
          have HE7 := Lib.hid ho7
          rw [show o.length + (put tn).length = o7.length by rw [ho7, List.length_append]]
          rw [← ho7] at HO7
          clear ho7
          obtain ⟨r8, hr8⟩ : ∃ r8, r8 = put s.size ++ bsOf s := ⟨_, rfl⟩
          have HE8 := Lib.hid hr8
          have hl8 : r8.length ≤ 210 := by
            have h1 := put_len_ten (n := s.size) (by omega)
            rw [hr8, List.length_append, bsOf_len]; omega
          have HPBY : Hid (∀ (cap m : Nat), m = s.size → Calls Try.prog 48 #[.slice (some ⟨w7.heap.size, 0, none⟩) m cap] (Lib.bytesWorld w7 5 s) (MadeL (Lib.bytesWorld w7 5 s).heap.size r8 (Lib.bytesWorld w7 5 s))) := Lib.hid (fun cap m hm => by
            rw [hr8]
            subst hm
            exact putBytes_any (some ⟨w7.heap.size, 0, none⟩) s.size cap (bsOf s) (Lib.bytesWorld w7 5 s) (bytesW_rd w7 5 s (by omega)) (by omega))
          go_wp2_with fail
          refine (HPBY.out _ _ rfl).mono ?_
          rintro e w8 ⟨pa8, pc8, rfl, ho8, hb8⟩
          have HO8 := Lib.hid ho8
          have HB8 := Lib.hid (bthen (bytesW_below w7 5 s) hb8)
          have HWF8 : Hid (∀ x ∈ r8, (Lit.int .u8 x).wf = true) := Lib.hid (by
            rw [HE8.out]
            intro x hx
            rcases List.mem_append.1 hx with hx | hx
            · exact put_wf _ x hx
            · exact WalkArith.wf_u8 (bsOf_bd s x hx))
          clear ho8 hb8 z7 hr8
          go_wp2_with (at_builtin; refine app_rd (.tmp 52) (.tmp 56) E8 rfl rfl w.heap.size _ _ rfl (Own.below HO7.out HB8.out) _ _ _ _ rfl (HO8.out.rd HWF8.out) (by omega) (by omega) (Nat.le_trans HW7.out.size HB8.out.size) ?_; intro a9 c9 w9 ho9 hg9; have hfin := step_fin HO7.out HS7.out HW7.out HB8.out hg9; have HW9 := Lib.hid hfin.2; have HO9 := Lib.hid ho9; clear ho9 hg9 hfin)
          go_roundg (N - (i + 1))
          case measure => omega
          case rel =>
            refine ⟨i + 1, a9, c9, o7 ++ r8, by omega, rfl, by go_num, by simp only [List.length_append], ?_, HO9.out, HW9.out⟩
            rw [HTK.out, HE8.out, HE7.out, HOF.out, HE4.out, HOUT.out]
            simp [cmE]
    · have hin := show i = N by omega
      have HF : Hid (out = encL L) := Lib.hid (by rw [HOUT.out, hin, HN.out, List.take_length]; rfl)
      clear hin
      go_wp2
      go_ret
      exact ⟨a, c, ret_eq (by rw [← HF.out]; rfl), by rw [← HF.out]; exact HO.out, HB.out⟩

end Go.Proofs.Ytoakelgjofdmpaa
