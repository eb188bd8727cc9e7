/-
  the reference's number and Put: the bytes of a list of commits.
-/
import Derived.Test.YtoakelgjofdmpaaHByW
import Derived.Lib.AppendStr
namespace Go.Proofs.Ytoakelgjofdmpaa
open Go.RowKit
set_option linter.unusedVariables false
set_option linter.unusedSimpArgs false

set_option maxRecDepth 100000 in
set_option maxHeartbeats 1000000 in
theorem number_any (n : Int) (w : World) (h0 : 0 ≤ n) (h1 : n ≤ 9223372036854775807) :
    Calls Try.prog 51 #[.int .i64 n] w (Enc w.heap.size n.toNat w) := by
  obtain ⟨N, rfl⟩ := Int.eq_ofNat_of_zero_le h0
  rw [Int.toNat_natCast]
  have hten := put_len_ten (n := N) (by omega)
  obtain ⟨B, hB⟩ : ∃ B, B = w.heap.size := ⟨_, rfl⟩
  have HB := Lib.hid hB
  rw [← hB]; clear hB
  go_enter Try.func51, Try.ntmps51
  go_wp2
  go_loopw [0, 3] (fun nv ov wr => ∃ (m : Nat) (a : Option Addr) (q c : Nat) (l : List Int), nv = .int .i64 m ∧ m ≤ N ∧ ov = .slice a q c ∧ q = l.length ∧ Own wr B 5 .u8 (.slice a q c) l ∧ Below B w wr ∧ put N = l ++ put m) (fun nv _ _ => (intOf nv).toNat)
  case atStart => exact ⟨N, _, 0, _, [], rfl, by omega, rfl, rfl, Own.nil _ _ _ _, Below.refl _ _, rfl⟩
  case round =>
    obtain ⟨m, a, q, c, l, rfl, hm, rfl, hq, hown, hbl, hput⟩ := hrel
    have hlen : q + 1 ≤ 10 := by
      have h := congrArg List.length hput
      have h2 := put_len_pos m
      rw [List.length_append] at h
      omega
    have HQ := Lib.hid hq
    have HO := Lib.hid hown
    have HBL := Lib.hid hbl
    have HP := Lib.hid hput
    have hsz : B ≤ wr.heap.size := by have := hbl.size; have := HB.out; omega
    clear hq hown hbl hput
    by_cases hm1 : 128 ≤ m
    · have hmz : (128 : Int) ≤ (m : Int) := by omega
      have hrem : (m : Int).tmod 128 = ((m % 128 : Nat) : Int) := by rw [Int.tmod_eq_emod_of_nonneg (by omega)]; omega
      have hw8 : IntKind.u8.wrap (128 + ((m % 128 : Nat) : Int)) = 128 + ((m % 128 : Nat) : Int) := by rw [IntKind.wrap_u8]; omega
      have hquo : (m : Int).tdiv 128 = ((m / 128 : Nat) : Int) := by rw [Int.tdiv_eq_ediv_of_nonneg (by omega)]; omega
      have hm128 : m % 128 < 128 := Nat.mod_lt _ (by decide)
      obtain ⟨r, hr⟩ : ∃ r, r = m % 128 := ⟨_, rfl⟩
      obtain ⟨m2, hm2⟩ : ∃ m2, m2 = m / 128 := ⟨_, rfl⟩
      have HRM : Hid (put m = (128 + (r : Int)) :: put m2) := Lib.hid (by rw [put_big (by omega), hr, hm2]; congr 1; omega)
      have HM2 : Hid (m2 < m) := Lib.hid (by rw [hm2]; exact Nat.div_lt_self (by omega) (by decide))
      rw [← hr] at hrem hw8 hm128
      rw [← hm2] at hquo
      have HR := Lib.hid (Rd.one wr .u8 5 (128 + (r : Int)) (WalkArith.wf_u8 (by omega)))
      have hwq : IntKind.i64.wrap (m2 : Int) = (m2 : Int) := IntWalk.i64_in _ (by have := HM2.out; omega)
      clear hr hm2
      go_wp2_with (at_builtin; refine app_rd (.tmp 6) (.tmp 11) E8 rfl rfl B _ l rfl (HO.out.alloc _) _ _ _ _ rfl HR.out (by rw [← HQ.out]; simp; omega) (by omega) (by simp; omega) ?_; intro a' c' w2 ho2 hg2)
      have hb2 := Lib.hid (grown_below (HO.out.alloc _) hg2 (by simp; omega))
      have hb2' := Lib.hid ((Below.alloc (Below.refl B wr) hsz _).trans hb2.out)
      have ho2 := Lib.hid ho2
      clear hg2
      go_roundw
      case rel =>
        refine ⟨m2, a', l.length + 1, c', l ++ [128 + (r : Int)], by go_num, by have := HM2.out; omega, rfl, by simp, by simpa using ho2.out, HBL.out.trans hb2'.out, ?_⟩
        rw [HP.out, HRM.out, List.append_assoc]
        rfl
      case measure => have := HM2.out; simp [intOf]; omega
    · have hmz : ¬ ((128 : Int) ≤ (m : Int)) := by omega
      have HR := Lib.hid (Rd.one wr .u8 5 (m : Int) (WalkArith.wf_u8 (by omega)))
      go_wp2_with (at_builtin; refine app_rd (.tmp 15) (.tmp 18) E8 rfl rfl B _ l rfl (HO.out.alloc _) _ _ _ _ rfl HR.out (by rw [← HQ.out]; simp; omega) (by omega) (by simp; omega) ?_; intro a' c' w2 ho2 hg2)
      have hb2 := Lib.hid (grown_below (HO.out.alloc _) hg2 (by simp; omega))
      have hb2' := Lib.hid ((Below.alloc (Below.refl B wr) hsz _).trans hb2.out)
      have ho2 := Lib.hid ho2
      clear hg2
      go_ret
      have hN : put N = l ++ [(m : Int)] := by
        rw [HP.out, put_small (by omega)]
      refine ⟨a', c', ret_eq (by rw [hN]; simp), by rw [hN]; simpa using ho2.out, HBL.out.trans hb2'.out⟩

/-- append of a string's bytes -/
theorem app_str {w : World} {ops : Array Oper} {rest : List Oper} {o : Oper} {a : Act} {Q : Exit → Act → World → Prop} (sl x : Operand) (hgd : o.guard = none)
    (ho : o.op = .call { callee := .builtin .append, args := #[sl, x], argTypes := #[66, 9] })
    (base : Nat) (v : Value) (l : List Int) (hs : a.eval sl = v) (hown : Own w base 5 .u8 v l) (s : ByteArray) (hx : a.eval x = .string s)
    (hlen : l.length + s.size ≤ 140737488355328) (hbase : base ≤ w.heap.size)
    (h : ∀ a' c' w', Own w' base 5 .u8 (.slice a' (l ++ bsOf s).length c') (l ++ bsOf s) → w.grownBy w' v.ownBlock → wpList Try.prog ops Q rest (a.put o.dst (.slice a' (l ++ bsOf s).length c')) w') : wpList Try.prog ops Q (o :: rest) a w := by
  obtain ⟨i, hi, hz, hsz, hby⟩ := E8.hi
  refine Lib.wpList_append_own_string w hgd sl x 66 9 ho base 5 i E8.ht Try.underlying9 hi hz hsz hby v l.length (l.map (Value.int .u8)) hs hown s hx (by unfold maxLen; omega) hlen hbase ?_
  intro v' w' h1 hg _
  have e : (l ++ bsOf s).map (Value.int .u8) = l.map (Value.int .u8) ++ Lib.strCells s := by
    rw [List.map_append]
    congr 1
    unfold bsOf Lib.strCells
    rw [List.map_map]; rfl
  have h2 : Own w' base 5 .u8 v' (l ++ bsOf s) := by
    show Row w' base 5 1 v' (l ++ bsOf s).length ((l ++ bsOf s).map (Value.int .u8))
    rw [e, List.length_append, bsOf_len]; exact h1
  obtain ⟨a', c', rfl⟩ := Own.form h2
  exact h a' c' w' h2 hg
theorem bstep {w Wi Wj Wk : World} {v : Value} {l : List Int} (hO : Own Wi w.heap.size 5 .u8 v l) (hB : Below w.heap.size w Wi) (hj : Below Wi.heap.size Wi Wj) (hg : Wj.grownBy Wk v.ownBlock) : Below w.heap.size w Wk :=
  (hB.trans (hj.mono hB.size)).trans (grown_below (Own.below hO hj) hg (Nat.le_trans hB.size hj.size))

set_option maxRecDepth 100000 in
set_option maxHeartbeats 2000000 in
theorem refPut_any (T : Nat → Prop) (al : Option Addr) (cl : Nat) (L : List Cm) (w : World) (hl : RdC w T al L.length L) (hn1 : L.length ≤ 65536) (hL : GoodL L) :
    Calls Try.prog 38 #[.slice al L.length cl] w (MadeL w.heap.size (encL L) w) := by
  have HOK := Lib.hid (good_ok hL hl.wf hn1)
  have HGL0 := Lib.hid hl
  obtain ⟨N, hN⟩ : ∃ N, N = L.length := ⟨_, rfl⟩
  have HN := Lib.hid hN
  rw [← hN] at hn1 HGL0 ⊢
  have HC10 := Lib.hid (put_len_ten (n := N) (by omega))
  clear hl hL hN
  go_enter Try.func38, Try.ntmps38
  go_wp2_with fail
  refine (number_any (N : Int) w (by omega) (by omega)).mono ?_
  rintro e w1 ⟨pa, pc, rfl, ho1, hb1⟩
  rw [Int.toNat_natCast] at ho1 ⊢
  have HO1 := Lib.hid ho1
  have HB1 := Lib.hid hb1
  clear ho1 hb1
  go_wp2
  go_loopg [3, 4] N (fun gg ov iv wr => ∃ (i : Nat) (a : Option Addr) (c : Nat) (out : List Int), i ≤ N ∧ gg = N - i ∧ iv = .int .i64 i ∧ ov = .slice a out.length c ∧ out = put N ++ cmsE (L.take i) ∧ Own wr w.heap.size 5 .u8 (.slice a out.length c) out ∧ Below w.heap.size w wr)
  case atStart => exact ⟨0, pa, pc, put N, by omega, rfl, rfl, rfl, by simp [cmsE], HO1.out, HB1.out⟩
  case round =>
    clear HO1 HB1
    obtain ⟨i, a, c, out, hi, rfl, rfl, rfl, hout, ho, hb⟩ := hrel
    have HOUT := Lib.hid hout
    have HO := Lib.hid ho
    have HB := Lib.hid hb
    have hol : out.length ≤ 10 + 400 * i := by
      have h1 := HC10.out
      have h2 := cmsE_len (L := L.take i) (fun x hx => HOK.out x (List.mem_of_mem_take hx))
      rw [hout, List.length_append]
      rw [List.length_take] at h2
      omega
    clear hout ho hb
    by_cases hlt : i < N
    · have hiz : (i : Int) < (N : Int) := by omega
      obtain ⟨b, off, qa, qn, qc, x, hx, hxp, rfl, h1, h2, h3, hpr, hpn⟩ := HGL0.out.parsN hlt
      have hok := HOK.out x (List.mem_of_getElem? hx)
      have HTK := Lib.hid (cmsE_take hx)
      obtain ⟨ps, t, s⟩ := x
      simp only at hxp h2 h3
      rw [← hxp] at hpr hpn
      subst hpn
      obtain ⟨g1, g2, g3, g4, g5⟩ := hok
      simp only at g1 g2 g3 g4 g5
      have k1 := below_cell HB.out h1
      have HH := Lib.hid (And.intro h1 (And.intro h2 h3))
      have HPR := Lib.hid hpr
      have HPB := Lib.hid g2
      clear hx hxp hpr h1 h2 h3 g2
      go_wp2_with fail
      refine (number_any (ps.length : Int) wr (by omega) (by omega)).mono ?_
      rintro e w3 ⟨pa3, pc3, rfl, ho3, hb3⟩
      rw [Int.toNat_natCast] at ho3 ⊢
      have HO3 := Lib.hid ho3
      have HB3 := Lib.hid hb3
      have HL3 := Lib.hid (put_len_ten (n := ps.length) (by omega))
      clear ho3 hb3 k1
      go_wp2_with (at_builtin; refine app_rd (.tmp 15) (.tmp 22) E8 rfl rfl w.heap.size _ _ rfl (Own.below HO.out HB3.out) _ _ _ _ rfl (HO3.out.rd (put_wf _)) (by have := HL3.out; omega) (by omega) (Nat.le_trans HB.out.size HB3.out.size) ?_; intro a4 c4 w4 ho4 hg4; have HW4 := Lib.hid (bstep HO.out HB.out HB3.out hg4); have HO4 := Lib.hid ho4; clear ho4 hg4)
      obtain ⟨o4, ho4⟩ : ∃ o4, o4 = out ++ put ps.length := ⟨_, rfl⟩
      have hl4 : o4.length ≤ 20 + 400 * i := by rw [ho4, List.length_append]; have := HL3.out; omega
      have HE4 := Lib.hid ho4
      rw [show out.length + (put ps.length).length = o4.length by rw [ho4, List.length_append]]
      rw [← ho4] at HO4
      clear ho4
      go_loopg [3, 5] ps.length (fun gg ov jv wx => ∃ (j : Nat) (a : Option Addr) (c : Nat) (o : List Int), j ≤ ps.length ∧ gg = ps.length - j ∧ jv = .int .i64 j ∧ ov = .slice a o.length c ∧ o = o4 ++ putP (ps.take j) ∧ Own wx w.heap.size 5 .u8 (.slice a o.length c) o ∧ Below w.heap.size w wx)
      case atStart => exact ⟨0, a4, c4, o4, by omega, rfl, rfl, rfl, by simp [putP], HO4.out, HW4.out⟩
      case round =>
        clear HO4 HW4 HO HB3 HO3
        obtain ⟨j, a, c, o, hj, rfl, rfl, rfl, ho, hown, hbw⟩ := hrel
        have HO5 := Lib.hid hown
        have HW5 := Lib.hid hbw
        have HOE := Lib.hid ho
        have k1 := below_cell hbw HH.out.1
        have hol5 : o.length ≤ 20 + 400 * i + 10 * j := by
          have h2 := putP_len (ps.take j) (fun p hp => by have := HPB.out p (List.mem_of_mem_take hp); omega)
          rw [ho, List.length_append]
          rw [List.length_take] at h2
          omega
        clear ho hown hbw
        by_cases hjl : j < ps.length
        · have hjz : (j : Int) < (ps.length : Int) := by omega
          have hpb := HPB.out _ (getD_mem (d := 0) hjl)
          have HTJ := Lib.hid (putP_take ps hjl)
          obtain ⟨pb, po, rfl, hcp⟩ := (HPR.out.below HW5.out).cell j hjl
          generalize ps.getD j 0 = pp at *
          obtain ⟨pp, rfl⟩ := Int.eq_ofNat_of_zero_le hpb.1
          have hpp : (pp : Int) ≤ 9223372036854775807 := hpb.2
          rw [Int.toNat_natCast] at HTJ
          clear hpb
          go_wp2_with fail
          refine (number_any (pp : Int) wr (by omega) (by omega)).mono ?_
          rintro e w6 ⟨pa6, pc6, rfl, ho6, hb6⟩
          rw [Int.toNat_natCast] at ho6 ⊢
          have HO6 := Lib.hid ho6
          have HB6 := Lib.hid hb6
          have HL6 := Lib.hid (put_len_ten (n := pp) (by omega))
          clear ho6 hb6 hcp k1
          go_wp2_with (at_builtin; refine app_rd (.tmp 34) (.tmp 43) E8 rfl rfl w.heap.size _ _ rfl (Own.below HO5.out HB6.out) _ _ _ _ rfl (HO6.out.rd (put_wf _)) (by have := HL6.out; omega) (by omega) (Nat.le_trans HW5.out.size HB6.out.size) ?_; intro a7 c7 w7 ho7 hg7; have HW7 := Lib.hid (bstep HO5.out HW5.out HB6.out hg7); have HO7 := Lib.hid ho7; clear ho7 hg7)
          go_roundg (ps.length - (j + 1))
          case measure => omega
          case rel => exact ⟨j + 1, a7, c7, o ++ put pp, by omega, rfl, by go_num, by rw [List.length_append], by rw [HOE.out, HTJ.out, List.append_assoc], HO7.out, HW7.out⟩
        · have hjn : ¬ ((j : Int) < (ps.length : Int)) := by omega
          have HOF : Hid (o = o4 ++ putP ps) := Lib.hid (by rw [HOE.out, List.take_of_length_le (by omega)])
          obtain ⟨tn, htn⟩ := Int.eq_ofNat_of_zero_le g3
          subst htn
          have k2 := below_cell HW5.out HH.out.2.1
          go_wp2_with fail
          refine (number_any (tn : Int) wr (by omega) (by omega)).mono ?_
          rintro e w6 ⟨pa6, pc6, rfl, ho6, hb6⟩
          rw [Int.toNat_natCast] at ho6 ⊢
          have HO6 := Lib.hid ho6
          have HB6 := Lib.hid hb6
          have HL6 := Lib.hid (put_len_ten (n := tn) (by omega))
          clear ho6 hb6 k1 k2
          go_upto_region 11 with (at_builtin; refine app_rd (.tmp 45) (.tmp 51) E8 rfl rfl w.heap.size _ _ rfl (Own.below HO5.out HB6.out) _ _ _ _ rfl (HO6.out.rd (put_wf _)) (by have := HL6.out; omega) (by omega) (Nat.le_trans HW5.out.size HB6.out.size) ?_; intro a7 c7 w7 ho7 hg7; have HW7 := Lib.hid (bstep HO5.out HW5.out HB6.out hg7); have HO7 := Lib.hid ho7; clear ho7 hg7)
          obtain ⟨o7, ho7⟩ : ∃ o7, o7 = o ++ put tn := ⟨_, rfl⟩
          have hl7 : o7.length ≤ 120 + 400 * i := by rw [ho7, List.length_append]; have := HL6.out; omega
          have HE7 := Lib.hid ho7
          rw [show o.length + (put tn).length = o7.length by rw [ho7, List.length_append]]
          rw [← ho7] at HO7
          have k3 := below_cell HW7.out HH.out.2.2
          clear ho7
          go_wp2_with fail
          refine (number_any (s.size : Int) w7 (by omega) (by omega)).mono ?_
          rintro e w8 ⟨pa8, pc8, rfl, ho8, hb8⟩
          rw [Int.toNat_natCast] at ho8 ⊢
          have HO8 := Lib.hid ho8
          have HB8 := Lib.hid hb8
          have HL8 := Lib.hid (put_len_ten (n := s.size) (by omega))
          clear ho8 hb8 k3
          go_upto_region 12 with (at_builtin; refine app_rd (.tmp 53) (.tmp 60) E8 rfl rfl w.heap.size _ _ rfl (Own.below HO7.out HB8.out) _ _ _ _ rfl (HO8.out.rd (put_wf _)) (by have := HL8.out; omega) (by omega) (Nat.le_trans HW7.out.size HB8.out.size) ?_; intro a9 c9 w9 ho9 hg9; have HW9 := Lib.hid (bstep HO7.out HW7.out HB8.out hg9); have HO9 := Lib.hid ho9; clear ho9 hg9)
          obtain ⟨o9, ho9⟩ : ∃ o9, o9 = o7 ++ put s.size := ⟨_, rfl⟩
          have hl9 : o9.length ≤ 130 + 400 * i := by rw [ho9, List.length_append]; have := HL8.out; omega
          have HE9 := Lib.hid ho9
          rw [show o7.length + (put s.size).length = o9.length by rw [ho9, List.length_append]]
          rw [← ho9] at HO9
          have k4 := below_cell HW9.out HH.out.2.2
          clear ho9
          go_wp2_with (at_builtin; refine app_str (.tmp 62) (.tmp 67) rfl rfl w.heap.size _ _ rfl HO9.out s rfl (by omega) HW9.out.size ?_; intro a10 c10 w10 ho10 hg10; have HW10 := Lib.hid (bstep HO9.out HW9.out (Below.refl _ _) hg10); have HO10 := Lib.hid ho10; clear ho10 hg10 k4)
          go_roundg (N - (i + 1))
          case measure => omega
          case rel =>
            refine ⟨i + 1, a10, c10, o9 ++ bsOf s, by omega, rfl, by go_num, by first | rfl | simp only [List.length_append], ?_, HO10.out, HW10.out⟩
            rw [HTK.out, HE9.out, HE7.out, HOF.out, HE4.out, HOUT.out]
            simp [cmE]
    · have hin := show i = N by omega
      have HF : Hid (out = encL L) := Lib.hid (by rw [HOUT.out, hin, HN.out, List.take_length]; rfl)
      clear hin
      go_wp2
      go_ret
      exact ⟨a, c, ret_eq (by rw [← HF.out]; rfl), by rw [← HF.out]; exact HO.out, HB.out⟩

end Go.Proofs.Ytoakelgjofdmpaa
