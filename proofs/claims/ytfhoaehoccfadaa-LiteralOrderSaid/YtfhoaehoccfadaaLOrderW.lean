/-
  LiteralOrder: the walk.
-/
import Derived.Test.YtfhoaehoccfadaaLRepsW
import Derived.BigRegion
namespace Go.Proofs.Ytfhoaehoccfadaa
open Go.RowKit Go.Maps
set_option linter.unusedVariables false
set_option linter.unusedSimpArgs false

theorem RF.set2 {B N w l} (h : RF B N w l) {i e g n c xs} (hi : AtR l i e (.slice (some ⟨g, 0, none⟩) n c) xs) (a b : Nat) (x y : Value) :
    RF B N ((w.drew.setCell ⟨g, a, none⟩ x).setCell ⟨g, b, none⟩ y) (l.set i (some (e, .slice (some ⟨g, 0, none⟩) n c, (xs.set a x).set b y))) ∧ Below B w ((w.drew.setCell ⟨g, a, none⟩ x).setCell ⟨g, b, none⟩ y) := by
  have hd := h.below (Below.drew (Below.refl _ _))
  have h0 := hd.own i _ _ _ hi
  have hn := h.len hi
  subst hn
  have h2 := World.ownsRow.stored h0 a x
  have h3 := World.ownsRow.stored h2.1 b y
  have hg : w.drew.grownBy ((w.drew.setCell ⟨g, a, none⟩ x).setCell ⟨g, b, none⟩ y) (some g) :=
    ⟨h3.2.os.trans h2.2.os, h3.2.tape.trans h2.2.tape, h3.2.output.trans h2.2.output, Nat.le_trans h2.2.size h3.2.size, fun k hk hr => (h3.2.block k (Nat.lt_of_lt_of_le hk h2.2.size) hr).trans (h2.2.block k hk hr)⟩
  refine ⟨hd.turn hi (by rw [List.length_set, List.length_set]; exact h3.1) hg (.inl rfl), (Below.drew (Below.refl _ _)).trans (hd.grown hi hg)⟩
theorem RF.nofz {B N w l} (h : RF B N w l) {i e g n c xs} (hi : AtR l i e (.slice (some ⟨g, 0, none⟩) n c) xs) (j : Nat) : w.frozen? ⟨g, j, none⟩ = false := by
  have hn := h.len hi
  subst hn
  exact World.ownsRow.frozenAt (h.own i _ _ _ hi) j

/-- the patterns, K places on -/
def rotS (ss : List ByteArray) (K m : Nat) : List ByteArray := (List.range m).map fun i => ss.getD ((i + K) % ss.length) ByteArray.empty
theorem rotS_succ (ss K m) : rotS ss K (m + 1) = rotS ss K m ++ [ss.getD ((m + K) % ss.length) ByteArray.empty] := by simp [rotS, List.range_succ]
theorem rotS_len (ss K m) : (rotS ss K m).length = m := by simp [rotS]
theorem rotS_perm (ss : List ByteArray) (K : Nat) : (rotS ss K ss.length).Perm ss := by
  rcases Nat.eq_zero_or_pos ss.length with h0 | hp
  · have : ss = [] := List.eq_nil_of_length_eq_zero h0
    subst this; exact List.Perm.refl _
  · have hr : K % ss.length < ss.length := Nat.mod_lt _ hp
    have e : rotS ss K ss.length = ss.drop (K % ss.length) ++ ss.take (K % ss.length) := by
      refine List.ext_getElem (by rw [rotS_len, List.length_append, List.length_drop, List.length_take]; omega) fun i h1 h2 => ?_
      have hi : i < ss.length := by rw [rotS_len] at h1; exact h1
      simp only [rotS, List.getElem_map, List.getElem_range]
      have hm : (i + K) % ss.length = if i + K % ss.length < ss.length then i + K % ss.length else i + K % ss.length - ss.length := by
        rw [Nat.add_mod, Nat.mod_eq_of_lt hi]
        split
        · rename_i h; exact Nat.mod_eq_of_lt h
        · rename_i h; rw [Nat.mod_eq_sub_mod (by omega)]; exact Nat.mod_eq_of_lt (by omega)
      rw [hm, List.getElem_append]
      by_cases hc : i + K % ss.length < ss.length
      · rw [if_pos hc, dif_pos (by rw [List.length_drop]; omega)]
        simp [List.getD, hc, Nat.add_comm]
      · rw [if_neg hc, dif_neg (by rw [List.length_drop]; omega)]
        have h9 : i + K % ss.length - ss.length < ss.length := by omega
        simp only [List.getD, List.getElem?_eq_getElem h9, Option.getD_some, List.getElem_take, List.length_drop]
        congr 1; omega
    rw [e]
    refine List.perm_append_comm.trans ?_
    rw [List.take_append_drop]
theorem cnt_perm {ps qs : List (List Int)} (h : qs.Perm ps) (x : List Int) : cnt qs x = cnt ps x := by
  unfold cnt; exact (h.filter _).length_eq
theorem litH_perm {ps qs : List (List Int)} (h : qs.Perm ps) : litH qs = litH ps := by
  unfold litH
  rw [prefs_congr (fun x => h.mem_iff)]
  exact List.map_congr_left fun x _ => by rw [cnt_perm h]
theorem pats_perm {ss tt : List ByteArray} (h : tt.Perm ss) : (pats tt).Perm (pats ss) := h.map _

set_option maxRecDepth 100000 in
set_option maxHeartbeats 2500000 in
theorem walk_LiteralOrder (a0 : Option Addr) (len0 cap0 : Nat) (l0 : List ByteArray) (a1 : Int) (W : World) (w0 : RdS W a0 len0 l0) (w1 : (Lit.int .u8 a1).wf = true) :
    Calls Try.prog 5 #[.slice a0 len0 cap0, .int .u8 a1] W fun e w' => e = .returned (.bool true) ∧ Below W.heap.size W w' := by
  have HS0 := Lib.hid (small_any a0 len0 cap0 l0 W w0)
  have HL0 := Lib.hid w0.len
  have hmax := w0.max
  have hn1 := bd_u8 w1
  obtain ⟨K, rfl⟩ := Int.eq_ofNat_of_zero_le hn1.1
  have hwk : IntKind.i64.wrap (K : Int) = (K : Int) := IntWalk.i64_in _ (by omega)
  go_enter Try.func5, Try.ntmps5
  go_wp2_with fail
  refine HS0.out.mono ?_
  rintro e w3 ⟨⟨z, rfl, hz⟩, rfl⟩
  cases z with
  | false =>
    clear hz
    go_wp2
    go_ret
    exact ⟨rfl, Below.refl _ _⟩
  | true =>
  have HSM := Lib.hid (small_of (hz rfl))
  have HN : Hid (len0 ≤ 120) := Lib.hid (by have := HSM.out.n; have := HL0.out; omega)
  have hn120 := HN.out
  clear hz
  go_wp2
  go_loopg [5, 7] len0 (fun gg mv iv wr => ∃ (k : Nat) (la : Option Addr) (lc : Nat), k ≤ len0 ∧ gg = len0 - k ∧ iv = .int .i64 k ∧ mv = .slice la k lc ∧ RF W.heap.size (fun _ => False) wr [some (9, .slice la k lc, (rotS l0 K k).map Value.string)] ∧ Below W.heap.size W wr)
  case atStart => exact ⟨0, none, 0, by omega, rfl, rfl, rfl, RF.one (World.ownsRow_nil _ _ _ _) (fun g hg => by cases hg) (fun b hb => hb.elim) (Nat.le_refl _), Below.refl _ _⟩
  case round =>
    obtain ⟨k, la, lc, hk, rfl, rfl, rfl, hrf, hbl⟩ := hrel
    have HF := Lib.hid hrf
    have HBL := Lib.hid hbl
    clear hrf hbl
    by_cases hlt : k < len0
    · have hkz : (k : Int) < (len0 : Int) := by omega
      obtain ⟨r, hr⟩ : ∃ r : Nat, r = (k + K) % len0 := ⟨_, rfl⟩
      have hrl : r < len0 := by rw [hr]; exact Nat.mod_lt _ (by omega)
      have hmod : Int.tmod ((k : Int) + (K : Int)) (len0 : Int) = (r : Int) := by
        rw [hr]; rfl
      have hwr : IntKind.i64.wrap (r : Int) = (r : Int) := IntWalk.i64_in _ (by omega)
      have hn0 : ((len0 : Int) == 0) = false := by simp; omega
      have hn00 : ¬ (len0 : Int) = 0 := by omega
      have hn01 : ¬ len0 = 0 := by omega
      obtain ⟨b, off, rfl, hc⟩ := (w0.below HBL.out).cell r hrl
      have hrz : (r : Int) < (len0 : Int) := by omega
      have HSS : Hid (rotS l0 K (k + 1) = rotS l0 K k ++ [l0.getD r ByteArray.empty]) := Lib.hid (by rw [rotS_succ, HL0.out, ← hr])
      generalize l0.getD r ByteArray.empty = s at *
      clear hr
      go_wp2_with (at_builtin; refine RF.append HF.out (i := 0) rfl k (HF.out.len (i := 0) rfl) (below_alloc wr _) (.tmp 25) (.tmp 35) EST rfl rfl rfl _ 1 _ [.string s] rfl (RdG.lits wr 1 9 1 [.string s] rfl) (by intro u hu; rw [List.mem_singleton] at hu; subst hu; rfl) (by omega) (by decide) ?_; intro a6 c6 w6 hrf6 hg6 hbl6 hfr6; have HR6 := Lib.hid hrf6; have HB6 := Lib.hid hbl6; clear hrf6 hg6 hbl6 hfr6)
      go_roundg (len0 - (k + 1))
      case measure => omega
      case rel =>
        refine ⟨k + 1, a6, c6, by omega, rfl, by go_num, rfl, ?_, HBL.out.trans HB6.out⟩
        have h := HR6.out
        rw [HSS.out, List.map_append]
        exact h
    · have hkn : k = len0 := by omega
      subst hkn
      have HP0 : Hid ((rotS l0 K k).Perm l0) := Lib.hid (by rw [← HL0.out]; exact rotS_perm l0 K)
      have hdiv : Int.tdiv (k : Int) 2 = ((k / 2 : Nat) : Int) := rfl
      have hwd : IntKind.i64.wrap ((k / 2 : Nat) : Int) = ((k / 2 : Nat) : Int) := IntWalk.i64_in _ (by omega)
      obtain ⟨h2, hh2⟩ : ∃ h2 : Nat, h2 = k / 2 := ⟨_, rfl⟩
      rw [← hh2] at hdiv hwd
      have hk2 : 2 * h2 ≤ k := by omega
      clear hh2 hlt
      go_wp2
      go_loopg [8] h2 (fun gg iv wr => ∃ (i : Nat) (L : List ByteArray), i ≤ h2 ∧ gg = h2 - i ∧ iv = .int .i64 i ∧ L.Perm l0 ∧ RF W.heap.size (fun _ => False) wr [some (9, .slice la k lc, L.map Value.string)] ∧ Below W.heap.size W wr)
      case atStart => exact ⟨0, _, by omega, rfl, rfl, HP0.out, HF.out, HBL.out⟩
      case round =>
        clear HF HBL HP0
        obtain ⟨i, L, hi, rfl, rfl, hp, hrf, hbl⟩ := hrel
        have HF := Lib.hid hrf
        have HBL := Lib.hid hbl
        have HP := Lib.hid hp
        have HLL : Hid (L.length = k) := Lib.hid (by rw [hp.length_eq]; exact HL0.out)
        clear hrf hbl hp
        by_cases hlt : i < h2
        · obtain ⟨j, hj⟩ : ∃ j : Nat, j = k - 1 - i := ⟨_, rfl⟩
          have hjk : j < k := by omega
          have hij : i < j := by omega
          have hik : i < k := by omega
          have e1 : (k : Int) - 1 - (i : Int) = (j : Int) := by omega
          obtain ⟨g, rfl⟩ := HF.out.addr (i := 0) rfl (by rw [List.length_map, HLL.out]; omega)
          have hiL : i < L.length := by rw [HLL.out]; exact hik
          have hjL : j < L.length := by rw [HLL.out]; exact hjk
          have ci := HF.out.cell (i := 0) rfl (j := i) (u := .string L[i]) (by rw [List.getElem?_map, List.getElem?_eq_getElem hiL]; rfl)
          have cj := HF.out.cell (i := 0) rfl (j := j) (u := .string L[j]) (by rw [List.getElem?_map, List.getElem?_eq_getElem hjL]; rfl)
          have fi := HF.out.nofz (i := 0) rfl i
          have fj := HF.out.nofz (i := 0) rfl j
          have HPP : Hid (((L.set i L[j]).set j L[i]).Perm L) := Lib.hid (List.set_set_perm hiL hjL)
          have H2 := Lib.hid (HF.out.set2 (i := 0) rfl i j (.string L[j]) (.string L[i]))
          have hiz : (i : Int) < (h2 : Int) := by omega
          have hik2 : (i : Int) < (k : Int) := by omega
          have hjk2 : (j : Int) < (k : Int) := by omega
          generalize L[i] = si at *
          generalize L[j] = sj at *
          clear hiL hjL hj
          go_wp2
          go_region
          go_wp2
          go_roundg (h2 - (i + 1))
          case measure => omega
          case rel =>
            refine ⟨i + 1, (L.set i sj).set j si, by omega, rfl, by go_num, HPP.out.trans HP.out, ?_, HBL.out.trans H2.out.2⟩
            have h := H2.out.1
            rw [List.map_set, List.map_set]
            exact h
        · have hih : i = h2 := by omega
          subst hih
          have HMS : Hid (RdS wr la k L) := Lib.hid (rf_rdS HF.out (i := 0) rfl (by omega) (fun s hs => w0.wf s (HP.out.mem_iff.1 hs)))
          have HPP := Lib.hid (pats_perm HP.out)
          have HMEM : Hid (∀ x, x ∈ pats L ↔ x ∈ pats l0) := Lib.hid (fun x => HPP.out.mem_iff)
          have HPREF := Lib.hid (prefs_congr HMEM.out)
          have HCODE := Lib.hid (ocode_congr HMEM.out)
          clear hlt
          go_wp2_with fail
          refine (bytesOf_any a0 k cap0 l0 _ (w0.below HBL.out) (by have := HN.out; omega)).mono ?_
          rintro e r0 ⟨⟨ra0, rc0, rfl, hrows0⟩, hbr0⟩
          have HOF := Lib.hid (of_any ra0 k rc0 (pats l0) r0 hrows0 (by rw [pats_len]; have := HSM.out.n; omega))
          have HBR0 := Lib.hid (bthen HBL.out hbr0)
          have HMR0 := Lib.hid (HMS.out.below hbr0)
          clear hrows0 hbr0
          go_wp2_with fail
          refine HOF.out.mono ?_
          rcases HSM.out.code with hc | hc
          · have HC := Lib.hid hc
            have HC2 : Hid (ocode (pats L) = 0) := Lib.hid (by rw [HCODE.out]; exact HC.out)
            clear hc
            rintro e q0 hp0
            obtain ⟨hbq0, ac, an, cn, aa, ca, ah, ch, rfl, hm0, hh0⟩ := hp0.ok3 HC.out
            have HBQ := Lib.hid (bthen HBR0.out hbq0)
            obtain ⟨q1, hq1⟩ : ∃ q1, q1 = q0.alloc (.cells #[.int .i64 0, .slice ac 256 256, .slice an (prefs (pats l0)).length cn, .slice aa (prefs (pats l0)).length ca] 28) := ⟨_, rfl⟩
            have HQ1 := Lib.hid hq1
            have HB01 := Lib.hid (show Below q0.heap.size q0 q1 by rw [hq1]; exact below_alloc _ _)
            have HB1 := Lib.hid (bthen HBQ.out HB01.out)
            have HMR1 := Lib.hid ((HMR0.out.below hbq0).below HB01.out)
            have HM1 := Lib.hid (hm0.below HB01.out)
            have HH1 := Lib.hid (hh0.below HB01.out)
            have HX0 : Hid (q1.cell? ⟨q0.heap.size, 0, none⟩ = some (.int .i64 0)) := Lib.hid (by rw [hq1]; simp)
            have HX1 : Hid (q1.cell? ⟨q0.heap.size, 1, none⟩ = some (.slice ac 256 256)) := Lib.hid (by rw [hq1]; simp)
            have HX2 : Hid (q1.cell? ⟨q0.heap.size, 2, none⟩ = some (.slice an (prefs (pats l0)).length cn)) := Lib.hid (by rw [hq1]; simp)
            have HX3 : Hid (q1.cell? ⟨q0.heap.size, 3, none⟩ = some (.slice aa (prefs (pats l0)).length ca)) := Lib.hid (by rw [hq1]; simp)
            clear hp0 hbq0 hq1 hm0 hh0
            go_wp2_with fail
            rw [← HQ1.out]
            refine (bytesOf_any la k lc _ q1 HMR1.out (by omega)).mono ?_
            rintro e r1 ⟨⟨ra1, rc1, rfl, hrows1⟩, hbr1⟩
            have HOF2 := Lib.hid (of_any ra1 k rc1 _ r1 hrows1 (by rw [pats_len, HMR1.out.len]; omega))
            have HBR1 := Lib.hid hbr1
            clear hrows1 hbr1
            go_wp2_with fail
            refine HOF2.out.mono ?_
            rintro e q2 hp2
            obtain ⟨hbq2, ac2, an2, cn2, aa2, ca2, ah2, ch2, rfl, hm2, hh2⟩ := hp2.ok3 HC2.out
            rw [HPREF.out] at hm2 hh2 ⊢
            rw [litH_perm HPP.out] at hh2
            rw [litC_congr HMEM.out, litN_congr HMEM.out, litA_congr HMEM.out] at hm2
            have HQ12 := Lib.hid (bthen HBR1.out hbq2)
            obtain ⟨q3, hq3⟩ : ∃ q3, q3 = q2.alloc (.cells #[.int .i64 0, .slice ac2 256 256, .slice an2 (prefs (pats l0)).length cn2, .slice aa2 (prefs (pats l0)).length ca2] 28) := ⟨_, rfl⟩
            have HQ3 := Lib.hid hq3
            have HB23 := Lib.hid (show Below q2.heap.size q2 q3 by rw [hq3]; exact below_alloc _ _)
            have HQ13 := Lib.hid (bthen HQ12.out HB23.out)
            have HM2 := Lib.hid (hm2.below HB23.out)
            have HH2 := Lib.hid (hh2.below HB23.out)
            have HY0 : Hid (q3.cell? ⟨q2.heap.size, 0, none⟩ = some (.int .i64 0)) := Lib.hid (by rw [hq3]; simp)
            have HY1 : Hid (q3.cell? ⟨q2.heap.size, 1, none⟩ = some (.slice ac2 256 256)) := Lib.hid (by rw [hq3]; simp)
            have HY2 : Hid (q3.cell? ⟨q2.heap.size, 2, none⟩ = some (.slice an2 (prefs (pats l0)).length cn2)) := Lib.hid (by rw [hq3]; simp)
            have HY3 : Hid (q3.cell? ⟨q2.heap.size, 3, none⟩ = some (.slice aa2 (prefs (pats l0)).length ca2)) := Lib.hid (by rw [hq3]; simp)
            clear hp2 hbq2 hq3 hm2 hh2
            go_wp2_with fail
            rw [← HQ3.out]
            refine (awake_any q3).mono ?_
            rintro e x7 ⟨rfl, hb7⟩
            have HB37 := Lib.hid hb7
            have HB17 := Lib.hid (bthen HQ13.out hb7)
            clear hb7
            go_wp2_with fail
            refine (num_nil x7).mono ?_
            rintro e x8 ⟨rfl, rfl⟩
            go_wp2_with fail
            refine (num_nil x7).mono ?_
            rintro e x8 ⟨rfl, rfl⟩
            have hx0 := below_cell HB17.out HX0.out
            have hy0 := below_cell HB37.out HY0.out
            have hx1 := below_cell HB17.out HX1.out
            have hy1 := below_cell HB37.out HY1.out
            have hx2 := below_cell HB17.out HX2.out
            have hy2 := below_cell HB37.out HY2.out
            have hx3 := below_cell HB17.out HX3.out
            have hy3 := below_cell HB37.out HY3.out
            go_wp2_with fail
            refine (equal_same 0 ac ac2 256 256 256 an an2 (prefs (pats l0)).length cn cn2 aa aa2 (prefs (pats l0)).length ca ca2 _ _ _ x7 (HM1.out.below HB17.out) (HM2.out.below HB37.out)).mono ?_
            rintro e x9 ⟨rfl, hb9⟩
            have HB9 := Lib.hid (bthen HB1.out (bthen HB17.out hb9))
            have HH19 := Lib.hid (HH1.out.below (bthen HB17.out hb9))
            have HH29 := Lib.hid (HH2.out.below (bthen HB37.out hb9))
            clear hb9 hx0 hx1 hx2 hx3 hy0 hy1 hy2 hy3
            go_wp2_with fail
            refine (ints_any _ _ _ _ _ _ _ _ x9 HH19.out HH29.out).mono ?_
            rintro e x10 ⟨he, hb10⟩
            rw [decide_eq_true (rfl : litH (pats l0) = litH (pats l0))] at he
            subst he
            have HB10 := Lib.hid (bthen HB9.out hb10)
            clear hb10
            go_wp2
            go_ret
            exact ⟨rfl, HB10.out⟩
          · have HC := Lib.hid hc
            have HC2 : Hid (ocode (pats L) = 4) := Lib.hid (by rw [HCODE.out]; exact HC.out)
            clear hc
            rintro e q0 hp0
            obtain ⟨hbq0, rfl⟩ := hp0.bad3 HC.out (by decide)
            rw [show errV 4 = Value.iface 56 (.int .i64 4) from rfl]
            have HBQ := Lib.hid (bthen HBR0.out hbq0)
            obtain ⟨q1, hq1⟩ : ∃ q1, q1 = q0.alloc (.cells #[.int .i64 0, .slice none 0 0, .slice none 0 0, .slice none 0 0] 28) := ⟨_, rfl⟩
            have HQ1 := Lib.hid hq1
            have HB01 := Lib.hid (show Below q0.heap.size q0 q1 by rw [hq1]; exact below_alloc _ _)
            have HB1 := Lib.hid (bthen HBQ.out HB01.out)
            have HMR1 := Lib.hid ((HMR0.out.below hbq0).below HB01.out)
            have HX0 : Hid (q1.cell? ⟨q0.heap.size, 0, none⟩ = some (.int .i64 0)) := Lib.hid (by rw [hq1]; simp)
            have HX1 : Hid (q1.cell? ⟨q0.heap.size, 1, none⟩ = some (.slice none 0 0)) := Lib.hid (by rw [hq1]; simp)
            have HX2 : Hid (q1.cell? ⟨q0.heap.size, 2, none⟩ = some (.slice none 0 0)) := Lib.hid (by rw [hq1]; simp)
            have HX3 : Hid (q1.cell? ⟨q0.heap.size, 3, none⟩ = some (.slice none 0 0)) := Lib.hid (by rw [hq1]; simp)
            clear hp0 hbq0 hq1
            go_wp2_with fail
            rw [← HQ1.out]
            refine (bytesOf_any la k lc _ q1 HMR1.out (by omega)).mono ?_
            rintro e r1 ⟨⟨ra1, rc1, rfl, hrows1⟩, hbr1⟩
            have HOF2 := Lib.hid (of_any ra1 k rc1 _ r1 hrows1 (by rw [pats_len, HMR1.out.len]; omega))
            have HBR1 := Lib.hid hbr1
            clear hrows1 hbr1
            go_wp2_with fail
            refine HOF2.out.mono ?_
            rintro e q2 hp2
            obtain ⟨hbq2, rfl⟩ := hp2.bad3 HC2.out (by decide)
            rw [show errV 4 = Value.iface 56 (.int .i64 4) from rfl]
            have HQ12 := Lib.hid (bthen HBR1.out hbq2)
            obtain ⟨q3, hq3⟩ : ∃ q3, q3 = q2.alloc (.cells #[.int .i64 0, .slice none 0 0, .slice none 0 0, .slice none 0 0] 28) := ⟨_, rfl⟩
            have HQ3 := Lib.hid hq3
            have HB23 := Lib.hid (show Below q2.heap.size q2 q3 by rw [hq3]; exact below_alloc _ _)
            have HQ13 := Lib.hid (bthen HQ12.out HB23.out)
            have HY0 : Hid (q3.cell? ⟨q2.heap.size, 0, none⟩ = some (.int .i64 0)) := Lib.hid (by rw [hq3]; simp)
            have HY1 : Hid (q3.cell? ⟨q2.heap.size, 1, none⟩ = some (.slice none 0 0)) := Lib.hid (by rw [hq3]; simp)
            have HY2 : Hid (q3.cell? ⟨q2.heap.size, 2, none⟩ = some (.slice none 0 0)) := Lib.hid (by rw [hq3]; simp)
            have HY3 : Hid (q3.cell? ⟨q2.heap.size, 3, none⟩ = some (.slice none 0 0)) := Lib.hid (by rw [hq3]; simp)
            clear hp2 hbq2 hq3
            go_wp2_with fail
            rw [← HQ3.out]
            refine (awake_any q3).mono ?_
            rintro e x7 ⟨rfl, hb7⟩
            have HB37 := Lib.hid hb7
            have HB17 := Lib.hid (bthen HQ13.out hb7)
            clear hb7
            go_wp2_with fail
            refine (num_errno 4 x7).mono ?_
            rintro e x8 ⟨rfl, rfl⟩
            go_wp2_with fail
            refine (num_errno 4 x7).mono ?_
            rintro e x8 ⟨rfl, rfl⟩
            have hx0 := below_cell HB17.out HX0.out
            have hy0 := below_cell HB37.out HY0.out
            have hx1 := below_cell HB17.out HX1.out
            have hy1 := below_cell HB37.out HY1.out
            have hx2 := below_cell HB17.out HX2.out
            have hy2 := below_cell HB37.out HY2.out
            have hx3 := below_cell HB17.out HX3.out
            have hy3 := below_cell HB37.out HY3.out
            go_wp2_with fail
            refine (equal_same 0 none none 0 0 0 none none 0 0 0 none none 0 0 0 [] [] [] x7 (rdM_nil _) (rdM_nil _)).mono ?_
            rintro e x9 ⟨rfl, hb9⟩
            have HB9 := Lib.hid (bthen HB1.out (bthen HB17.out hb9))
            clear hb9 hx0 hx1 hx2 hx3 hy0 hy1 hy2 hy3
            go_wp2_with fail
            refine (ints_any none none 0 0 0 0 [] [] x9 ⟨rfl, by omega, fun i hi => by omega, by simp⟩ ⟨rfl, by omega, fun i hi => by omega, by simp⟩).mono ?_
            rintro e x10 ⟨rfl, hb10⟩
            have HB10 := Lib.hid (bthen HB9.out hb10)
            clear hb10
            go_wp2
            go_ret
            exact ⟨rfl, HB10.out⟩

end Go.Proofs.Ytfhoaehoccfadaa
