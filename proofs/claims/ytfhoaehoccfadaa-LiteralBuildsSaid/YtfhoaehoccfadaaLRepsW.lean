/-
  LiteralRepeats: the walk.
-/
import Derived.Test.YtfhoaehoccfadaaLEqual
import Derived.Test.YtfhoaehoccfadaaLCongr
namespace Go.Proofs.Ytfhoaehoccfadaa
open Go.RowKit Go.Maps
set_option linter.unusedVariables false
set_option linter.unusedSimpArgs false

theorem cnt_append (ps qs : List (List Int)) (x : List Int) : cnt (ps ++ qs) x = cnt ps x + cnt qs x := by
  unfold cnt; rw [List.filter_append, List.length_append]
theorem cnt_reps (ps : List (List Int)) (x : List Int) : ∀ t, cnt (List.replicate t ps).flatten x = t * cnt ps x
  | 0 => by simp [cnt]
  | t + 1 => by rw [List.replicate_succ, List.flatten_cons, cnt_append, cnt_reps ps x t, Nat.succ_mul]; omega
theorem mem_reps {ps : List (List Int)} {t : Nat} (ht : 0 < t) (x : List Int) : x ∈ (List.replicate t ps).flatten ↔ x ∈ ps := by
  rw [List.mem_flatten]
  constructor
  · rintro ⟨l, hl, hx⟩; rw [List.eq_of_mem_replicate hl] at hx; exact hx
  · intro h; exact ⟨ps, List.mem_replicate.2 ⟨by omega, rfl⟩, h⟩
theorem pats_reps (ss : List ByteArray) (t : Nat) : pats (List.replicate t ss).flatten = (List.replicate t (pats ss)).flatten := by
  unfold pats; rw [List.map_flatten, List.map_replicate]

theorem EST : EltG Try.prog 22 9 (.string ByteArray.empty) 1 16 := ⟨Try.underlying22, info_parts (by kernel_rfl), rfl, by decide⟩
theorem rdS_G {w : World} {a n ss} (h : RdS w a n ss) : RdG w 1 a n (ss.map Value.string) :=
  ⟨by rw [List.length_map, h.len, Nat.mul_one], fun j u hu => by
    rw [List.getElem?_map, Option.map_eq_some_iff] at hu
    obtain ⟨s, hs, rfl⟩ := hu
    have hj : j < n := by rw [← h.len]; exact (List.getElem?_eq_some_iff.1 hs).1
    obtain ⟨b, off, ha, hc⟩ := h.cell j hj
    exact ⟨b, off, ha, by rw [hc]; simp [List.getD, hs]⟩⟩
theorem rf_rdS {B N w l} (h : RF B N w l) {i e a n c} {ss : List ByteArray} (hi : AtR l i e (.slice a n c) (ss.map Value.string)) (hn : n ≤ 9223372036854775807) (hw : ∀ s ∈ ss, s.size ≤ 9223372036854775807) : RdS w a n ss := by
  have hl := h.len hi
  rw [List.length_map] at hl
  refine ⟨hl.symm, hn, fun j hj => ?_, hw⟩
  obtain ⟨g, rfl⟩ := h.addr hi (by rw [List.length_map]; omega)
  refine ⟨g, 0, rfl, ?_⟩
  rw [Nat.zero_add]
  exact h.cell hi (by rw [List.getElem?_map, List.getElem?_eq_getElem (show j < ss.length by omega)]; simp [List.getD, show j < ss.length by omega])
theorem rdM_nil (w : World) : RdM w none 0 none 0 none 0 [] [] [] := ⟨⟨rfl, by omega, fun i hi => by omega, by simp⟩, ⟨rfl, by omega, fun i hi => by omega⟩, ⟨rfl, by omega, fun i hi => by omega⟩⟩
theorem OfPost.ok3 {ps w e w'} (h : OfPost ps w e w') (h0 : ocode ps = 0) : Below w.heap.size w w' ∧ ∃ ac an cn aa ca ah ch, e = .returned (.tuple #[.agg #[.int .i64 0, .slice ac 256 256, .slice an (prefs ps).length cn, .slice aa (prefs ps).length ca], .slice ah (prefs ps).length ch, .nilIface]) ∧
      RdM w' ac 256 an (prefs ps).length aa (prefs ps).length (litC ps) (litN ps) (litA ps) ∧ Rd w' .i64 ah (prefs ps).length (litH ps) := by
  obtain ⟨hb, ⟨h1, _⟩ | ⟨_, h2⟩⟩ := h
  · exact absurd h0 h1
  · exact ⟨hb, h2⟩
theorem OfPost.bad3 {ps w e w'} {k : Int} (h : OfPost ps w e w') (hk : ocode ps = k) (h0 : k ≠ 0) : Below w.heap.size w w' ∧ e = .returned (.tuple #[.agg #[.int .i64 0, .slice none 0 0, .slice none 0 0, .slice none 0 0], .slice none 0 0, errV k]) := by
  obtain ⟨hb, ⟨_, h2⟩ | ⟨h1, _⟩⟩ := h
  · rw [hk] at h2; exact ⟨hb, h2⟩
  · exact absurd (hk ▸ h1) h0

set_option maxRecDepth 100000 in
set_option maxHeartbeats 2500000 in
theorem walk_LiteralRepeats (a0 : Option Addr) (len0 cap0 : Nat) (l0 : List ByteArray) (a1 : Int) (W : World) (w0 : RdS W a0 len0 l0) (w1 : (Lit.int .u8 a1).wf = true) :
    Calls Try.prog 6 #[.slice a0 len0 cap0, .int .u8 a1] W fun e w' => e = .returned (.bool true) ∧ Below W.heap.size W w' := by
  have HS0 := Lib.hid (small_any a0 len0 cap0 l0 W w0)
  have HL0 := Lib.hid w0.len
  have hmax := w0.max
  have hn1 := bd_u8 w1
  obtain ⟨K, rfl⟩ := Int.eq_ofNat_of_zero_le hn1.1
  obtain ⟨R, hR⟩ : ∃ R : Nat, R = K % 4 := ⟨_, rfl⟩
  have hR4 : R < 4 := by omega
  have hrem : Int.tmod (K : Int) 4 = (R : Int) := by rw [hR]; rfl
  have hwu : IntKind.u8.wrap (R : Int) = (R : Int) := by rw [IntKind.wrap_u8]; omega
  have hwr : IntKind.i64.wrap (R : Int) = (R : Int) := IntWalk.i64_in _ (by omega)
  obtain ⟨T, hT⟩ : ∃ T : Nat, T = 1 + R := ⟨_, rfl⟩
  have hTR : (1 : Int) + (R : Int) = (T : Int) := by omega
  have hT0 : 0 < T := by omega
  have hT4 : T ≤ 4 := by omega
  clear hR hT
  go_enter Try.func6, Try.ntmps6
  go_wp2_with fail
  refine HS0.out.mono ?_
  rintro e w3 ⟨⟨z, rfl, hz⟩, rfl⟩
  cases z with
  | false =>
    clear hz
    go_wp2
    go_ret
    exact ⟨rfl, Below.refl _ _⟩
  | true =>
  have HSM := Lib.hid (small_of (hz rfl))
  have HN : Hid (len0 ≤ 120) := Lib.hid (by have := HSM.out.n; have := HL0.out; omega)
  clear hz
  go_wp2
  go_loopg [6, 7] T (fun gg mv iv wr => ∃ (k m : Nat) (la : Option Addr) (lc : Nat), k ≤ T ∧ gg = T - k ∧ iv = .int .i64 k ∧ mv = .slice la m lc ∧ m = k * len0 ∧ RF W.heap.size (fun _ => False) wr [some (9, .slice la m lc, (List.replicate k l0).flatten.map Value.string)] ∧ Below W.heap.size W wr)
  case atStart => exact ⟨0, 0, none, 0, by omega, rfl, rfl, rfl, by omega, RF.one (World.ownsRow_nil _ _ _ _) (fun g hg => by cases hg) (fun b hb => hb.elim) (Nat.le_refl _), Below.refl _ _⟩
  case round =>
    obtain ⟨k, m, la, lc, hk, rfl, rfl, rfl, hm, hrf, hbl⟩ := hrel
    have HF := Lib.hid hrf
    have HBL := Lib.hid hbl
    have HM := Lib.hid hm
    have hm480 : m ≤ 480 := by rw [hm]; have := HN.out; exact Nat.le_trans (Nat.mul_le_mul (show k ≤ 4 by omega) this) (by omega)
    clear hrf hbl hm
    by_cases hlt : k < T
    · have hkz : (k : Int) < (T : Int) := by omega
      have hl120 := HN.out
      go_wp2_with (at_builtin; refine RF.append HF.out (i := 0) rfl m (HF.out.len (i := 0) rfl) (Below.refl _ _) (.tmp 27) (.tmp 28) EST rfl rfl rfl _ len0 _ (l0.map Value.string) rfl (rdS_G (w0.below HBL.out)) (by intro u hu; obtain ⟨x, _, rfl⟩ := List.mem_map.1 hu; rfl) (by omega) (by decide) ?_; intro a6 c6 w6 hrf6 hg6 hbl6 hfr6; have HR6 := Lib.hid hrf6; have HB6 := Lib.hid hbl6; clear hrf6 hg6 hbl6 hfr6)
      go_roundg (T - (k + 1))
      case measure => omega
      case rel =>
        refine ⟨k + 1, m + len0, a6, c6, by omega, rfl, by go_num, rfl, by rw [HM.out, Nat.succ_mul], ?_, HBL.out.trans HB6.out⟩
        have h := HR6.out
        rw [show (List.replicate (k + 1) l0).flatten = (List.replicate k l0).flatten ++ l0 by rw [List.replicate_succ', List.flatten_append]; simp, List.map_append]
        exact h
    · have hkT : k = T := by omega
      subst hkT
      have HMS : Hid (RdS wr la m (List.replicate k l0).flatten) := Lib.hid (rf_rdS HF.out (i := 0) rfl (by omega) (fun s hs => by
        obtain ⟨l, hl, hx⟩ := List.mem_flatten.1 hs
        rw [List.eq_of_mem_replicate hl] at hx; exact w0.wf s hx))
      have HPR := Lib.hid (pats_reps l0 k)
      have HMEM := Lib.hid (mem_reps (ps := pats l0) (t := k) hT0)
      have HPREF := Lib.hid (prefs_congr HMEM.out)
      have HCODE := Lib.hid (ocode_congr HMEM.out)
      clear hlt
      go_wp2_with fail
      refine (bytesOf_any a0 len0 cap0 l0 _ (w0.below HBL.out) (by have := HN.out; omega)).mono ?_
      rintro e r0 ⟨⟨ra0, rc0, rfl, hrows0⟩, hbr0⟩
      have HOF := Lib.hid (of_any ra0 len0 rc0 (pats l0) r0 hrows0 (by rw [pats_len]; have := HSM.out.n; omega))
      have HBR0 := Lib.hid (bthen HBL.out hbr0)
      have HMR0 := Lib.hid (HMS.out.below hbr0)
      clear hrows0 hbr0
      go_wp2_with fail
      refine HOF.out.mono ?_
      rcases HSM.out.code with hc | hc
      · have HC := Lib.hid hc
        have HC2 : Hid (ocode (pats (List.replicate k l0).flatten) = 0) := Lib.hid (by rw [HPR.out, HCODE.out]; exact HC.out)
        clear hc
        rintro e q0 hp0
        obtain ⟨hbq0, ac, an, cn, aa, ca, ah, ch, rfl, hm0, hh0⟩ := hp0.ok3 HC.out
        have HBQ := Lib.hid (bthen HBR0.out hbq0)
        obtain ⟨q1, hq1⟩ : ∃ q1, q1 = q0.alloc (.cells #[.int .i64 0, .slice ac 256 256, .slice an (prefs (pats l0)).length cn, .slice aa (prefs (pats l0)).length ca] 28) := ⟨_, rfl⟩
        have HQ1 := Lib.hid hq1
        have HB01 := Lib.hid (show Below q0.heap.size q0 q1 by rw [hq1]; exact below_alloc _ _)
        have HB1 := Lib.hid (bthen HBQ.out HB01.out)
        have HMR1 := Lib.hid ((HMR0.out.below hbq0).below HB01.out)
        have HM1 := Lib.hid (hm0.below HB01.out)
        have HH1 := Lib.hid (hh0.below HB01.out)
        have HX0 : Hid (q1.cell? ⟨q0.heap.size, 0, none⟩ = some (.int .i64 0)) := Lib.hid (by rw [hq1]; simp)
        have HX1 : Hid (q1.cell? ⟨q0.heap.size, 1, none⟩ = some (.slice ac 256 256)) := Lib.hid (by rw [hq1]; simp)
        have HX2 : Hid (q1.cell? ⟨q0.heap.size, 2, none⟩ = some (.slice an (prefs (pats l0)).length cn)) := Lib.hid (by rw [hq1]; simp)
        have HX3 : Hid (q1.cell? ⟨q0.heap.size, 3, none⟩ = some (.slice aa (prefs (pats l0)).length ca)) := Lib.hid (by rw [hq1]; simp)
        clear hp0 hbq0 hq1 hm0 hh0
        go_wp2_with fail
        rw [← HQ1.out]
        refine (bytesOf_any la m lc _ q1 HMR1.out (by omega)).mono ?_
        rintro e r1 ⟨⟨ra1, rc1, rfl, hrows1⟩, hbr1⟩
        have HOF2 := Lib.hid (of_any ra1 m rc1 _ r1 hrows1 (by rw [pats_len, HMR1.out.len]; omega))
        have HBR1 := Lib.hid hbr1
        clear hrows1 hbr1
        go_wp2_with fail
        refine HOF2.out.mono ?_
        rintro e q2 hp2
        obtain ⟨hbq2, ac2, an2, cn2, aa2, ca2, ah2, ch2, rfl, hm2, hh2⟩ := hp2.ok3 HC2.out
        rw [HPR.out, HPREF.out] at hm2 hh2 ⊢
        rw [litC_congr HMEM.out, litN_congr HMEM.out, litA_congr HMEM.out] at hm2
        have HQ12 := Lib.hid (bthen HBR1.out hbq2)
        obtain ⟨q3, hq3⟩ : ∃ q3, q3 = q2.alloc (.cells #[.int .i64 0, .slice ac2 256 256, .slice an2 (prefs (pats l0)).length cn2, .slice aa2 (prefs (pats l0)).length ca2] 28) := ⟨_, rfl⟩
        have HQ3 := Lib.hid hq3
        have HB23 := Lib.hid (show Below q2.heap.size q2 q3 by rw [hq3]; exact below_alloc _ _)
        have HQ13 := Lib.hid (bthen HQ12.out HB23.out)
        have HM2 := Lib.hid (hm2.below HB23.out)
        have HH2 := Lib.hid (hh2.below HB23.out)
        have HY0 : Hid (q3.cell? ⟨q2.heap.size, 0, none⟩ = some (.int .i64 0)) := Lib.hid (by rw [hq3]; simp)
        have HY1 : Hid (q3.cell? ⟨q2.heap.size, 1, none⟩ = some (.slice ac2 256 256)) := Lib.hid (by rw [hq3]; simp)
        have HY2 : Hid (q3.cell? ⟨q2.heap.size, 2, none⟩ = some (.slice an2 (prefs (pats l0)).length cn2)) := Lib.hid (by rw [hq3]; simp)
        have HY3 : Hid (q3.cell? ⟨q2.heap.size, 3, none⟩ = some (.slice aa2 (prefs (pats l0)).length ca2)) := Lib.hid (by rw [hq3]; simp)
        clear hp2 hbq2 hq3 hm2 hh2
        go_wp2_with fail
        rw [← HQ3.out]
        refine (awake_any q3).mono ?_
        rintro e x7 ⟨rfl, hb7⟩
        have HB37 := Lib.hid hb7
        have HB17 := Lib.hid (bthen HQ13.out hb7)
        clear hb7
        go_wp2_with fail
        refine (num_nil x7).mono ?_
        rintro e x8 ⟨rfl, rfl⟩
        go_wp2_with fail
        refine (num_nil x7).mono ?_
        rintro e x8 ⟨rfl, rfl⟩
        have hx0 := below_cell HB17.out HX0.out
        have hy0 := below_cell HB37.out HY0.out
        have hx1 := below_cell HB17.out HX1.out
        have hy1 := below_cell HB37.out HY1.out
        have hx2 := below_cell HB17.out HX2.out
        have hy2 := below_cell HB37.out HY2.out
        have hx3 := below_cell HB17.out HX3.out
        have hy3 := below_cell HB37.out HY3.out
        go_wp2_with fail
        refine (equal_same 0 ac ac2 256 256 256 an an2 (prefs (pats l0)).length cn cn2 aa aa2 (prefs (pats l0)).length ca ca2 _ _ _ x7 (HM1.out.below HB17.out) (HM2.out.below HB37.out)).mono ?_
        rintro e x9 ⟨rfl, hb9⟩
        have HB9 := Lib.hid (bthen HB1.out (bthen HB17.out hb9))
        have HH19 := Lib.hid (HH1.out.below (bthen HB17.out hb9))
        have HH29 := Lib.hid (HH2.out.below (bthen HB37.out hb9))
        have HPL := Lib.hid (ocode_small HC.out)
        clear hb9 hx0 hx1 hx2 hx3 hy0 hy1 hy2 hy3
        obtain ⟨n, hn⟩ : ∃ n, n = (prefs (pats l0)).length := ⟨_, rfl⟩
        have HNE := Lib.hid hn
        have hn256 : n ≤ 256 := by rw [hn]; exact HPL.out
        rw [← hn] at HH19 HH29 ⊢
        clear hn
        go_wp2
        go_loopg [14] n (fun gg iv wr => ∃ i : Nat, i ≤ n ∧ gg = n - i ∧ iv = .int .i64 i ∧ Below x9.heap.size x9 wr)
        case atStart => exact ⟨0, by omega, rfl, rfl, Below.refl _ _⟩
        case round =>
          obtain ⟨i, hi, rfl, rfl, hbl⟩ := hrel
          have HBX := Lib.hid hbl
          clear hbl
          by_cases hlt : i < n
          · obtain ⟨g1, o1, rfl, h1⟩ := (HH19.out.below HBX.out).cell i hlt
            obtain ⟨g2, o2, rfl, h2⟩ := (HH29.out.below HBX.out).cell i hlt
            have hil : i < (prefs (pats l0)).length := by rw [← HNE.out]; exact hlt
            have e1 : (litH (pats l0)).getD i 0 = (cnt (pats l0) ((prefs (pats l0)).getD i []) : Int) := by unfold litH; simp [List.getD, hil]
            have e2 : (litH (List.replicate k (pats l0)).flatten).getD i 0 = ((k * cnt (pats l0) ((prefs (pats l0)).getD i []) : Nat) : Int) := by
              unfold litH; rw [HPREF.out]; simp only [List.getD, List.getElem?_map, List.getElem?_eq_getElem hil, Option.map_some, Option.getD_some, cnt_reps]
            rw [e1] at h1
            rw [e2] at h2
            have hcl := cnt_le (pats l0) ((prefs (pats l0)).getD i [])
            have hpl : (pats l0).length ≤ 120 := by rw [pats_len]; exact HSM.out.n
            generalize cnt (pats l0) ((prefs (pats l0)).getD i []) = v at *
            obtain ⟨p, hp⟩ : ∃ p : Nat, p = k * v := ⟨_, rfl⟩
            have hp480 : p ≤ 480 := by rw [hp]; exact Nat.le_trans (Nat.mul_le_mul (show k ≤ 4 by omega) (show v ≤ 120 by omega)) (by omega)
            have hkv : (k : Int) * (v : Int) = (p : Int) := by rw [hp]; rfl
            rw [← hp] at h2
            have hwp : IntKind.i64.wrap (p : Int) = (p : Int) := IntWalk.i64_in _ (by omega)
            have hiz : (i : Int) < (n : Int) := by omega
            clear e1 e2 hp hcl hpl
            go_wp2
            go_quiet (fail)
            go_wp2
            go_roundg (n - (i + 1))
            case measure => omega
            case rel => exact ⟨i + 1, by omega, rfl, by go_num, bdrewN HBX.out _⟩
          · have hin : i = n := by omega
            subst hin
            go_wp2
            go_ret
            exact ⟨rfl, bthen HB9.out HBX.out⟩
      · have HC := Lib.hid hc
        have HC2 : Hid (ocode (pats (List.replicate k l0).flatten) = 4) := Lib.hid (by rw [HPR.out, HCODE.out]; exact HC.out)
        clear hc
        rintro e q0 hp0
        obtain ⟨hbq0, rfl⟩ := hp0.bad3 HC.out (by decide)
        rw [show errV 4 = Value.iface 56 (.int .i64 4) from rfl]
        have HBQ := Lib.hid (bthen HBR0.out hbq0)
        obtain ⟨q1, hq1⟩ : ∃ q1, q1 = q0.alloc (.cells #[.int .i64 0, .slice none 0 0, .slice none 0 0, .slice none 0 0] 28) := ⟨_, rfl⟩
        have HQ1 := Lib.hid hq1
        have HB01 := Lib.hid (show Below q0.heap.size q0 q1 by rw [hq1]; exact below_alloc _ _)
        have HB1 := Lib.hid (bthen HBQ.out HB01.out)
        have HMR1 := Lib.hid ((HMR0.out.below hbq0).below HB01.out)
        have HX0 : Hid (q1.cell? ⟨q0.heap.size, 0, none⟩ = some (.int .i64 0)) := Lib.hid (by rw [hq1]; simp)
        have HX1 : Hid (q1.cell? ⟨q0.heap.size, 1, none⟩ = some (.slice none 0 0)) := Lib.hid (by rw [hq1]; simp)
        have HX2 : Hid (q1.cell? ⟨q0.heap.size, 2, none⟩ = some (.slice none 0 0)) := Lib.hid (by rw [hq1]; simp)
        have HX3 : Hid (q1.cell? ⟨q0.heap.size, 3, none⟩ = some (.slice none 0 0)) := Lib.hid (by rw [hq1]; simp)
        clear hp0 hbq0 hq1
        go_wp2_with fail
        rw [← HQ1.out]
        refine (bytesOf_any la m lc _ q1 HMR1.out (by omega)).mono ?_
        rintro e r1 ⟨⟨ra1, rc1, rfl, hrows1⟩, hbr1⟩
        have HOF2 := Lib.hid (of_any ra1 m rc1 _ r1 hrows1 (by rw [pats_len, HMR1.out.len]; omega))
        have HBR1 := Lib.hid hbr1
        clear hrows1 hbr1
        go_wp2_with fail
        refine HOF2.out.mono ?_
        rintro e q2 hp2
        obtain ⟨hbq2, rfl⟩ := hp2.bad3 HC2.out (by decide)
        rw [show errV 4 = Value.iface 56 (.int .i64 4) from rfl]
        have HQ12 := Lib.hid (bthen HBR1.out hbq2)
        obtain ⟨q3, hq3⟩ : ∃ q3, q3 = q2.alloc (.cells #[.int .i64 0, .slice none 0 0, .slice none 0 0, .slice none 0 0] 28) := ⟨_, rfl⟩
        have HQ3 := Lib.hid hq3
        have HB23 := Lib.hid (show Below q2.heap.size q2 q3 by rw [hq3]; exact below_alloc _ _)
        have HQ13 := Lib.hid (bthen HQ12.out HB23.out)
        have HY0 : Hid (q3.cell? ⟨q2.heap.size, 0, none⟩ = some (.int .i64 0)) := Lib.hid (by rw [hq3]; simp)
        have HY1 : Hid (q3.cell? ⟨q2.heap.size, 1, none⟩ = some (.slice none 0 0)) := Lib.hid (by rw [hq3]; simp)
        have HY2 : Hid (q3.cell? ⟨q2.heap.size, 2, none⟩ = some (.slice none 0 0)) := Lib.hid (by rw [hq3]; simp)
        have HY3 : Hid (q3.cell? ⟨q2.heap.size, 3, none⟩ = some (.slice none 0 0)) := Lib.hid (by rw [hq3]; simp)
        clear hp2 hbq2 hq3
        go_wp2_with fail
        rw [← HQ3.out]
        refine (awake_any q3).mono ?_
        rintro e x7 ⟨rfl, hb7⟩
        have HB37 := Lib.hid hb7
        have HB17 := Lib.hid (bthen HQ13.out hb7)
        clear hb7
        go_wp2_with fail
        refine (num_errno 4 x7).mono ?_
        rintro e x8 ⟨rfl, rfl⟩
        go_wp2_with fail
        refine (num_errno 4 x7).mono ?_
        rintro e x8 ⟨rfl, rfl⟩
        have hx0 := below_cell HB17.out HX0.out
        have hy0 := below_cell HB37.out HY0.out
        have hx1 := below_cell HB17.out HX1.out
        have hy1 := below_cell HB37.out HY1.out
        have hx2 := below_cell HB17.out HX2.out
        have hy2 := below_cell HB37.out HY2.out
        have hx3 := below_cell HB17.out HX3.out
        have hy3 := below_cell HB37.out HY3.out
        go_wp2_with fail
        refine (equal_same 0 none none 0 0 0 none none 0 0 0 none none 0 0 0 [] [] [] x7 (rdM_nil _) (rdM_nil _)).mono ?_
        rintro e x9 ⟨rfl, hb9⟩
        have HB9 := Lib.hid (bthen HB1.out (bthen HB17.out hb9))
        clear hb9 hx0 hx1 hx2 hx3 hy0 hy1 hy2 hy3
        go_wp2
        go_loopg [14] 0 (fun gg iv wr => iv = .int .i64 0 ∧ x9 = wr)
        case atStart => exact ⟨rfl, rfl⟩
        case round =>
          obtain ⟨rfl, hw⟩ := hrel
          subst hw
          go_wp2
          go_ret
          exact ⟨rfl, HB9.out⟩

end Go.Proofs.Ytfhoaehoccfadaa
