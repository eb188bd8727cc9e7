/-
  The reference's strings in quotes.
-/
import Derived.Test.YtpabngicbfcdkaaRf3
import Derived.Deep.RegionWith
import Derived.Deep.RegionHeld3
namespace Go.Proofs.Ytpabngicbfcdkaa
open Go.RowKit
set_option linter.unusedVariables false
set_option linter.unusedSimpArgs false

theorem EU8G : EltG Try.prog 45 5 (.int .u8 0) 1 1 := ⟨Try.underlying45, info_parts (by kernel_rfl), rfl, by decide⟩
def rquoV (n : Nat) : Option (List Nat × List Nat) → Value
  | some (b, r) => .tuple #[.string (bs b), .int .i64 ((n - r.length : Nat) : Int)]
  | none => .tuple #[.string ⟨#[]⟩, .int .i64 (-1)]

set_option maxRecDepth 100000 in
set_option maxHeartbeats 8000000 in
theorem rquoted_any (s : ByteArray) (i0 : Nat) (hs : s.size ≤ 1000000000) (h0 : i0 ≤ s.size) (w : World) : Calls Try.prog 36 #[.string s, .int .i64 i0] w fun e w' => e = .returned (rquoV s.size (quoGo [] ((ns s).drop i0))) ∧ Below w.heap.size w w' := by
  have hsi : (s.size : Int) ≤ 1000000000 := by omega
  have HSZ := Lib.hid hs
  have H00 := Lib.hid h0
  have HNL := Lib.hid (ns_len s)
  have HLT := Lib.hid (ns_lt s)
  clear hs h0
  go_enter Try.func36, Try.ntmps36
  go_wp2
  go_loopw [1, 6] (fun iv sv wr => ∃ (i N : Nat) (acc : List Nat) (a : Option Addr) (c : Nat), iv = .int .i64 i ∧ i ≤ s.size ∧ sv = .slice a N c ∧ acc.length = N ∧ N ≤ i ∧ (∀ u ∈ acc, u < 256) ∧ quoGo acc ((ns s).drop i) = quoGo [] ((ns s).drop i0) ∧ Own wr w.heap.size 5 .u8 (.slice a N c) (nints acc) ∧ Below w.heap.size w wr) (fun iv _ _ => s.size - (intOf iv).toNat)
  case atStart => exact ⟨i0, 0, [], none, 0, rfl, H00.out, rfl, rfl, by omega, fun u hu => (by cases hu), rfl, Own.nil _ _ _ _, Below.refl _ _⟩
  case round =>
    obtain ⟨i, N, acc, a, c, rfl, hi, rfl, hN, hNi, hby, hq, hown, hb⟩ := hrel
    have HOWN := Lib.hid hown
    have HB := Lib.hid hb
    have HN := Lib.hid hN
    have HBY := Lib.hid hby
    have hN9 : (N : Int) ≤ 1000000000 := by have := HSZ.out; omega
    have HNI := Lib.hid hNi
    by_cases hlt : i < s.size
    · have HG := Lib.hid (ns_get hlt)
      obtain ⟨x, hx⟩ : ∃ x, (s[i]'hlt).toNat = x := ⟨_, rfl⟩
      rw [hx] at HG
      have HX9 : Hid (x < 256) := Lib.hid (HLT.out x (List.mem_of_getElem? HG.out))
      have hx9 : (x : Int) ≤ 255 := by have := HX9.out; omega
      obtain ⟨r, hr⟩ : ∃ r, r = (ns s).drop (i + 1) := ⟨_, rfl⟩
      have hdrop : (ns s).drop i = x :: r := by
        rw [List.drop_eq_getElem_cons (by rw [ns_len]; exact hlt), hr]
        rw [(List.getElem?_eq_some_iff.1 HG.out).2]
      rw [hdrop] at hq
      have HQ := Lib.hid hq
      have HR := Lib.hid hr
      have HRL : Hid (r.length = s.size - (i + 1)) := Lib.hid (by rw [hr, List.length_drop, ns_len])
      have hii : (i : Int) < (s.size : Int) := by omega
      have HLTI := Lib.hid hlt
      have hcv := run_str wr c (Own.rd hown (fun y hy => by obtain ⟨u, hu, rfl⟩ := List.mem_map.1 hy; have := hby u hu; simp [Lit.wf, IntKind.min, IntKind.max, IntKind.signed, IntKind.bits]; omega)) rfl 45 9 5 Try.underlying45 Try.underlying5 Try.underlying9
      obtain ⟨str, hstr⟩ : ∃ str, str = strOfNums (nints acc) := ⟨_, rfl⟩
      rw [← hstr] at hcv
      have HSTR := Lib.hid hstr
      clear hi hN hNi hby hq hown hb hdrop hr hstr
      by_cases e1 : x = 34
      · subst e1
        have HE : Hid (quoGo [] ((ns s).drop i0) = some (acc, r)) := Lib.hid (by rw [← HQ.out, quo_end])
        go_wp2
        go_ret2
        have HLN : Hid (s.size - r.length = i + 1) := Lib.hid (by have h1 := HRL.out; have h2 := HLTI.out; omega)
        exact ⟨by rw [HE.out, HSTR.out]; simp only [rquoV, bs, HLN.out]; rfl, HB.out⟩
      · have b1 : ((x : Int) == 34) = false := by rw [beq_eq_false_iff_ne]; omega
        by_cases e2 : x = 92
        · subst e2
          clear e1 hcv
          cases hr0 : r with
          | nil =>
            have hend : i + 1 = s.size := by have h1 := HRL.out; rw [hr0] at h1; have := HLTI.out; simp at h1; omega
            have hendi : (i : Int) + 1 = (s.size : Int) := by omega
            have HE : Hid (quoGo [] ((ns s).drop i0) = none) := Lib.hid (by rw [← HQ.out, hr0, quo_escn _ rfl])
            clear hend hr0
            go_wp2
            go_ret2
            exact ⟨by rw [HE.out]; rfl, HB.out⟩
          | cons d q =>
            have hd1 : i + 1 < s.size := by have h1 := HRL.out; rw [hr0] at h1; simp at h1; omega
            have HG1 := Lib.hid (ns_get hd1)
            have hdd : (s[i + 1]'hd1).toNat = d := by
              have h1 : (ns s)[i + 1]? = some d := by
                have h2 : ((ns s).drop (i + 1))[0]? = some d := by rw [← HR.out, hr0]; rfl
                simpa using h2
              have h3 := HG1.out
              rw [h1] at h3; exact (Option.some.inj h3).symm
            rw [hdd] at HG1
            have hd9 : d < 256 := HLT.out d (List.mem_of_getElem? HG1.out)
            have hd9i : (d : Int) ≤ 255 := by omega
            have hne : ((i : Int) + 1 == (s.size : Int)) = false := by rw [beq_eq_false_iff_ne]; omega
            have hlti1 : (i : Int) + 1 < (s.size : Int) := by omega
            obtain ⟨K1, hK1⟩ : ∃ K1, K1 = i + 1 := ⟨_, rfl⟩
            have hKi : (i : Int) + 1 = (K1 : Int) := by omega
            have hK1i : (K1 : Int) < (s.size : Int) := by omega
            have hK1n : K1 < s.size := by omega
            have hneK : ((K1 : Int) == (s.size : Int)) = false := by rw [beq_eq_false_iff_ne]; omega
            have hdd1 : (s[K1]'hK1n).toNat = d := by subst hK1; exact hdd
            have HD1 : Hid (i + 1 < s.size) := Lib.hid hd1
            have HQR := Lib.hid hr0
            have HQQ : Hid (q = (ns s).drop (i + 2)) := Lib.hid (by
              have : (ns s).drop (i + 2) = ((ns s).drop (i + 1)).drop 1 := by rw [List.drop_drop]
              rw [this, ← HR.out, hr0]; rfl)
            have HKK := Lib.hid hK1
            clear hdd hd1 hr0 hK1
            by_cases g110 : d = 110
            · subst g110
              have HQ2 : Hid (quoGo (acc ++ [10]) ((ns s).drop (i + 2)) = quoGo [] ((ns s).drop i0)) := Lib.hid (by rw [← HQ.out, HQR.out, quo_esc _ (show escP (110 :: q) = some (10, 1) from rfl), ← HQQ.out]; rfl)
              go_wp2_with (at_builtin; refine app_rd (.tmp 49) (.tmp 50) EU8' rfl rfl w.heap.size (.slice a N c) (nints acc) rfl (HOWN.out.alloc _) (some ⟨_, 0, none⟩) 1 1 [(10 : Int)] rfl (Rd.one _ .u8 _ _ (by  simp [Lit.wf, IntKind.min, IntKind.max, IntKind.signed, IntKind.bits])) (by have h1 := HN.out; have h2 := HNI.out; have h3 := HSZ.out; have h4 := HLTI.out; simp; omega) (by decide) (by have := HB.out.size; simp; omega) ?_; intro a6 c6 w6 ho6 hg6; have HO6 := Lib.hid ho6; have HB6 : Hid (Below w.heap.size w w6) := Lib.hid ((HB.out.alloc (by exact HB.out.size) _).trans (grown_below (HOWN.out.alloc _) hg6 (by have := HB.out.size; simp; omega))); rw [show (nints acc ++ [(10 : Int)]).length = N + 1 by simp [HN.out]] at HO6 ⊢; clear ho6 hg6)
              exact ⟨⟨i + 2, N + 1, acc ++ [10], a6, c6, (by go_num), by omega, rfl, by rw [List.length_append, HN.out]; rfl, by have := HNI.out; omega, fun u hu => (by
                rcases List.mem_append.1 hu with hu | hu
                · exact HBY.out u hu
                · rw [List.mem_singleton] at hu; subst hu; omega), HQ2.out, (by
                have h := HO6.out
                rw [show nints (acc ++ [10]) = nints acc ++ [((10 : Nat) : Int)] by simp [nints]]
                exact h), HB6.out⟩, by have := HLTI.out; simp only [intOf]; omega⟩
            have n110 : ((d : Int) == 110) = false := by rw [beq_eq_false_iff_ne]; omega
            by_cases g116 : d = 116
            · subst g116
              have HQ2 : Hid (quoGo (acc ++ [9]) ((ns s).drop (i + 2)) = quoGo [] ((ns s).drop i0)) := Lib.hid (by rw [← HQ.out, HQR.out, quo_esc _ (show escP (116 :: q) = some (9, 1) from rfl), ← HQQ.out]; rfl)
              go_wp2_with (at_builtin; refine app_rd (.tmp 54) (.tmp 55) EU8' rfl rfl w.heap.size (.slice a N c) (nints acc) rfl (HOWN.out.alloc _) (some ⟨_, 0, none⟩) 1 1 [(9 : Int)] rfl (Rd.one _ .u8 _ _ (by  simp [Lit.wf, IntKind.min, IntKind.max, IntKind.signed, IntKind.bits])) (by have h1 := HN.out; have h2 := HNI.out; have h3 := HSZ.out; have h4 := HLTI.out; simp; omega) (by decide) (by have := HB.out.size; simp; omega) ?_; intro a6 c6 w6 ho6 hg6; have HO6 := Lib.hid ho6; have HB6 : Hid (Below w.heap.size w w6) := Lib.hid ((HB.out.alloc (by exact HB.out.size) _).trans (grown_below (HOWN.out.alloc _) hg6 (by have := HB.out.size; simp; omega))); rw [show (nints acc ++ [(9 : Int)]).length = N + 1 by simp [HN.out]] at HO6 ⊢; clear ho6 hg6)
              exact ⟨⟨i + 2, N + 1, acc ++ [9], a6, c6, (by go_num), by omega, rfl, by rw [List.length_append, HN.out]; rfl, by have := HNI.out; omega, fun u hu => (by
                rcases List.mem_append.1 hu with hu | hu
                · exact HBY.out u hu
                · rw [List.mem_singleton] at hu; subst hu; omega), HQ2.out, (by
                have h := HO6.out
                rw [show nints (acc ++ [9]) = nints acc ++ [((9 : Nat) : Int)] by simp [nints]]
                exact h), HB6.out⟩, by have := HLTI.out; simp only [intOf]; omega⟩
            have n116 : ((d : Int) == 116) = false := by rw [beq_eq_false_iff_ne]; omega
            by_cases g114 : d = 114
            · subst g114
              have HQ2 : Hid (quoGo (acc ++ [13]) ((ns s).drop (i + 2)) = quoGo [] ((ns s).drop i0)) := Lib.hid (by rw [← HQ.out, HQR.out, quo_esc _ (show escP (114 :: q) = some (13, 1) from rfl), ← HQQ.out]; rfl)
              go_wp2_with (at_builtin; refine app_rd (.tmp 59) (.tmp 60) EU8' rfl rfl w.heap.size (.slice a N c) (nints acc) rfl (HOWN.out.alloc _) (some ⟨_, 0, none⟩) 1 1 [(13 : Int)] rfl (Rd.one _ .u8 _ _ (by  simp [Lit.wf, IntKind.min, IntKind.max, IntKind.signed, IntKind.bits])) (by have h1 := HN.out; have h2 := HNI.out; have h3 := HSZ.out; have h4 := HLTI.out; simp; omega) (by decide) (by have := HB.out.size; simp; omega) ?_; intro a6 c6 w6 ho6 hg6; have HO6 := Lib.hid ho6; have HB6 : Hid (Below w.heap.size w w6) := Lib.hid ((HB.out.alloc (by exact HB.out.size) _).trans (grown_below (HOWN.out.alloc _) hg6 (by have := HB.out.size; simp; omega))); rw [show (nints acc ++ [(13 : Int)]).length = N + 1 by simp [HN.out]] at HO6 ⊢; clear ho6 hg6)
              exact ⟨⟨i + 2, N + 1, acc ++ [13], a6, c6, (by go_num), by omega, rfl, by rw [List.length_append, HN.out]; rfl, by have := HNI.out; omega, fun u hu => (by
                rcases List.mem_append.1 hu with hu | hu
                · exact HBY.out u hu
                · rw [List.mem_singleton] at hu; subst hu; omega), HQ2.out, (by
                have h := HO6.out
                rw [show nints (acc ++ [13]) = nints acc ++ [((13 : Nat) : Int)] by simp [nints]]
                exact h), HB6.out⟩, by have := HLTI.out; simp only [intOf]; omega⟩
            have n114 : ((d : Int) == 114) = false := by rw [beq_eq_false_iff_ne]; omega
            by_cases g34 : d = 34
            · subst g34
              have HQ2 : Hid (quoGo (acc ++ [34]) ((ns s).drop (i + 2)) = quoGo [] ((ns s).drop i0)) := Lib.hid (by rw [← HQ.out, HQR.out, quo_esc _ (show escP (34 :: q) = some (34, 1) from rfl), ← HQQ.out]; rfl)
              go_wp2_with (at_builtin; refine app_rd (.tmp 65) (.tmp 67) EU8' rfl rfl w.heap.size (.slice a N c) (nints acc) rfl (HOWN.out.alloc _) (some ⟨_, 0, none⟩) 1 1 [(34 : Int)] rfl (Rd.one _ .u8 _ _ (by  simp [Lit.wf, IntKind.min, IntKind.max, IntKind.signed, IntKind.bits])) (by have h1 := HN.out; have h2 := HNI.out; have h3 := HSZ.out; have h4 := HLTI.out; simp; omega) (by decide) (by have := HB.out.size; simp; omega) ?_; intro a6 c6 w6 ho6 hg6; have HO6 := Lib.hid ho6; have HB6 : Hid (Below w.heap.size w w6) := Lib.hid ((HB.out.alloc (by exact HB.out.size) _).trans (grown_below (HOWN.out.alloc _) hg6 (by have := HB.out.size; simp; omega))); rw [show (nints acc ++ [(34 : Int)]).length = N + 1 by simp [HN.out]] at HO6 ⊢; clear ho6 hg6)
              exact ⟨⟨i + 2, N + 1, acc ++ [34], a6, c6, (by go_num), by omega, rfl, by rw [List.length_append, HN.out]; rfl, by have := HNI.out; omega, fun u hu => (by
                rcases List.mem_append.1 hu with hu | hu
                · exact HBY.out u hu
                · rw [List.mem_singleton] at hu; subst hu; omega), HQ2.out, (by
                have h := HO6.out
                rw [show nints (acc ++ [34]) = nints acc ++ [((34 : Nat) : Int)] by simp [nints]]
                exact h), HB6.out⟩, by have := HLTI.out; simp only [intOf]; omega⟩
            have n34 : ((d : Int) == 34) = false := by rw [beq_eq_false_iff_ne]; omega
            by_cases g92 : d = 92
            · subst g92
              have HQ2 : Hid (quoGo (acc ++ [92]) ((ns s).drop (i + 2)) = quoGo [] ((ns s).drop i0)) := Lib.hid (by rw [← HQ.out, HQR.out, quo_esc _ (show escP (92 :: q) = some (92, 1) from rfl), ← HQQ.out]; rfl)
              go_wp2_with (at_builtin; refine app_rd (.tmp 65) (.tmp 67) EU8' rfl rfl w.heap.size (.slice a N c) (nints acc) rfl (HOWN.out.alloc _) (some ⟨_, 0, none⟩) 1 1 [(92 : Int)] rfl (Rd.one _ .u8 _ _ (by  simp [Lit.wf, IntKind.min, IntKind.max, IntKind.signed, IntKind.bits])) (by have h1 := HN.out; have h2 := HNI.out; have h3 := HSZ.out; have h4 := HLTI.out; simp; omega) (by decide) (by have := HB.out.size; simp; omega) ?_; intro a6 c6 w6 ho6 hg6; have HO6 := Lib.hid ho6; have HB6 : Hid (Below w.heap.size w w6) := Lib.hid ((HB.out.alloc (by exact HB.out.size) _).trans (grown_below (HOWN.out.alloc _) hg6 (by have := HB.out.size; simp; omega))); rw [show (nints acc ++ [(92 : Int)]).length = N + 1 by simp [HN.out]] at HO6 ⊢; clear ho6 hg6)
              exact ⟨⟨i + 2, N + 1, acc ++ [92], a6, c6, (by go_num), by omega, rfl, by rw [List.length_append, HN.out]; rfl, by have := HNI.out; omega, fun u hu => (by
                rcases List.mem_append.1 hu with hu | hu
                · exact HBY.out u hu
                · rw [List.mem_singleton] at hu; subst hu; omega), HQ2.out, (by
                have h := HO6.out
                rw [show nints (acc ++ [92]) = nints acc ++ [((92 : Nat) : Int)] by simp [nints]]
                exact h), HB6.out⟩, by have := HLTI.out; simp only [intOf]; omega⟩
            have n92 : ((d : Int) == 92) = false := by rw [beq_eq_false_iff_ne]; omega
            by_cases g120 : d = 120
            · subst g120
              cases hq0 : q with
              | nil =>
                have hs2 : i + 2 = s.size := by have h1 := HRL.out; rw [HQR.out, hq0] at h1; have := HLTI.out; have := HD1.out; simp at h1; omega
                have hgt : decide ((s.size : Int) < (K1 : Int) + 1 + 2) = true := decide_eq_true (by omega)
                have HE : Hid (quoGo [] ((ns s).drop i0) = none) := Lib.hid (by rw [← HQ.out, HQR.out, hq0, quo_escn _ rfl])
                clear hs2 hq0
                go_wp2
                go_ret2
                exact ⟨by rw [HE.out]; rfl, HB.out⟩
              | cons y1 q1 =>
                cases hq1 : q1 with
                | nil =>
                  have hs2 : i + 3 = s.size := by have h1 := HRL.out; rw [HQR.out, hq0, hq1] at h1; have := HLTI.out; have := HD1.out; simp at h1; omega
                  have hgt : decide ((s.size : Int) < (K1 : Int) + 1 + 2) = true := decide_eq_true (by omega)
                  have HE : Hid (quoGo [] ((ns s).drop i0) = none) := Lib.hid (by rw [← HQ.out, HQR.out, hq0, hq1, quo_escn _ rfl])
                  clear hs2 hq0 hq1
                  go_wp2
                  go_ret2
                  exact ⟨by rw [HE.out]; rfl, HB.out⟩
                | cons y2 q2 =>
                  have hs3 : i + 3 < s.size := by have h1 := HRL.out; rw [HQR.out, hq0, hq1] at h1; have := HLTI.out; have := HD1.out; simp at h1; omega
                  obtain ⟨K2, hK2⟩ : ∃ K2, K2 = K1 + 1 := ⟨_, rfl⟩
                  obtain ⟨K3, hK3⟩ : ∃ K3, K3 = K2 + 1 := ⟨_, rfl⟩
                  have hKi2 : (K1 : Int) + 1 = (K2 : Int) := by omega
                  have hKi3 : (K2 : Int) + 1 = (K3 : Int) := by omega
                  have hk2n : K2 < s.size := by have := HKK.out; omega
                  have hk3n : K3 < s.size := by have := HKK.out; omega
                  have hk2i : (K2 : Int) < (s.size : Int) := by omega
                  have hk3i : (K3 : Int) < (s.size : Int) := by omega
                  have hgt : decide ((s.size : Int) < (K2 : Int) + 2) = false := decide_eq_false (by omega)
                  have hq' : (ns s).drop (i + 2) = y1 :: y2 :: q2 := by rw [← HQQ.out, hq0, hq1]
                  have gy1 : (ns s)[K2]? = some y1 := by
                    have h2 : ((ns s).drop (i + 2))[0]? = some y1 := by rw [hq']; rfl
                    have e : K2 = i + 2 := by have := HKK.out; omega
                    subst e; simpa using h2
                  have gy2 : (ns s)[K3]? = some y2 := by
                    have h2 : ((ns s).drop (i + 2))[1]? = some y2 := by rw [hq']; rfl
                    have e : K3 = i + 2 + 1 := by have := HKK.out; omega
                    subst e; simpa using h2
                  have hy1 : (s[K2]'hk2n).toNat = y1 := by have h := ns_get hk2n; rw [gy1] at h; exact (Option.some.inj h).symm
                  have hy2 : (s[K3]'hk3n).toNat = y2 := by have h := ns_get hk3n; rw [gy2] at h; exact (Option.some.inj h).symm
                  have l1 : y1 < 256 := HLT.out y1 (List.mem_of_getElem? gy1)
                  have l2 : y2 < 256 := HLT.out y2 (List.mem_of_getElem? gy2)
                  have HD1C : Hid (∀ w, Calls Try.prog 52 #[.int .u8 y1] w fun e w' => e = .returned (.int .i64 (rdP y1)) ∧ w = w') := Lib.hid (fun w => rdigit_any y1 l1 w)
                  have HD2C : Hid (∀ w, Calls Try.prog 52 #[.int .u8 y2] w fun e w' => e = .returned (.int .i64 (rdP y2)) ∧ w = w') := Lib.hid (fun w => rdigit_any y2 l2 w)
                  have HEE : Hid (escP (120 :: q) = match hexP y1, hexP y2 with | some x, some y => some (16 * x + y, 3) | _, _ => none) := Lib.hid (by rw [hq0, hq1]; rfl)
                  have HQ3 : Hid (q2 = (ns s).drop (i + 4)) := Lib.hid (by
                    have : (ns s).drop (i + 4) = ((ns s).drop (i + 2)).drop 2 := by rw [List.drop_drop]
                    rw [this, hq']; rfl)
                  have HQ01 : Hid (q = y1 :: y2 :: q2) := Lib.hid (by rw [hq0, hq1])
                  have HS3 := Lib.hid hs3
                  have HK2 : Hid (K2 = i + 2) := Lib.hid (by have := HKK.out; omega)
                  clear hq0 hq1 hq' gy1 gy2 l1 l2 hs3 hK2 hK3
                  cases hx1 : hexP y1 with
                  | none =>
                    have HE : Hid (quoGo [] ((ns s).drop i0) = none) := Lib.hid (by rw [← HQ.out, HQR.out, quo_escn _ (by rw [HEE.out, hx1])])
                    have hr1 : rdP y1 = -1 := by unfold rdP; rw [hx1]
                    rw [hr1] at HD1C
                    clear hx1 hr1
                    go_wp2_with (go_at_call 52; refine (HD1C.out _).mono ?_; rintro e w2 ⟨rfl, rfl⟩)
                    go_ret2
                    exact ⟨by rw [HE.out]; rfl, HB.out⟩
                  | some u1 =>
                    have hu1 := hexP_lt hx1
                    have hr1 : rdP y1 = (u1 : Int) := by unfold rdP; rw [hx1]
                    rw [hr1] at HD1C
                    cases hx2 : hexP y2 with
                    | none =>
                      have HE : Hid (quoGo [] ((ns s).drop i0) = none) := Lib.hid (by rw [← HQ.out, HQR.out, quo_escn _ (by rw [HEE.out, hx1, hx2])])
                      have hr2 : rdP y2 = -1 := by unfold rdP; rw [hx2]
                      rw [hr2] at HD2C
                      have hd0 : decide ((u1 : Int) < 0) = false := decide_eq_false (by omega)
                      clear hx1 hr1 hx2 hr2 hu1
                      go_wp2_with (first | (go_at_call_of 52 ((y1 : Nat) : Int); refine (HD1C.out _).mono ?_; rintro e w2 ⟨rfl, rfl⟩) | (go_at_call_of 52 ((y2 : Nat) : Int); refine (HD2C.out _).mono ?_; rintro e w2 ⟨rfl, rfl⟩))
                      go_ret2
                      exact ⟨by rw [HE.out]; rfl, HB.out⟩
                    | some u2 =>
                      have hu2 := hexP_lt hx2
                      have hr2 : rdP y2 = (u2 : Int) := by unfold rdP; rw [hx2]
                      rw [hr2] at HD2C
                      have hd0 : decide ((u1 : Int) < 0) = false := decide_eq_false (by omega)
                      have hd1 : decide ((u2 : Int) < 0) = false := decide_eq_false (by omega)
                      obtain ⟨y, hy⟩ : ∃ y, y = 16 * u1 + u2 := ⟨_, rfl⟩
                      have HY9 : Hid (y < 256) := Lib.hid (by omega)
                      have hyi : 16 * (u1 : Int) + (u2 : Int) = (y : Int) := by omega
                      have hu1i : (u1 : Int) < 16 := by omega
                      have hu2i : (u2 : Int) < 16 := by omega
                      have hyw : IntKind.u8.wrap (y : Int) = (y : Int) := by have := HY9.out; unfold IntKind.wrap; simp [IntKind.signed, IntKind.bits]; omega
                      have hy9i : (y : Int) ≤ 255 := by have := HY9.out; omega
                      have HQ2 : Hid (quoGo (acc ++ [y]) ((ns s).drop (i + 4)) = quoGo [] ((ns s).drop i0)) := Lib.hid (by rw [← HQ.out, HQR.out, quo_esc _ (show escP (120 :: q) = some (y, 3) by rw [HEE.out, hx1, hx2, hy]), HQ01.out, ← HQ3.out]; rfl)
                      have q4 : IntKind.i64.wrap (K3 : Int) = (K3 : Int) := IntWalk.i64_in _ (by omega)
                      have q5 : IntKind.i64.wrap (16 * (u1 : Int)) = 16 * (u1 : Int) := IntWalk.i64_in _ (by omega)
                      have q6 : IntKind.i64.wrap (y : Int) = (y : Int) := IntWalk.i64_in _ (by omega)
                      clear hx1 hr1 hx2 hr2 hu1 hu2 hy
                      go_upto_region 29 with (first | (go_at_call_of 52 ((y1 : Nat) : Int); refine (HD1C.out _).mono ?_; rintro e w2 ⟨rfl, rfl⟩) | (go_at_call_of 52 ((y2 : Nat) : Int); refine (HD2C.out _).mono ?_; rintro e w2 ⟨rfl, rfl⟩))
                      have HROW : Hid (Row wr w.heap.size 5 1 (.slice a N c) N ((nints acc).map (Value.int .u8))) := Lib.hid (by have h := HOWN.out; unfold Own at h; rwa [show (nints acc).length = N by simp [HN.out]] at h)
                      go_region_held3 (fun _ => True) (trivial) (first | (go_at_call_of 52 ((y1 : Nat) : Int); refine (HD1C.out _).mono ?_; rintro e w2 ⟨rfl, rfl⟩) | (go_at_call_of 52 ((y2 : Nat) : Int); refine (HD2C.out _).mono ?_; rintro e w2 ⟨rfl, rfl⟩) | (refine step_app_row_at (.tmp 91) (.tmp 104) EU8G rfl rfl w.heap.size (.slice a N c) N ((nints acc).map (Value.int .u8)) rfl (Row.drew (Row.alloc HROW.out _)) (some ⟨_, 0, none⟩) 1 1 [.int .u8 (y : Int)] rfl (RdG.drew (RdG.lits wr 1 5 1 [.int .u8 (y : Int)] rfl)) (by simp [Value.oneCell']) (by have h2 := HNI.out; have h3 := HSZ.out; have h4 := HLTI.out; omega) (by decide) (by have := HB.out.size; simp; omega) ?_; intro a6 c6 w6 hr6 hg6 hat6; have HO6 : Hid (Own w6 w.heap.size 5 .u8 (.slice a6 (N + 1) c6) (nints acc ++ [(y : Int)])) := Lib.hid (by unfold Own; rw [show (nints acc ++ [(y : Int)]).length = N + 1 by simp [HN.out]]; simpa using hr6); have HB6 : Hid (Below w.heap.size w w6) := Lib.hid ((HB.out.alloc (by exact HB.out.size) _).drew.trans (Row.grown (Row.drew (Row.alloc HROW.out _)) hg6 (by have := HB.out.size; simp; omega))); clear hr6 hg6 hat6))
                      all_goals
                        go_wp2
                        exact ⟨⟨i + 4, N + 1, acc ++ [y], a6, c6, (by have h2 := HK2.out; congr 1; omega), by omega, rfl, by rw [List.length_append, HN.out]; rfl, by have := HNI.out; omega, fun u hu => (by
                          rcases List.mem_append.1 hu with hu | hu
                          · exact HBY.out u hu
                          · rw [List.mem_singleton] at hu; subst hu; exact HY9.out), HQ2.out, (by
                          have h := HO6.out
                          rw [show nints (acc ++ [y]) = nints acc ++ [((y : Nat) : Int)] by simp [nints]]
                          exact h), HB6.out⟩, by have := HLTI.out; simp only [intOf]; omega⟩
            · have n120 : ((d : Int) == 120) = false := by rw [beq_eq_false_iff_ne]; omega
              have HE : Hid (quoGo [] ((ns s).drop i0) = none) := Lib.hid (by rw [← HQ.out, HQR.out, quo_escn _ (by simp [escP, g110, g116, g114, g34, g92, g120])])
              clear g110 g116 g114 g34 g92 g120
              go_wp2
              go_ret2
              exact ⟨by rw [HE.out]; rfl, HB.out⟩
        · have b2 : ((x : Int) == 92) = false := by rw [beq_eq_false_iff_ne]; omega
          have b2n : (x == 92) = false := by rw [beq_eq_false_iff_ne]; omega
          by_cases e3 : x < 32 ∨ x = 127
          · have HE : Hid (quoGo [] ((ns s).drop i0) = none) := Lib.hid (by rw [← HQ.out, quo_bad _ _ e1 e2 e3])
            have e3' : ((x : Int) < 32) ∨ (decide ((x : Int) < 32) = false ∧ ((x : Int) == 127) = true) := by
              by_cases h : x < 32
              · exact .inl (by omega)
              · exact .inr ⟨decide_eq_false (by omega), by rw [beq_iff_eq]; omega⟩
            clear e1 e2 e3 hcv
            rcases e3' with e3' | ⟨e3', e3''⟩
            all_goals
              go_wp2
              go_ret2
              exact ⟨by rw [HE.out]; rfl, HB.out⟩
          · have HQ2 : Hid (quoGo (acc ++ [x]) ((ns s).drop (i + 1)) = quoGo [] ((ns s).drop i0)) := Lib.hid (by rw [← HQ.out, quo_chr _ _ e1 e2 e3, HR.out])
            have b3 : decide ((x : Int) < 32) = false := decide_eq_false (by omega)
            have b4 : ((x : Int) == 127) = false := by rw [beq_eq_false_iff_ne]; omega
            clear e1 e2 e3 hcv
            go_wp2_with (at_builtin; refine app_rd (.tmp 33) (.tmp 35) EU8' rfl rfl w.heap.size (.slice a N c) (nints acc) rfl (HOWN.out.alloc _) (some ⟨_, 0, none⟩) 1 1 [(x : Int)] rfl (Rd.one _ .u8 _ _ (by have := HX9.out; simp [Lit.wf, IntKind.min, IntKind.max, IntKind.signed, IntKind.bits]; omega)) (by have h1 := HN.out; have h2 := HNI.out; have h3 := HSZ.out; have h4 := HLTI.out; simp; omega) (by decide) (by have := HB.out.size; simp; omega) ?_; intro a6 c6 w6 ho6 hg6; have HO6 := Lib.hid ho6; have HB6 : Hid (Below w.heap.size w w6) := Lib.hid ((HB.out.alloc (by exact HB.out.size) _).trans (grown_below (HOWN.out.alloc _) hg6 (by have := HB.out.size; simp; omega))); rw [show (nints acc ++ [(x : Int)]).length = N + 1 by simp [HN.out]] at HO6 ⊢; clear ho6 hg6)
            exact ⟨⟨i + 1, N + 1, acc ++ [x], a6, c6, (by go_num), by omega, rfl, by rw [List.length_append, HN.out]; rfl, by have := HNI.out; omega, fun u hu => (by
              rcases List.mem_append.1 hu with hu | hu
              · exact HBY.out u hu
              · rw [List.mem_singleton] at hu; subst hu; exact HX9.out), HQ2.out, (by
              have h := HO6.out
              rw [show nints (acc ++ [x]) = nints acc ++ [((x : Nat) : Int)] by simp [nints]]
              exact h), HB6.out⟩, by have := HLTI.out; simp only [intOf]; omega⟩
    · have HE : Hid (quoGo [] ((ns s).drop i0) = none) := Lib.hid (by
        rw [← hq, List.drop_eq_nil_of_le (by rw [ns_len]; omega), quo_nil])
      obtain rfl : i = s.size := by omega
      clear hi hN hNi hby hq hown hb hlt
      go_wp2
      go_ret2
      exact ⟨by rw [HE.out]; rfl, HB.out⟩

end Go.Proofs.Ytpabngicbfcdkaa
