/-
  The walk of SyntaxDeep.
-/
import Derived.Test.YtpabngicbfcdkaaSDeepW
namespace Go.Proofs.Ytpabngicbfcdkaa
open Go.RowKit
set_option linter.unusedVariables false
set_option linter.unusedSimpArgs false

/-- a store into a row of integers of the call's own -/
theorem store_i {P : Program} {w : World} {ops : Array Oper} {rest : List Oper} {o : Oper} {a : Act} {Q : Exit → Act → World → Prop} (hgd : o.guard = none) (ty : TypeId) (k : IntKind) (x y : Operand) (ho : o.op = .store ty x y)
    (g j : Nat) (hx : a.eval x = .pointer (some ⟨g, j, none⟩)) (u : Int) (hy : a.eval y = .int k u) (hi : (P.info? ty).map (·.size) = some 1)
    (base : Nat) (e : TypeId) (n cap : Nat) (l : List Int) (hown : Own w base e k (.slice (some ⟨g, 0, none⟩) n cap) l) (hn : n = l.length) (hj : j < l.length)
    (h : ∀ w', Own w' base e k (.slice (some ⟨g, 0, none⟩) n cap) (l.set j u) → w.grownBy w' (some g) → wpList P ops Q rest (a.put o.dst undef) w') : wpList P ops Q (o :: rest) a w := by
  subst hn
  refine store_row hgd ty x y ho g j hx (.int k u) hy [.int k u] rfl hi (by simp [Value.oneCell']) base e 1 l.length cap _ hown (by simp; omega) ?_
  intro w' hw' hg
  refine h w' ?_ hg
  unfold Own
  rw [List.length_set, List.map_set, List.set_eq_take_append_cons_drop, if_pos (by simpa using hj)]
  simpa using hw'
theorem fill_set {m i : Nat} (h : i < m) (x y : Int) : (List.replicate i x ++ List.replicate (m - i) y).set i x = List.replicate (i + 1) x ++ List.replicate (m - (i + 1)) y := by
  apply List.ext_getElem
  · simp; omega
  · intro j h1 h2
    simp only [List.getElem_set, List.getElem_append, List.getElem_replicate, List.length_replicate]
    repeat' split
    all_goals first | rfl | omega
theorem wide_set {m a : Nat} (h : a < m) : (List.replicate m (32 : Int)).set a 55 = nints (List.replicate a 32 ++ 55 :: List.replicate (m - (a + 1)) 32) := by
  apply List.ext_getElem
  · simp; omega
  · intro j h1 h2
    simp only [nints, List.getElem_map, List.getElem_set, List.getElem_append, List.getElem_replicate, List.length_replicate, List.getElem_cons]
    repeat' split
    all_goals first | rfl | omega

set_option maxRecDepth 100000 in
set_option maxHeartbeats 6000000 in
theorem walk_SyntaxDeep (n : Int) (way : Bool) (W : World) (hn : (Lit.int .u8 n).wf = true) : Calls Try.prog 5 #[.int .u8 n, .bool way] W fun e w' => e = .returned (.bool true) ∧ Below W.heap.size W w' := by
  have hbd := bd_u8 hn
  obtain ⟨N, rfl⟩ : ∃ N : Nat, n = (N : Int) := ⟨n.toNat, by omega⟩
  have hN9 : N ≤ 255 := by omega
  obtain ⟨q, hq⟩ : ∃ q, q = N % 60 := ⟨_, rfl⟩
  have hqi : (N : Int) % 60 = (q : Int) := by omega
  have hqt : Int.tmod (N : Int) 60 = (q : Int) := by rw [Int.tmod_eq_emod_of_nonneg (by omega)]; exact hqi
  obtain ⟨p, hp⟩ : ∃ p, p = N % 3 := ⟨_, rfl⟩
  have hpi : (N : Int) % 3 = (p : Int) := by omega
  have hpt : Int.tmod (N : Int) 3 = (p : Int) := by rw [Int.tmod_eq_emod_of_nonneg (by omega)]; exact hpi
  obtain ⟨k, hk⟩ : ∃ k, k = 40 + q := ⟨_, rfl⟩
  have hki : (40 : Int) + (q : Int) = (k : Int) := by omega
  obtain ⟨m, hm⟩ : ∃ m, m = 4095 + p := ⟨_, rfl⟩
  have hmi : (4095 : Int) + (p : Int) = (m : Int) := by omega
  have hk9 : (k : Int) ≤ 99 := by omega
  have hk4 : (40 : Int) ≤ (k : Int) := by omega
  have hm1 : 4095 ≤ m := by omega
  have hm2 : m ≤ 4097 := by omega
  have hm1i : (4095 : Int) ≤ (m : Int) := by omega
  have hm2i0 : (m : Int) ≤ 4097 := by omega
  have hN9i : (N : Int) ≤ 255 := by omega
  have HKN : Hid (40 ≤ k ∧ k ≤ 99) := Lib.hid (by omega)
  clear hbd hn hq hp hk hm
  cases way with
  | false =>
    go_enter Try.func5, Try.ntmps5
    go_wp2
    go_loop [6, 7] (fun tv iv => ∃ (i : Nat) (s : ByteArray), iv = .int .i64 i ∧ i ≤ k ∧ tv = .string s ∧ ns s = (List.replicate i [110, 111, 116, 32]).flatten ∧ s.size = 4 * i) (fun _ iv => k - (intOf iv).toNat)
    case atStart => exact ⟨0, ⟨#[]⟩, rfl, by omega, rfl, rfl, rfl⟩
    case round =>
      obtain ⟨i, s, rfl, hi, rfl, hs, hsz⟩ := hrel
      have HS := Lib.hid hs
      have HSZ := Lib.hid hsz
      have hsi : (s.size : Int) ≤ 400 := by have := HKN.out; omega
      have hsn : s.size ≤ 400 := by have := HKN.out; omega
      by_cases hlt : i < k
      · have hii : (i : Int) < (k : Int) := by omega
        have HLT := Lib.hid hlt
        clear hs hsz hi hlt
        go_wp2
        exact ⟨⟨i + 1, s ++ ⟨#[110, 111, 116, 32]⟩, by go_num, HLT.out, rfl, by rw [ns_append, HS.out, List.replicate_succ', List.flatten_append]; rfl, by rw [size_append', HSZ.out]; show 4 * i + 4 = _; omega⟩, by have := HLT.out; simp only [intOf]; omega⟩
      · obtain rfl : i = k := by omega
        clear hs hsz hi hlt
        obtain ⟨s1, hs1⟩ : ∃ s1, s1 = s ++ (⟨#[49]⟩ : ByteArray) := ⟨_, rfl⟩
        have HS1 : Hid (ns s1 = (List.replicate i [110, 111, 116, 32]).flatten ++ [49] ∧ s1.size = 4 * i + 1) := Lib.hid (by
          rw [hs1]; exact ⟨by rw [ns_append, HS.out]; rfl, by rw [size_append', HSZ.out]; rfl⟩)
        go_upto_region 10 with fail
        rw [← hs1]
        clear hs1 HS HSZ hsi hsn
        go_wp2
        go_loop [6, 8] (fun tv iv => tv = .string s1 ∧ iv = .int .i64 0) (fun _ _ => 0)
        case atStart => exact ⟨rfl, rfl⟩
        case round =>
          obtain ⟨rfl, rfl⟩ := hrel
          obtain ⟨k, hkk⟩ : ∃ k, k = i := ⟨_, rfl⟩
          subst hkk
          have h0 : (0 : Int) < (k : Int) := by omega
          obtain ⟨s, hss⟩ : ∃ s, s = s1 := ⟨_, rfl⟩
          have HWW := Lib.hid (negK_w k)
          have HEQ : Hid (s = bs (txI (wI (negK k)))) := Lib.hid (by rw [hss]; apply eq_bs; rw [HS1.out.1, HWW.out.2.2.2.2])
          have HSS : Hid (s.size ≤ 4096) := Lib.hid (by rw [hss, HS1.out.2]; have := HKN.out; omega)
          obtain ⟨T, hT⟩ : ∃ T, T = (parseP s).2 := ⟨_, rfl⟩
          obtain ⟨C, hC⟩ : ∃ C, C = (parseP s).1 := ⟨_, rfl⟩
          have hpp : parseP s = if 64 < k + 1 then (9, eE) else (0, negK k) := by
            rw [HEQ.out, parse_fm HWW.out.1 (by rw [← fm_size HWW.out.1, ← HEQ.out]; exact HSS.out), HWW.out.2.2.1]
          have HPP : Hid (parseP s = (C, T)) := Lib.hid (by rw [hT, hC])
          have HTC : Hid (if 64 < k + 1 then (T = eE ∧ C = 9) else (T.size = k + 1 ∧ C = 0)) := Lib.hid (by
            rw [hT, hC, hpp]
            split
            · exact ⟨rfl, rfl⟩
            · exact ⟨HWW.out.2.2.2.1, rfl⟩)
          have HTS : Hid (T.size ≤ 1000000) := Lib.hid (by have := parseP_sz s; rw [← hT] at this; omega)
          rw [← hss]
          clear hss hT hC hpp HWW HEQ HS1
          have HP : Hid (∀ w, Calls Try.prog 11 #[.string s] w (ParsePost w s)) := Lib.hid (fun w => parse_any s w (by have := HSS.out; omega))
          unfold ParsePost at HP
          rw [HPP.out] at HP
          obtain ⟨s2, hs2⟩ : ∃ s2, s2 = bs (List.replicate (m / 2) 32 ++ 55 :: List.replicate (m - (m / 2 + 1)) 32) := ⟨_, rfl⟩
          have h28 : ∀ c ∈ List.replicate (m / 2) 32 ++ 55 :: List.replicate (m - (m / 2 + 1)) 32, c < 256 := by
            intro c hc
            rcases List.mem_append.1 hc with hc | hc
            · rw [(List.mem_replicate.1 hc).2]; decide
            · rcases List.mem_cons.1 hc with rfl | hc
              · decide
              · rw [(List.mem_replicate.1 hc).2]; decide
          have hs2z : s2.size = m := by
            rw [hs2, bs_sz h28]; simp; omega
          have hp2 : parseP s2 = if 4096 < m then (9, eE) else (0, .mk 1 (bs []) ((7 : Nat) : Int) []) := by
            have := wide_parse (s := s2) (a := m / 2) (b := m - (m / 2 + 1)) (by rw [hs2, ns_bs' h28]) (by rw [hs2z]; omega)
            rw [hs2z] at this; exact this
          have HP2 : Hid (∀ w, Calls Try.prog 11 #[.string s2] w (ParsePost w s2)) := Lib.hid (fun w => parse_any s2 w (by omega))
          unfold ParsePost at HP2
          rw [hp2] at HP2
          have HS2 : Hid (strOfNums ((List.replicate m (32 : Int)).set (m / 2) 55) = s2) := Lib.hid (by rw [wide_set (by omega), hs2]; rfl)
          have HP28 := Lib.hid h28
          have HMM : Hid (4095 ≤ m ∧ m ≤ 4097) := Lib.hid ⟨hm1, hm2⟩
          have hm2i : (m : Int) / 2 = ((m / 2 : Nat) : Int) := by omega
          have hm2t : Int.tdiv (m : Int) 2 = ((m / 2 : Nat) : Int) := by rw [Int.tdiv_eq_ediv_of_nonneg (by omega)]; exact hm2i
          clear hs2 h28 hs2z hp2
          go_upto_region 15 with (go_at_call 11; refine (HP.out _).mono ?_; rintro e w1 ⟨aa, cc, rfl, hcc, hra, hb1⟩; simp only [exV])
          obtain ⟨w2, hw2⟩ : ∃ w2, w2 = w1.alloc (.cells #[.int .i64 T.kind, .string T.text, .int .i64 T.num, .slice aa T.args.length cc] 38) := ⟨_, rfl⟩
          rw [← hw2]
          obtain ⟨be, hbe⟩ : ∃ be, be = w1.heap.size := ⟨_, rfl⟩
          have hb2 : Below w1.heap.size w1 w2 := by rw [hw2]; exact below_alloc _ _
          have HB2 : Hid (Below W.heap.size W w2) := Lib.hid (bthen hb1 hb2)
          have HEC2 : Hid (EC w2 be T aa cc) := Lib.hid (by rw [hw2, hbe]; exact alloc_ec _ _ _ _ _)
          have HRA2 := Lib.hid (hra.below hb2)
          have HBE : Hid (W.heap.size ≤ be) := Lib.hid (by rw [hbe]; exact hb1.size)
          have HCC := Lib.hid hcc
          rw [← hbe]
          clear hw2 hbe hb2 hb1 hra hcc
          by_cases hbig : 64 < k + 1
          · have hkb : decide (64 < k + 1) = true := decide_eq_true hbig
            have hkbi : decide ((64 : Int) < (k : Int) + 1) = true := decide_eq_true (by omega)
            have HTE : Hid (T = eE ∧ C = 9) := Lib.hid (by have := HTC.out; rw [if_pos hbig] at this; exact this)
            have hC : C = 9 := HTE.out.2
            subst hC
            clear hbig
            go_upto_region 20 with (first
              | (go_at_call 9; refine (awake_any _).mono ?_; rintro e w3 ⟨rfl, hb3⟩; have HB3 := Lib.hid hb3; obtain ⟨x0, x1, x2, x3, xf⟩ := HEC2.out.below hb3; clear xf hb3)
              | (go_at_call 10; refine (num_errN _ _).mono ?_; rintro e w4 ⟨rfl, rfl⟩))
            have HBX : Hid (Below w2.heap.size w2 w3) := Lib.hid (HB3.out)
            obtain ⟨wx, hwx⟩ : ∃ wx, wx = w3 := ⟨_, rfl⟩
            rw [← hwx] at HBX ⊢
            have HECX := Lib.hid (HEC2.out.below HBX.out)
            clear hwx
            go_wp2_with (at_make; refine make_full EU8' rfl _ _ rfl wx.heap.size _ _ _ _ m rfl rfl (by go_num) (by go_num) (by have := HMM.out; omega) (by have := HMM.out; omega) (Nat.le_refl _) ?_; intro w6 ho6 hg6; have HO6 := Lib.hid ho6; have HB6 : Hid (Below wx.heap.size wx w6) := Lib.hid (grown_below' hg6 (Nat.le_refl _)); clear ho6 hg6)
            obtain ⟨g, hg⟩ : ∃ g, g = wx.heap.size := ⟨_, rfl⟩
            rw [← hg] at HO6
            have HBEG : Hid (be < g) := Lib.hid (by rw [hg]; exact HECX.out.lt)
            have HGX : Hid (g = wx.heap.size) := Lib.hid hg
            rw [← hg]
            clear hg
            go_loopw [13] (fun iv wr => ∃ i : Nat, iv = .int .i64 i ∧ i ≤ m ∧ Own wr wx.heap.size 5 .u8 (.slice (some ⟨g, 0, none⟩) m m) (List.replicate i 32 ++ List.replicate (m - i) 0) ∧ Fr (fun x => x = g) w6 wr) (fun iv _ => m - (intOf iv).toNat)
            case atStart => exact ⟨0, rfl, by omega, by simpa using Own.mono HO6.out (Nat.le_of_eq HGX.out.symm), Fr.refl _ _⟩
            case round =>
              obtain ⟨i, rfl, hi, ho, hf⟩ := hrel
              have HO := Lib.hid ho
              have HF := Lib.hid hf
              by_cases hlt : i < m
              · have hii : (i : Int) < (m : Int) := by omega
                have HLT := Lib.hid hlt
                clear hi hlt ho hf
                go_wp2_with (refine store_i rfl 5 .u8 _ _ rfl g i rfl 32 rfl (by kernel_rfl) wx.heap.size 5 m m _ HO.out (by simp; have := HLT.out; omega) (by simp; have := HLT.out; omega) ?_; intro w7 ho7 hg7; have HO7 := Lib.hid ho7; have HF7 : Hid (Fr (fun x => x = g) _ w7) := Lib.hid (Fr.of_grown hg7 (fun k hk => by cases hk; rfl)); clear ho7 hg7)
                exact ⟨⟨i + 1, by go_num, HLT.out, by have h := HO7.out; rwa [fill_set HLT.out] at h, HF.out.trans HF7.out⟩, by have := HLT.out; simp only [intOf]; omega⟩
              · obtain rfl : i = m := by omega
                have HO8 : Hid (Own wr wx.heap.size 5 .u8 (.slice (some ⟨g, 0, none⟩) i i) (List.replicate i 32)) := Lib.hid (by simpa using ho)
                obtain ⟨h2, hh2⟩ : ∃ h2, h2 = i / 2 := ⟨_, rfl⟩
                rw [← hh2] at hm2i hm2t HS2
                have hh2i : (h2 : Int) < (i : Int) := by have := HMM.out; omega
                have hh2n : h2 < i := by have := HMM.out; omega
                clear hi hlt ho HO hf hh2
                go_upto_region 26 with (refine store_i rfl 5 .u8 _ _ rfl g h2 rfl 55 rfl (by kernel_rfl) wx.heap.size 5 i i _ HO8.out (by simp) (by simpa using hh2n) ?_; intro w7 ho7 hg7; have HO7 := Lib.hid ho7; have HF7 : Hid (Fr (fun x => x = g) _ w7) := Lib.hid (Fr.of_grown hg7 (fun k hk => by cases hk; rfl)); clear ho7 hg7)
                have hcv := run_str w7 i (Own.rd (n := i) (a := some ⟨g, 0, none⟩) (by have h := HO7.out; exact h) (fun y hy => by rcases List.mem_or_eq_of_mem_set hy with hy | hy <;> first | (rw [(List.mem_replicate.1 hy).2]; decide) | (rw [hy]; decide))) rfl 45 9 5 Try.underlying45 Try.underlying5 Try.underlying9
                rw [HS2.out] at hcv
                have HF67 : Hid (Fr (fun x => x = g) w6 w7) := Lib.hid (HF.out.trans HF7.out)
                have HEC7 : Hid (EC w7 be T aa cc) := Lib.hid ((HECX.out.below HB6.out).fr HF67.out (by have := HBEG.out; omega))
                have HB7 : Hid (Below W.heap.size W w7) := Lib.hid ((HB2.out.trans (HBX.out.mono HB2.out.size)).trans ((HB6.out.trans (HF67.out.below (fun x e => by rw [e]; have := HGX.out; omega) HB6.out.size)).mono (by have := HB2.out.size; have := HBX.out.size; omega)))
                by_cases hl : 4096 < i
                · have hlb : decide (4096 < i) = true := decide_eq_true hl
                  have hlbi : decide ((4096 : Int) < (i : Int)) = true := decide_eq_true (by omega)
                  rw [if_pos hl] at HP2
                  have HIS := Lib.hid (is_errN 9)
                  rw [show decide ((9 : Nat) = 9) = true from rfl] at HIS
                  clear hl
                  go_wp2_with (first
                    | (go_at_call 11; refine (HP2.out _).mono ?_; rintro e w8 ⟨aa8, cc8, rfl, hcc8, hra8, hb8⟩; simp only [exV]; have HB8 := Lib.hid hb8; obtain ⟨x0, x1, x2, x3, xf⟩ := HEC7.out.below hb8; have xf0 := xf 0; have xf1 := xf 1; have xf2 := xf 2; have xf3 := xf 3; clear xf hb8 hra8 hcc8)
                    | (go_at_call 15; refine (HIS.out _).mono ?_; rintro e w9 ⟨rfl, rfl⟩))
                  go_ret
                  exact ⟨rfl, (bthen HB7.out HB8.out).trans ((fr4 w8 be _ _ _ _).below (fun x e => by have := HBE.out; omega) (bthen HB7.out HB8.out).size)⟩
                · have hlb : decide (4096 < i) = false := decide_eq_false hl
                  have hlbi : decide ((4096 : Int) < (i : Int)) = false := decide_eq_false (by omega)
                  rw [if_neg hl] at HP2
                  simp only [errN_zero] at HP2
                  clear hl
                  go_wp2_with (go_at_call 11; refine (HP2.out _).mono ?_; rintro e w8 ⟨aa8, cc8, rfl, hcc8, hra8, hb8⟩; simp only [exV, Ex.kind, Ex.text, Ex.num, Ex.args]; have HB8 := Lib.hid hb8; obtain ⟨x0, x1, x2, x3, xf⟩ := HEC7.out.below hb8; have xf0 := xf 0; have xf1 := xf 1; have xf2 := xf 2; have xf3 := xf 3; clear xf hb8 hra8 hcc8)
                  go_ret
                  exact ⟨rfl, (bthen HB7.out HB8.out).trans ((fr4 w8 be _ _ _ _).below (fun x e => by have := HBE.out; omega) (bthen HB7.out HB8.out).size)⟩
          · have hkb : decide (64 < k + 1) = false := decide_eq_false hbig
            have hkbi : decide ((64 : Int) < (k : Int) + 1) = false := decide_eq_false (by omega)
            have HTE : Hid (T.size = k + 1 ∧ C = 0) := Lib.hid (by have := HTC.out; rw [if_neg hbig] at this; exact this)
            have hC : C = 0 := HTE.out.2
            subst hC
            have hts : (T.size : Int) = (k : Int) + 1 := by have := HTE.out.1; omega
            clear hbig
            go_upto_region 20 with (first
              | (go_at_call 9; refine (awake_any _).mono ?_; rintro e w3 ⟨rfl, hb3⟩; have HB3 := Lib.hid hb3; obtain ⟨x0, x1, x2, x3, xf⟩ := HEC2.out.below hb3; clear xf hb3)
              | (go_at_call 10; refine (num_errN _ _).mono ?_; rintro e w4 ⟨rfl, rfl⟩)
              | (go_at_call 14; refine (size_any _ T aa cc _ (HRA2.out.below HB3.out) HCC.out (by have := HTS.out; omega)).mono ?_; rintro e w5 ⟨rfl, hb5⟩; have HB5 := Lib.hid hb5; clear hb5))
            clear hts
            have HBX : Hid (Below w2.heap.size w2 w5) := Lib.hid (bthen HB3.out HB5.out)
            obtain ⟨wx, hwx⟩ : ∃ wx, wx = w5 := ⟨_, rfl⟩
            rw [← hwx] at HBX ⊢
            have HECX := Lib.hid (HEC2.out.below HBX.out)
            clear hwx
            go_wp2_with (at_make; refine make_full EU8' rfl _ _ rfl wx.heap.size _ _ _ _ m rfl rfl (by go_num) (by go_num) (by have := HMM.out; omega) (by have := HMM.out; omega) (Nat.le_refl _) ?_; intro w6 ho6 hg6; have HO6 := Lib.hid ho6; have HB6 : Hid (Below wx.heap.size wx w6) := Lib.hid (grown_below' hg6 (Nat.le_refl _)); clear ho6 hg6)
            obtain ⟨g, hg⟩ : ∃ g, g = wx.heap.size := ⟨_, rfl⟩
            rw [← hg] at HO6
            have HBEG : Hid (be < g) := Lib.hid (by rw [hg]; exact HECX.out.lt)
            have HGX : Hid (g = wx.heap.size) := Lib.hid hg
            rw [← hg]
            clear hg
            go_loopw [13] (fun iv wr => ∃ i : Nat, iv = .int .i64 i ∧ i ≤ m ∧ Own wr wx.heap.size 5 .u8 (.slice (some ⟨g, 0, none⟩) m m) (List.replicate i 32 ++ List.replicate (m - i) 0) ∧ Fr (fun x => x = g) w6 wr) (fun iv _ => m - (intOf iv).toNat)
            case atStart => exact ⟨0, rfl, by omega, by simpa using Own.mono HO6.out (Nat.le_of_eq HGX.out.symm), Fr.refl _ _⟩
            case round =>
              obtain ⟨i, rfl, hi, ho, hf⟩ := hrel
              have HO := Lib.hid ho
              have HF := Lib.hid hf
              by_cases hlt : i < m
              · have hii : (i : Int) < (m : Int) := by omega
                have HLT := Lib.hid hlt
                clear hi hlt ho hf
                go_wp2_with (refine store_i rfl 5 .u8 _ _ rfl g i rfl 32 rfl (by kernel_rfl) wx.heap.size 5 m m _ HO.out (by simp; have := HLT.out; omega) (by simp; have := HLT.out; omega) ?_; intro w7 ho7 hg7; have HO7 := Lib.hid ho7; have HF7 : Hid (Fr (fun x => x = g) _ w7) := Lib.hid (Fr.of_grown hg7 (fun k hk => by cases hk; rfl)); clear ho7 hg7)
                exact ⟨⟨i + 1, by go_num, HLT.out, by have h := HO7.out; rwa [fill_set HLT.out] at h, HF.out.trans HF7.out⟩, by have := HLT.out; simp only [intOf]; omega⟩
              · obtain rfl : i = m := by omega
                have HO8 : Hid (Own wr wx.heap.size 5 .u8 (.slice (some ⟨g, 0, none⟩) i i) (List.replicate i 32)) := Lib.hid (by simpa using ho)
                obtain ⟨h2, hh2⟩ : ∃ h2, h2 = i / 2 := ⟨_, rfl⟩
                rw [← hh2] at hm2i hm2t HS2
                have hh2i : (h2 : Int) < (i : Int) := by have := HMM.out; omega
                have hh2n : h2 < i := by have := HMM.out; omega
                clear hi hlt ho HO hf hh2
                go_upto_region 26 with (refine store_i rfl 5 .u8 _ _ rfl g h2 rfl 55 rfl (by kernel_rfl) wx.heap.size 5 i i _ HO8.out (by simp) (by simpa using hh2n) ?_; intro w7 ho7 hg7; have HO7 := Lib.hid ho7; have HF7 : Hid (Fr (fun x => x = g) _ w7) := Lib.hid (Fr.of_grown hg7 (fun k hk => by cases hk; rfl)); clear ho7 hg7)
                have hcv := run_str w7 i (Own.rd (n := i) (a := some ⟨g, 0, none⟩) (by have h := HO7.out; exact h) (fun y hy => by rcases List.mem_or_eq_of_mem_set hy with hy | hy <;> first | (rw [(List.mem_replicate.1 hy).2]; decide) | (rw [hy]; decide))) rfl 45 9 5 Try.underlying45 Try.underlying5 Try.underlying9
                rw [HS2.out] at hcv
                have HF67 : Hid (Fr (fun x => x = g) w6 w7) := Lib.hid (HF.out.trans HF7.out)
                have HEC7 : Hid (EC w7 be T aa cc) := Lib.hid ((HECX.out.below HB6.out).fr HF67.out (by have := HBEG.out; omega))
                have HB7 : Hid (Below W.heap.size W w7) := Lib.hid ((HB2.out.trans (HBX.out.mono HB2.out.size)).trans ((HB6.out.trans (HF67.out.below (fun x e => by rw [e]; have := HGX.out; omega) HB6.out.size)).mono (by have := HB2.out.size; have := HBX.out.size; omega)))
                by_cases hl : 4096 < i
                · have hlb : decide (4096 < i) = true := decide_eq_true hl
                  have hlbi : decide ((4096 : Int) < (i : Int)) = true := decide_eq_true (by omega)
                  rw [if_pos hl] at HP2
                  have HIS := Lib.hid (is_errN 9)
                  rw [show decide ((9 : Nat) = 9) = true from rfl] at HIS
                  clear hl
                  go_wp2_with (first
                    | (go_at_call 11; refine (HP2.out _).mono ?_; rintro e w8 ⟨aa8, cc8, rfl, hcc8, hra8, hb8⟩; simp only [exV]; have HB8 := Lib.hid hb8; obtain ⟨x0, x1, x2, x3, xf⟩ := HEC7.out.below hb8; have xf0 := xf 0; have xf1 := xf 1; have xf2 := xf 2; have xf3 := xf 3; clear xf hb8 hra8 hcc8)
                    | (go_at_call 15; refine (HIS.out _).mono ?_; rintro e w9 ⟨rfl, rfl⟩))
                  go_ret
                  exact ⟨rfl, (bthen HB7.out HB8.out).trans ((fr4 w8 be _ _ _ _).below (fun x e => by have := HBE.out; omega) (bthen HB7.out HB8.out).size)⟩
                · have hlb : decide (4096 < i) = false := decide_eq_false hl
                  have hlbi : decide ((4096 : Int) < (i : Int)) = false := decide_eq_false (by omega)
                  rw [if_neg hl] at HP2
                  simp only [errN_zero] at HP2
                  clear hl
                  go_wp2_with (go_at_call 11; refine (HP2.out _).mono ?_; rintro e w8 ⟨aa8, cc8, rfl, hcc8, hra8, hb8⟩; simp only [exV, Ex.kind, Ex.text, Ex.num, Ex.args]; have HB8 := Lib.hid hb8; obtain ⟨x0, x1, x2, x3, xf⟩ := HEC7.out.below hb8; have xf0 := xf 0; have xf1 := xf 1; have xf2 := xf 2; have xf3 := xf 3; clear xf hb8 hra8 hcc8)
                  go_ret
                  exact ⟨rfl, (bthen HB7.out HB8.out).trans ((fr4 w8 be _ _ _ _).below (fun x e => by have := HBE.out; omega) (bthen HB7.out HB8.out).size)⟩
  | true =>
    go_enter Try.func5, Try.ntmps5
    go_wp2
    go_loop [6, 7] (fun tv iv => ∃ (i : Nat) (s : ByteArray), iv = .int .i64 i ∧ i ≤ k ∧ tv = .string s ∧ ns s = (List.replicate i [102, 40]).flatten ∧ s.size = 2 * i) (fun _ iv => k - (intOf iv).toNat)
    case atStart => exact ⟨0, ⟨#[]⟩, rfl, by omega, rfl, rfl, rfl⟩
    case round =>
      obtain ⟨i, s, rfl, hi, rfl, hs, hsz⟩ := hrel
      have HS := Lib.hid hs
      have HSZ := Lib.hid hsz
      have hsi : (s.size : Int) ≤ 400 := by have := HKN.out; omega
      have hsn : s.size ≤ 400 := by have := HKN.out; omega
      by_cases hlt : i < k
      · have hii : (i : Int) < (k : Int) := by omega
        have HLT := Lib.hid hlt
        clear hs hsz hi hlt
        go_wp2
        exact ⟨⟨i + 1, s ++ ⟨#[102, 40]⟩, by go_num, HLT.out, rfl, by rw [ns_append, HS.out, List.replicate_succ', List.flatten_append]; rfl, by rw [size_append', HSZ.out]; show 2 * i + 2 = _; omega⟩, by have := HLT.out; simp only [intOf]; omega⟩
      · obtain rfl : i = k := by omega
        clear hs hsz hi hlt
        obtain ⟨s1, hs1⟩ : ∃ s1, s1 = s ++ (⟨#[49]⟩ : ByteArray) := ⟨_, rfl⟩
        have HS1 : Hid (ns s1 = (List.replicate i [102, 40]).flatten ++ [49] ∧ s1.size = 2 * i + 1) := Lib.hid (by
          rw [hs1]; exact ⟨by rw [ns_append, HS.out]; rfl, by rw [size_append', HSZ.out]; rfl⟩)
        go_upto_region 10 with fail
        rw [← hs1]
        clear hs1 HS HSZ hsi hsn
        go_wp2
        go_loop [6, 8] (fun tv iv => ∃ (j : Nat) (s : ByteArray), iv = .int .i64 j ∧ j ≤ i ∧ tv = .string s ∧ ns s = (List.replicate i [102, 40]).flatten ++ [49] ++ List.replicate j 41 ∧ s.size = 2 * i + 1 + j) (fun _ iv => i - (intOf iv).toNat)
        case atStart => exact ⟨0, s1, rfl, by omega, rfl, by rw [HS1.out.1]; simp, by rw [HS1.out.2]⟩
        case round =>
          obtain ⟨j, s, rfl, hj, rfl, hs, hsz⟩ := hrel
          have HS := Lib.hid hs
          have HSZ := Lib.hid hsz
          have hsi : (s.size : Int) ≤ 400 := by have := HKN.out; omega
          have hsn : s.size ≤ 400 := by have := HKN.out; omega
          by_cases hlt : j < i
          · have hii : (j : Int) < (i : Int) := by omega
            have HLT := Lib.hid hlt
            clear hs hsz hj hlt
            go_wp2
            exact ⟨⟨j + 1, s ++ ⟨#[41]⟩, by go_num, HLT.out, rfl, by rw [ns_append, HS.out, List.replicate_succ' (n := j)]; simp only [List.append_assoc]; rfl, by rw [size_append', HSZ.out]; show 2 * i + 1 + j + 1 = _; omega⟩, by have := HLT.out; simp only [intOf]; omega⟩
          · obtain rfl : j = i := by omega
            obtain ⟨k, hkk⟩ : ∃ k, k = j := ⟨_, rfl⟩
            subst hkk
            clear hs hsz hj hlt
            have HWW := Lib.hid (appK_w k)
            have HEQ : Hid (s = bs (txI (wI (appK k)))) := Lib.hid (by apply eq_bs; rw [HS.out, HWW.out.2.2.2])
            have HSS : Hid (s.size ≤ 4096) := Lib.hid (by rw [HSZ.out]; have := HKN.out; omega)
            obtain ⟨T, hT⟩ : ∃ T, T = (parseP s).2 := ⟨_, rfl⟩
            obtain ⟨C, hC⟩ : ∃ C, C = (parseP s).1 := ⟨_, rfl⟩
            have hpp : parseP s = if 64 < k + 1 then (9, eE) else (0, appK k) := by
              rw [HEQ.out, parse_fm HWW.out.1 (by rw [← fm_size HWW.out.1, ← HEQ.out]; exact HSS.out), HWW.out.2.1]
            have HPP : Hid (parseP s = (C, T)) := Lib.hid (by rw [hT, hC])
            have HTC : Hid (if 64 < k + 1 then (T = eE ∧ C = 9) else (T.size = k + 1 ∧ C = 0)) := Lib.hid (by
              rw [hT, hC, hpp]
              split
              · exact ⟨rfl, rfl⟩
              · exact ⟨HWW.out.2.2.1, rfl⟩)
            have HTS : Hid (T.size ≤ 1000000) := Lib.hid (by have := parseP_sz s; rw [← hT] at this; omega)
            clear hT hC hpp HWW HEQ HS1 HS HSZ hsi hsn
            have HP : Hid (∀ w, Calls Try.prog 11 #[.string s] w (ParsePost w s)) := Lib.hid (fun w => parse_any s w (by have := HSS.out; omega))
            unfold ParsePost at HP
            rw [HPP.out] at HP
            obtain ⟨s2, hs2⟩ : ∃ s2, s2 = bs (List.replicate (m / 2) 32 ++ 55 :: List.replicate (m - (m / 2 + 1)) 32) := ⟨_, rfl⟩
            have h28 : ∀ c ∈ List.replicate (m / 2) 32 ++ 55 :: List.replicate (m - (m / 2 + 1)) 32, c < 256 := by
              intro c hc
              rcases List.mem_append.1 hc with hc | hc
              · rw [(List.mem_replicate.1 hc).2]; decide
              · rcases List.mem_cons.1 hc with rfl | hc
                · decide
                · rw [(List.mem_replicate.1 hc).2]; decide
            have hs2z : s2.size = m := by
              rw [hs2, bs_sz h28]; simp; omega
            have hp2 : parseP s2 = if 4096 < m then (9, eE) else (0, .mk 1 (bs []) ((7 : Nat) : Int) []) := by
              have := wide_parse (s := s2) (a := m / 2) (b := m - (m / 2 + 1)) (by rw [hs2, ns_bs' h28]) (by rw [hs2z]; omega)
              rw [hs2z] at this; exact this
            have HP2 : Hid (∀ w, Calls Try.prog 11 #[.string s2] w (ParsePost w s2)) := Lib.hid (fun w => parse_any s2 w (by omega))
            unfold ParsePost at HP2
            rw [hp2] at HP2
            have HS2 : Hid (strOfNums ((List.replicate m (32 : Int)).set (m / 2) 55) = s2) := Lib.hid (by rw [wide_set (by omega), hs2]; rfl)
            have HP28 := Lib.hid h28
            have HMM : Hid (4095 ≤ m ∧ m ≤ 4097) := Lib.hid ⟨hm1, hm2⟩
            have hm2i : (m : Int) / 2 = ((m / 2 : Nat) : Int) := by omega
            have hm2t : Int.tdiv (m : Int) 2 = ((m / 2 : Nat) : Int) := by rw [Int.tdiv_eq_ediv_of_nonneg (by omega)]; exact hm2i
            clear hs2 h28 hs2z hp2
            go_upto_region 15 with (go_at_call 11; refine (HP.out _).mono ?_; rintro e w1 ⟨aa, cc, rfl, hcc, hra, hb1⟩; simp only [exV])
            obtain ⟨w2, hw2⟩ : ∃ w2, w2 = w1.alloc (.cells #[.int .i64 T.kind, .string T.text, .int .i64 T.num, .slice aa T.args.length cc] 38) := ⟨_, rfl⟩
            rw [← hw2]
            obtain ⟨be, hbe⟩ : ∃ be, be = w1.heap.size := ⟨_, rfl⟩
            have hb2 : Below w1.heap.size w1 w2 := by rw [hw2]; exact below_alloc _ _
            have HB2 : Hid (Below W.heap.size W w2) := Lib.hid (bthen hb1 hb2)
            have HEC2 : Hid (EC w2 be T aa cc) := Lib.hid (by rw [hw2, hbe]; exact alloc_ec _ _ _ _ _)
            have HRA2 := Lib.hid (hra.below hb2)
            have HBE : Hid (W.heap.size ≤ be) := Lib.hid (by rw [hbe]; exact hb1.size)
            have HCC := Lib.hid hcc
            rw [← hbe]
            clear hw2 hbe hb2 hb1 hra hcc
            by_cases hbig : 64 < k + 1
            · have hkb : decide (64 < k + 1) = true := decide_eq_true hbig
              have hkbi : decide ((64 : Int) < (k : Int) + 1) = true := decide_eq_true (by omega)
              have HTE : Hid (T = eE ∧ C = 9) := Lib.hid (by have := HTC.out; rw [if_pos hbig] at this; exact this)
              have hC : C = 9 := HTE.out.2
              subst hC
              clear hbig
              go_upto_region 20 with (first
                | (go_at_call 9; refine (awake_any _).mono ?_; rintro e w3 ⟨rfl, hb3⟩; have HB3 := Lib.hid hb3; obtain ⟨x0, x1, x2, x3, xf⟩ := HEC2.out.below hb3; clear xf hb3)
                | (go_at_call 10; refine (num_errN _ _).mono ?_; rintro e w4 ⟨rfl, rfl⟩))
              have HBX : Hid (Below w2.heap.size w2 w3) := Lib.hid (HB3.out)
              obtain ⟨wx, hwx⟩ : ∃ wx, wx = w3 := ⟨_, rfl⟩
              rw [← hwx] at HBX ⊢
              have HECX := Lib.hid (HEC2.out.below HBX.out)
              clear hwx
              go_wp2_with (at_make; refine make_full EU8' rfl _ _ rfl wx.heap.size _ _ _ _ m rfl rfl (by go_num) (by go_num) (by have := HMM.out; omega) (by have := HMM.out; omega) (Nat.le_refl _) ?_; intro w6 ho6 hg6; have HO6 := Lib.hid ho6; have HB6 : Hid (Below wx.heap.size wx w6) := Lib.hid (grown_below' hg6 (Nat.le_refl _)); clear ho6 hg6)
              obtain ⟨g, hg⟩ : ∃ g, g = wx.heap.size := ⟨_, rfl⟩
              rw [← hg] at HO6
              have HBEG : Hid (be < g) := Lib.hid (by rw [hg]; exact HECX.out.lt)
              have HGX : Hid (g = wx.heap.size) := Lib.hid hg
              rw [← hg]
              clear hg
              go_loopw [13] (fun iv wr => ∃ i : Nat, iv = .int .i64 i ∧ i ≤ m ∧ Own wr wx.heap.size 5 .u8 (.slice (some ⟨g, 0, none⟩) m m) (List.replicate i 32 ++ List.replicate (m - i) 0) ∧ Fr (fun x => x = g) w6 wr) (fun iv _ => m - (intOf iv).toNat)
              case atStart => exact ⟨0, rfl, by omega, by simpa using Own.mono HO6.out (Nat.le_of_eq HGX.out.symm), Fr.refl _ _⟩
              case round =>
                obtain ⟨i, rfl, hi, ho, hf⟩ := hrel
                have HO := Lib.hid ho
                have HF := Lib.hid hf
                by_cases hlt : i < m
                · have hii : (i : Int) < (m : Int) := by omega
                  have HLT := Lib.hid hlt
                  clear hi hlt ho hf
                  go_wp2_with (refine store_i rfl 5 .u8 _ _ rfl g i rfl 32 rfl (by kernel_rfl) wx.heap.size 5 m m _ HO.out (by simp; have := HLT.out; omega) (by simp; have := HLT.out; omega) ?_; intro w7 ho7 hg7; have HO7 := Lib.hid ho7; have HF7 : Hid (Fr (fun x => x = g) _ w7) := Lib.hid (Fr.of_grown hg7 (fun k hk => by cases hk; rfl)); clear ho7 hg7)
                  exact ⟨⟨i + 1, by go_num, HLT.out, by have h := HO7.out; rwa [fill_set HLT.out] at h, HF.out.trans HF7.out⟩, by have := HLT.out; simp only [intOf]; omega⟩
                · obtain rfl : i = m := by omega
                  have HO8 : Hid (Own wr wx.heap.size 5 .u8 (.slice (some ⟨g, 0, none⟩) i i) (List.replicate i 32)) := Lib.hid (by simpa using ho)
                  obtain ⟨h2, hh2⟩ : ∃ h2, h2 = i / 2 := ⟨_, rfl⟩
                  rw [← hh2] at hm2i hm2t HS2
                  have hh2i : (h2 : Int) < (i : Int) := by have := HMM.out; omega
                  have hh2n : h2 < i := by have := HMM.out; omega
                  clear hi hlt ho HO hf hh2
                  go_upto_region 26 with (refine store_i rfl 5 .u8 _ _ rfl g h2 rfl 55 rfl (by kernel_rfl) wx.heap.size 5 i i _ HO8.out (by simp) (by simpa using hh2n) ?_; intro w7 ho7 hg7; have HO7 := Lib.hid ho7; have HF7 : Hid (Fr (fun x => x = g) _ w7) := Lib.hid (Fr.of_grown hg7 (fun k hk => by cases hk; rfl)); clear ho7 hg7)
                  have hcv := run_str w7 i (Own.rd (n := i) (a := some ⟨g, 0, none⟩) (by have h := HO7.out; exact h) (fun y hy => by rcases List.mem_or_eq_of_mem_set hy with hy | hy <;> first | (rw [(List.mem_replicate.1 hy).2]; decide) | (rw [hy]; decide))) rfl 45 9 5 Try.underlying45 Try.underlying5 Try.underlying9
                  rw [HS2.out] at hcv
                  have HF67 : Hid (Fr (fun x => x = g) w6 w7) := Lib.hid (HF.out.trans HF7.out)
                  have HEC7 : Hid (EC w7 be T aa cc) := Lib.hid ((HECX.out.below HB6.out).fr HF67.out (by have := HBEG.out; omega))
                  have HB7 : Hid (Below W.heap.size W w7) := Lib.hid ((HB2.out.trans (HBX.out.mono HB2.out.size)).trans ((HB6.out.trans (HF67.out.below (fun x e => by rw [e]; have := HGX.out; omega) HB6.out.size)).mono (by have := HB2.out.size; have := HBX.out.size; omega)))
                  by_cases hl : 4096 < i
                  · have hlb : decide (4096 < i) = true := decide_eq_true hl
                    have hlbi : decide ((4096 : Int) < (i : Int)) = true := decide_eq_true (by omega)
                    rw [if_pos hl] at HP2
                    have HIS := Lib.hid (is_errN 9)
                    rw [show decide ((9 : Nat) = 9) = true from rfl] at HIS
                    clear hl
                    go_wp2_with (first
                      | (go_at_call 11; refine (HP2.out _).mono ?_; rintro e w8 ⟨aa8, cc8, rfl, hcc8, hra8, hb8⟩; simp only [exV]; have HB8 := Lib.hid hb8; obtain ⟨x0, x1, x2, x3, xf⟩ := HEC7.out.below hb8; have xf0 := xf 0; have xf1 := xf 1; have xf2 := xf 2; have xf3 := xf 3; clear xf hb8 hra8 hcc8)
                      | (go_at_call 15; refine (HIS.out _).mono ?_; rintro e w9 ⟨rfl, rfl⟩))
                    go_ret
                    exact ⟨rfl, (bthen HB7.out HB8.out).trans ((fr4 w8 be _ _ _ _).below (fun x e => by have := HBE.out; omega) (bthen HB7.out HB8.out).size)⟩
                  · have hlb : decide (4096 < i) = false := decide_eq_false hl
                    have hlbi : decide ((4096 : Int) < (i : Int)) = false := decide_eq_false (by omega)
                    rw [if_neg hl] at HP2
                    simp only [errN_zero] at HP2
                    clear hl
                    go_wp2_with (go_at_call 11; refine (HP2.out _).mono ?_; rintro e w8 ⟨aa8, cc8, rfl, hcc8, hra8, hb8⟩; simp only [exV, Ex.kind, Ex.text, Ex.num, Ex.args]; have HB8 := Lib.hid hb8; obtain ⟨x0, x1, x2, x3, xf⟩ := HEC7.out.below hb8; have xf0 := xf 0; have xf1 := xf 1; have xf2 := xf 2; have xf3 := xf 3; clear xf hb8 hra8 hcc8)
                    go_ret
                    exact ⟨rfl, (bthen HB7.out HB8.out).trans ((fr4 w8 be _ _ _ _).below (fun x e => by have := HBE.out; omega) (bthen HB7.out HB8.out).size)⟩
            · have hkb : decide (64 < k + 1) = false := decide_eq_false hbig
              have hkbi : decide ((64 : Int) < (k : Int) + 1) = false := decide_eq_false (by omega)
              have HTE : Hid (T.size = k + 1 ∧ C = 0) := Lib.hid (by have := HTC.out; rw [if_neg hbig] at this; exact this)
              have hC : C = 0 := HTE.out.2
              subst hC
              have hts : (T.size : Int) = (k : Int) + 1 := by have := HTE.out.1; omega
              clear hbig
              go_upto_region 20 with (first
                | (go_at_call 9; refine (awake_any _).mono ?_; rintro e w3 ⟨rfl, hb3⟩; have HB3 := Lib.hid hb3; obtain ⟨x0, x1, x2, x3, xf⟩ := HEC2.out.below hb3; clear xf hb3)
                | (go_at_call 10; refine (num_errN _ _).mono ?_; rintro e w4 ⟨rfl, rfl⟩)
                | (go_at_call 14; refine (size_any _ T aa cc _ (HRA2.out.below HB3.out) HCC.out (by have := HTS.out; omega)).mono ?_; rintro e w5 ⟨rfl, hb5⟩; have HB5 := Lib.hid hb5; clear hb5))
              clear hts
              have HBX : Hid (Below w2.heap.size w2 w5) := Lib.hid (bthen HB3.out HB5.out)
              obtain ⟨wx, hwx⟩ : ∃ wx, wx = w5 := ⟨_, rfl⟩
              rw [← hwx] at HBX ⊢
              have HECX := Lib.hid (HEC2.out.below HBX.out)
              clear hwx
              go_wp2_with (at_make; refine make_full EU8' rfl _ _ rfl wx.heap.size _ _ _ _ m rfl rfl (by go_num) (by go_num) (by have := HMM.out; omega) (by have := HMM.out; omega) (Nat.le_refl _) ?_; intro w6 ho6 hg6; have HO6 := Lib.hid ho6; have HB6 : Hid (Below wx.heap.size wx w6) := Lib.hid (grown_below' hg6 (Nat.le_refl _)); clear ho6 hg6)
              obtain ⟨g, hg⟩ : ∃ g, g = wx.heap.size := ⟨_, rfl⟩
              rw [← hg] at HO6
              have HBEG : Hid (be < g) := Lib.hid (by rw [hg]; exact HECX.out.lt)
              have HGX : Hid (g = wx.heap.size) := Lib.hid hg
              rw [← hg]
              clear hg
              go_loopw [13] (fun iv wr => ∃ i : Nat, iv = .int .i64 i ∧ i ≤ m ∧ Own wr wx.heap.size 5 .u8 (.slice (some ⟨g, 0, none⟩) m m) (List.replicate i 32 ++ List.replicate (m - i) 0) ∧ Fr (fun x => x = g) w6 wr) (fun iv _ => m - (intOf iv).toNat)
              case atStart => exact ⟨0, rfl, by omega, by simpa using Own.mono HO6.out (Nat.le_of_eq HGX.out.symm), Fr.refl _ _⟩
              case round =>
                obtain ⟨i, rfl, hi, ho, hf⟩ := hrel
                have HO := Lib.hid ho
                have HF := Lib.hid hf
                by_cases hlt : i < m
                · have hii : (i : Int) < (m : Int) := by omega
                  have HLT := Lib.hid hlt
                  clear hi hlt ho hf
                  go_wp2_with (refine store_i rfl 5 .u8 _ _ rfl g i rfl 32 rfl (by kernel_rfl) wx.heap.size 5 m m _ HO.out (by simp; have := HLT.out; omega) (by simp; have := HLT.out; omega) ?_; intro w7 ho7 hg7; have HO7 := Lib.hid ho7; have HF7 : Hid (Fr (fun x => x = g) _ w7) := Lib.hid (Fr.of_grown hg7 (fun k hk => by cases hk; rfl)); clear ho7 hg7)
                  exact ⟨⟨i + 1, by go_num, HLT.out, by have h := HO7.out; rwa [fill_set HLT.out] at h, HF.out.trans HF7.out⟩, by have := HLT.out; simp only [intOf]; omega⟩
                · obtain rfl : i = m := by omega
                  have HO8 : Hid (Own wr wx.heap.size 5 .u8 (.slice (some ⟨g, 0, none⟩) i i) (List.replicate i 32)) := Lib.hid (by simpa using ho)
                  obtain ⟨h2, hh2⟩ : ∃ h2, h2 = i / 2 := ⟨_, rfl⟩
                  rw [← hh2] at hm2i hm2t HS2
                  have hh2i : (h2 : Int) < (i : Int) := by have := HMM.out; omega
                  have hh2n : h2 < i := by have := HMM.out; omega
                  clear hi hlt ho HO hf hh2
                  go_upto_region 26 with (refine store_i rfl 5 .u8 _ _ rfl g h2 rfl 55 rfl (by kernel_rfl) wx.heap.size 5 i i _ HO8.out (by simp) (by simpa using hh2n) ?_; intro w7 ho7 hg7; have HO7 := Lib.hid ho7; have HF7 : Hid (Fr (fun x => x = g) _ w7) := Lib.hid (Fr.of_grown hg7 (fun k hk => by cases hk; rfl)); clear ho7 hg7)
                  have hcv := run_str w7 i (Own.rd (n := i) (a := some ⟨g, 0, none⟩) (by have h := HO7.out; exact h) (fun y hy => by rcases List.mem_or_eq_of_mem_set hy with hy | hy <;> first | (rw [(List.mem_replicate.1 hy).2]; decide) | (rw [hy]; decide))) rfl 45 9 5 Try.underlying45 Try.underlying5 Try.underlying9
                  rw [HS2.out] at hcv
                  have HF67 : Hid (Fr (fun x => x = g) w6 w7) := Lib.hid (HF.out.trans HF7.out)
                  have HEC7 : Hid (EC w7 be T aa cc) := Lib.hid ((HECX.out.below HB6.out).fr HF67.out (by have := HBEG.out; omega))
                  have HB7 : Hid (Below W.heap.size W w7) := Lib.hid ((HB2.out.trans (HBX.out.mono HB2.out.size)).trans ((HB6.out.trans (HF67.out.below (fun x e => by rw [e]; have := HGX.out; omega) HB6.out.size)).mono (by have := HB2.out.size; have := HBX.out.size; omega)))
                  by_cases hl : 4096 < i
                  · have hlb : decide (4096 < i) = true := decide_eq_true hl
                    have hlbi : decide ((4096 : Int) < (i : Int)) = true := decide_eq_true (by omega)
                    rw [if_pos hl] at HP2
                    have HIS := Lib.hid (is_errN 9)
                    rw [show decide ((9 : Nat) = 9) = true from rfl] at HIS
                    clear hl
                    go_wp2_with (first
                      | (go_at_call 11; refine (HP2.out _).mono ?_; rintro e w8 ⟨aa8, cc8, rfl, hcc8, hra8, hb8⟩; simp only [exV]; have HB8 := Lib.hid hb8; obtain ⟨x0, x1, x2, x3, xf⟩ := HEC7.out.below hb8; have xf0 := xf 0; have xf1 := xf 1; have xf2 := xf 2; have xf3 := xf 3; clear xf hb8 hra8 hcc8)
                      | (go_at_call 15; refine (HIS.out _).mono ?_; rintro e w9 ⟨rfl, rfl⟩))
                    go_ret
                    exact ⟨rfl, (bthen HB7.out HB8.out).trans ((fr4 w8 be _ _ _ _).below (fun x e => by have := HBE.out; omega) (bthen HB7.out HB8.out).size)⟩
                  · have hlb : decide (4096 < i) = false := decide_eq_false hl
                    have hlbi : decide ((4096 : Int) < (i : Int)) = false := decide_eq_false (by omega)
                    rw [if_neg hl] at HP2
                    simp only [errN_zero] at HP2
                    clear hl
                    go_wp2_with (go_at_call 11; refine (HP2.out _).mono ?_; rintro e w8 ⟨aa8, cc8, rfl, hcc8, hra8, hb8⟩; simp only [exV, Ex.kind, Ex.text, Ex.num, Ex.args]; have HB8 := Lib.hid hb8; obtain ⟨x0, x1, x2, x3, xf⟩ := HEC7.out.below hb8; have xf0 := xf 0; have xf1 := xf 1; have xf2 := xf 2; have xf3 := xf 3; clear xf hb8 hra8 hcc8)
                    go_ret
                    exact ⟨rfl, (bthen HB7.out HB8.out).trans ((fr4 w8 be _ _ _ _).below (fun x e => by have := HBE.out; omega) (bthen HB7.out HB8.out).size)⟩

end Go.Proofs.Ytpabngicbfcdkaa
