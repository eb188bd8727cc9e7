/-
  The reference's token: digits.
-/
import Derived.Test.YtpabngicbfcdkaaRf3
import Derived.Deep.RegionWith
namespace Go.Proofs.Ytpabngicbfcdkaa
open Go.RowKit
set_option linter.unusedVariables false
set_option linter.unusedSimpArgs false

theorem spn_ge {is : Nat → Bool} : ∀ {l : List Nat} {k : Nat}, (∀ j c, j < k → l[j]? = some c → is c = true) → k ≤ l.length → k ≤ spn is l
  | [], k, _, hk => by simp at hk; omega
  | x :: r, 0, _, _ => by omega
  | x :: r, k + 1, h1, hk => by
    have hx := h1 0 x (by omega) rfl
    have := spn_ge (is := is) (l := r) (k := k) (fun j c hj hc => h1 (j + 1) c (by omega) (by simpa using hc)) (by simpa using hk)
    rw [spn_pos hx]; omega
theorem take_spn_eq (is : Nat → Bool) (l : List Nat) : l.take (spn is l) = l.takeWhile is := by
  unfold spn
  exact (List.prefix_iff_eq_take.1 (List.takeWhile_prefix is)).symm

/-- what token returns -/
def RtokPost (i : Nat) (o : Option ((Nat × List Nat × Nat) × Nat)) (e : Ending) : Prop := match o with
  | some ((k, t, v), n) => e = .returned (.tuple #[tokV k (bs t) v i, .int .i64 ((i + n : Nat) : Int)])
  | none => ∃ k a, e = .returned (.tuple #[tokV k ⟨#[]⟩ 0 a, .int .i64 (-1)])

structure TX (s : ByteArray) (i : Nat) (w w1 : World) (c : Nat) (r : List Nat) : Prop where
  hs : s.size ≤ 1000000000
  hlt : i < s.size
  hw : w1 = w.alloc (.cells #[.int .i64 0, .string ⟨#[]⟩, .int .i64 0, .int .i64 0] 34)
  hns : (ns s).drop i = c :: r
  hc : (s[i]'hlt).toNat = c
theorem TX.fin {s i w w1 c r} (h : TX s i w w1 c r) : ∀ wx wf, Below w1.heap.size w1 wx → Fr (fun x => x = w.heap.size) wx wf → Below w.heap.size w wf := fun wx wf hb hf => by
  have HB1 : Below w.heap.size w w1 := by rw [h.hw]; exact below_alloc _ _
  exact (bthen HB1 hb).trans (hf.below (fun x e => by omega) (bthen HB1 hb).size)
theorem TX.tc {s i w w1 c r} (h : TX s i w w1 c r) : TC w1 w.heap.size 0 ByteArray.empty 0 0 := by rw [h.hw]; exact alloc_tc _ _ _ _ _ _
theorem TX.mk' (s : ByteArray) (i : Nat) (w : World) (hs : s.size ≤ 1000000000) (hlt : i < s.size) : ∃ w1 r, TX s i w w1 (s[i]'hlt).toNat r := by
  refine ⟨_, (ns s).drop (i + 1), hs, hlt, rfl, ?_, rfl⟩
  rw [List.drop_eq_getElem_cons (by rw [ns_len]; exact hlt)]
  rw [(List.getElem?_eq_some_iff.1 (ns_get hlt)).2]
theorem TX.c9 {s i w w1 c r} (h : TX s i w w1 c r) : c < 256 := by rw [← h.hc]; exact (s[i]'h.hlt).toNat_lt
theorem TX.get {s i w w1 c r} (h : TX s i w w1 c r) {p x : Nat} (hip : i ≤ p) (hg : (ns s)[p]? = some x) : (c :: r)[p - i]? = some x := by
  rw [← h.hns, List.getElem?_drop, show i + (p - i) = p by omega]; exact hg
theorem TX.len {s i w w1 c r} (h : TX s i w w1 c r) : i + (c :: r).length = s.size := by
  rw [← h.hns, List.length_drop, ns_len]; have := h.hlt; omega

set_option maxRecDepth 100000 in
set_option maxHeartbeats 1500000 in
theorem rtok_dig (s : ByteArray) (i : Nat) (w w1 : World) (c : Nat) (r : List Nat) (hx : TX s i w w1 c r) (hd : digB c = true) : Calls Try.prog 21 #[.string s, .int .i64 i] w fun e w' => RtokPost i (nextP ((ns s).drop i)) e ∧ Below w.heap.size w w' := by
  have hsi : (s.size : Int) ≤ 1000000000 := by have := hx.hs; omega
  have hli : (i : Int) < (s.size : Int) := by have := hx.hlt; omega
  have hlt0 := hx.hlt
  have hc : (s[i]'hlt0).toNat = c := hx.hc
  have h48 : 48 ≤ c ∧ c ≤ 57 := by simpa [digB] using hd
  have d1 : (48 : Int) ≤ (c : Int) := by omega
  have d2 : (c : Int) ≤ 57 := by omega
  obtain ⟨r0, r1, r2, r3, rf⟩ := hx.tc
  have rf0 := rf 0
  have rf1 := rf 1
  have rf2 := rf 2
  have rf3 := rf 3
  have HFIN := Lib.hid hx.fin
  have HW1 := Lib.hid hx.hw
  have HNX : Hid (nextP ((ns s).drop i) = match valP ((c :: r).takeWhile digB) with | none => none | some v => some ((1, [], v), spn digB (c :: r))) := Lib.hid (by rw [next_dig hx.hns hd, hx.hns, take_spn_eq]; cases valP ((c :: r).takeWhile digB) <;> rfl)
  have HVP : Hid (valP ((c :: r).takeWhile digB) = if c = 48 ∧ 1 < spn digB (c :: r) then none else valGo 0 ((c :: r).takeWhile digB)) := Lib.hid (by
    unfold valP
    rw [show ((c :: r).takeWhile digB).head? = some c by rw [List.takeWhile_cons, if_pos hd]; rfl, show ((c :: r).takeWhile digB).length = spn digB (c :: r) from rfl]
    simp)
  have HX := Lib.hid hx
  have HDR : Hid ((ns s).drop i = c :: r) := Lib.hid hx.hns
  clear hx hd h48 rf
  go_enter Try.func21, Try.ntmps21
  go_upto_region 1 with fail
  rw [← HW1.out]
  go_wp2
  go_loop [6, 8] (fun ev nv => ∃ p n : Nat, ev = .int .i64 p ∧ i ≤ p ∧ p ≤ s.size ∧ (∀ j x, j < p - i → (c :: r)[j]? = some x → digB x = true) ∧ nv = .int .i64 n ∧ n ≤ 1152921504606846976 ∧ valGo n (((ns s).drop p).takeWhile digB) = valGo 0 ((c :: r).takeWhile digB) ∧ (c = 48 → p ≤ i + 1)) (fun ev _ => s.size - (intOf ev).toNat)
  case atStart => exact ⟨i, 0, rfl, by omega, by omega, fun j x hj => by omega, rfl, by omega, by rw [HDR.out], fun _ => by omega⟩
  case round =>
    obtain ⟨p, n, rfl, hip, hp, hall, rfl, hn, hv, h0⟩ := hrel
    have hni : (n : Int) ≤ 1152921504606846976 := by omega
    have HN := Lib.hid hn
    have HIP := Lib.hid hip
    have HALL := Lib.hid hall
    have H0 := Lib.hid h0
    have HVV := Lib.hid hv
    by_cases hlt : p < s.size
    · have hg := ns_get hlt
      obtain ⟨x, hxx⟩ : ∃ x, (s[p]'hlt).toNat = x := ⟨_, rfl⟩
      rw [hxx] at hg
      have HG := Lib.hid hg
      have hx9 : x < 256 := by rw [← hxx]; exact (s[p]'hlt).toNat_lt
      have hx9i : (x : Int) ≤ 255 := by omega
      have HLT := Lib.hid hlt
      have hpi : (p : Int) < (s.size : Int) := by omega
      have HDP : Hid ((ns s).drop p = x :: (ns s).drop (p + 1)) := Lib.hid (by
        rw [List.drop_eq_getElem_cons (by rw [ns_len]; exact hlt)]
        rw [(List.getElem?_eq_some_iff.1 hg).2])
      by_cases hdx : digB x = true
      · have h48 : 48 ≤ x ∧ x ≤ 57 := by simpa [digB] using hdx
        have g1 : (48 : Int) ≤ (x : Int) := by omega
        have g2 : (x : Int) ≤ 57 := by omega
        obtain ⟨d, hd⟩ : ∃ d, d = x - 48 := ⟨_, rfl⟩
        have hdi : (x : Int) - 48 = (d : Int) := by omega
        have hd9 : (d : Int) ≤ 9 := by omega
        have hv2 : valGo n (((ns s).drop p).takeWhile digB) = if (1152921504606846976 - d) / 10 < n then none else valGo (10 * n + d) (((ns s).drop (p + 1)).takeWhile digB) := by
          rw [HDP.out, List.takeWhile_cons, if_pos hdx, valGo, ← hd]
        have hall2 : ∀ j y, j < p + 1 - i → (c :: r)[j]? = some y → digB y = true := fun j y hj hy => by
          by_cases e : j < p - i
          · exact HALL.out j y e hy
          · have e2 : j = p - i := by have := HIP.out; omega
            subst e2
            rw [HX.out.get HIP.out HG.out] at hy
            cases hy; exact hdx
        have hspn : p + 1 - i ≤ spn digB (c :: r) := spn_ge hall2 (by have := HX.out.len; have := HIP.out; have := HLT.out; omega)
        have HALL2 := Lib.hid hall2
        by_cases ho : (1152921504606846976 - d) / 10 < n
        · rw [if_pos ho] at hv2
          have HE : Hid (nextP ((ns s).drop i) = none) := Lib.hid (by
            rw [HNX.out]
            have : valP ((c :: r).takeWhile digB) = none := by
              rw [HVP.out]
              split
              · rfl
              · rw [← HVV.out, hv2]
            rw [this])
          have hoi : (1152921504606846976 - (d : Int)) / 10 < (n : Int) := by omega
          clear hv2 ho hg hdx h48 hd hp hn hip hall hv h0 hx9 hall2 hspn
          go_wp2
          exact bodyPost_ret (v := .tuple #[.agg #[.int .i64 0, .string ⟨#[]⟩, .int .i64 0, .int .i64 0], .int .i64 (-1)]) (by simp [results, Try.results21, go_sem, r0, r1, r2, r3]; try rfl) rfl ⟨by rw [HE.out]; exact ⟨0, 0, rfl⟩, HFIN.out _ _ (Below.refl _ _) (fr4 w1 w.heap.size (.int .i64 0) (.string ⟨#[]⟩) (.int .i64 0) (.int .i64 0))⟩
        · rw [if_neg ho] at hv2
          have hoi : decide ((1152921504606846976 - (d : Int)) / 10 < (n : Int)) = false := decide_eq_false (by omega)
          by_cases hz : i < p ∧ c = 48
          · have HE : Hid (nextP ((ns s).drop i) = none) := Lib.hid (by
              rw [HNX.out, HVP.out, if_pos ⟨hz.2, by omega⟩])
            have z1 : (i : Int) < (p : Int) := by omega
            have z2 : ((c : Int) == 48) = true := by rw [beq_iff_eq]; omega
            clear hv2 ho hg hdx h48 hd hp hn hip hall hv h0 hx9 hall2 hspn hz
            go_wp2
            exact bodyPost_ret (v := .tuple #[.agg #[.int .i64 0, .string ⟨#[]⟩, .int .i64 0, .int .i64 0], .int .i64 (-1)]) (by simp [results, Try.results21, go_sem, r0, r1, r2, r3]; try rfl) rfl ⟨by rw [HE.out]; exact ⟨0, 0, rfl⟩, HFIN.out _ _ (Below.refl _ _) (fr4 w1 w.heap.size (.int .i64 0) (.string ⟨#[]⟩) (.int .i64 0) (.int .i64 0))⟩
          · have HV2 : Hid (valGo (10 * n + d) (((ns s).drop (p + 1)).takeWhile digB) = valGo 0 ((c :: r).takeWhile digB)) := Lib.hid (by rw [← hv2]; exact HVV.out)
            have hn9 : 10 * n + d ≤ 1152921504606846976 := by omega
            have HN2 := Lib.hid hn9
            have hn9i : 10 * (n : Int) + (d : Int) ≤ 1152921504606846976 := by omega
            have HZ : Hid (c = 48 → p + 1 ≤ i + 1) := Lib.hid (fun e => by
              by_cases e2 : i < p
              · exact absurd ⟨e2, e⟩ hz
              · omega)
            have hz2 : decide (i < p) = false ∨ (decide (i < p) = true ∧ ((c : Int) == 48) = false) := by
              by_cases e2 : i < p
              · exact .inr ⟨decide_eq_true e2, by rw [beq_eq_false_iff_ne]; intro e; exact hz ⟨e2, by omega⟩⟩
              · exact .inl (decide_eq_false (by omega))
            clear hv2 ho hg hdx h48 hd hp hn hip hall hv h0 hx9 hall2 hspn hz hn9
            rcases hz2 with z1 | ⟨z1, z2⟩
            all_goals
              go_wp2
              all_goals exact ⟨⟨p + 1, 10 * n + d, by go_num, by have := HIP.out; omega, HLT.out, HALL2.out, by go_num, HN2.out, HV2.out, HZ.out⟩, by have := HLT.out; simp only [intOf]; omega⟩
      · have hspn : spn digB (c :: r) = p - i := spn_end hall (by have := HX.out.len; have := HIP.out; have := HLT.out; omega) (fun y hy => by
          rw [HX.out.get HIP.out HG.out] at hy; cases hy; simpa using hdx)
        have hvv : valGo 0 ((c :: r).takeWhile digB) = some n := by
          rw [← hv, HDP.out, List.takeWhile_cons, if_neg hdx]; rfl
        have HE : Hid (nextP ((ns s).drop i) = some ((1, [], n), p - i)) := Lib.hid (by
          rw [HNX.out, HVP.out, if_neg (fun h => by have := h0 h.1; rw [hspn] at h; omega), hvv, hspn])
        have hr : decide ((48 : Int) ≤ (x : Int)) = false ∨ ((48 : Int) ≤ (x : Int) ∧ decide ((x : Int) ≤ 57) = false) := by
          by_cases e : 48 ≤ x
          · exact .inr ⟨by omega, decide_eq_false (fun h => hdx (by simp [digB]; omega))⟩
          · exact .inl (decide_eq_false (by omega))
        have HPI : Hid (i + (p - i) = p) := Lib.hid (by omega)
        clear hv hg hdx hp hn hip hall h0 hx9 hspn hvv
        rcases hr with z1 | ⟨z1, z2⟩
        all_goals
          go_wp2
          exact bodyPost_ret (v := .tuple #[.agg #[.int .i64 1, .string ⟨#[]⟩, .int .i64 n, .int .i64 i], .int .i64 p]) (by simp [results, Try.results21, go_sem, r0, r1, r2, r3]; try rfl) rfl ⟨by rw [HE.out]; simp only [RtokPost, HPI.out]; rfl, HFIN.out _ _ (Below.refl _ _) (fr4 w1 w.heap.size (.int .i64 1) (.string ⟨#[]⟩) (.int .i64 n) (.int .i64 i))⟩
    · obtain rfl : p = s.size := by omega
      have hspn : spn digB (c :: r) = s.size - i := spn_end hall (by have := HX.out.len; omega) (fun y hy => by
        rw [List.getElem?_eq_none (by have := HX.out.len; omega)] at hy; cases hy)
      have hvv : valGo 0 ((c :: r).takeWhile digB) = some n := by
        rw [← hv, List.drop_eq_nil_of_le (by rw [ns_len]; exact Nat.le_refl _)]; rfl
      have HE : Hid (nextP ((ns s).drop i) = some ((1, [], n), s.size - i)) := Lib.hid (by
        rw [HNX.out, HVP.out, if_neg (fun h => by have := h0 h.1; rw [hspn] at h; omega), hvv, hspn])
      have HPI : Hid (i + (s.size - i) = s.size) := Lib.hid (by omega)
      clear hv hlt hp hn hip hall h0 hspn hvv
      go_wp2
      exact bodyPost_ret (v := .tuple #[.agg #[.int .i64 1, .string ⟨#[]⟩, .int .i64 n, .int .i64 i], .int .i64 s.size]) (by simp [results, Try.results21, go_sem, r0, r1, r2, r3]; try rfl) rfl ⟨by rw [HE.out]; simp only [RtokPost, HPI.out]; rfl, HFIN.out _ _ (Below.refl _ _) (fr4 w1 w.heap.size (.int .i64 1) (.string ⟨#[]⟩) (.int .i64 n) (.int .i64 i))⟩

end Go.Proofs.Ytpabngicbfcdkaa
