/-
  The reference's token: references, words, signs.
-/
import Derived.Test.YtpabngicbfcdkaaRf4
import Derived.Test.YtpabngicbfcdkaaRf5
import Derived.Test.YtpabngicbfcdkaaPar8
namespace Go.Proofs.Ytpabngicbfcdkaa
open Go.RowKit
set_option linter.unusedVariables false
set_option linter.unusedSimpArgs false

theorem find_first {α : Type} {p : α → Bool} : ∀ {l : List α} {q : Nat} {t : α}, l[q]? = some t → p t = true → (∀ (j : Nat) u, j < q → l[j]? = some u → p u = false) → l.find? p = some t
  | [], q, t, h, _, _ => by cases h
  | x :: l, 0, t, h, hp, _ => by simp at h; subst h; simp [hp]
  | x :: l, q + 1, t, h, hp, ha => by
    have h0 := ha 0 x (by omega) rfl
    rw [List.find?_cons_of_neg (by rw [h0]; simp)]
    exact find_first (q := q) (by simpa using h) hp (fun j u hj hu => ha (j + 1) u (by omega) (by simpa using hu))
theorem find_none {α : Type} {p : α → Bool} {l : List α} (ha : ∀ (j : Nat) u, j < l.length → l[j]? = some u → p u = false) : l.find? p = none := by
  rw [List.find?_eq_none]
  intro x hx
  obtain ⟨j, hj⟩ := List.getElem?_of_mem hx
  rw [ha j x (List.getElem?_eq_some_iff.1 hj).1 hj]; simp
theorem one_cases {c : Nat} (h : oneB c = true) : c = 43 ∨ c = 45 ∨ c = 42 ∨ c = 60 ∨ c = 40 ∨ c = 41 ∨ c = 91 ∨ c = 93 ∨ c = 58 ∨ c = 44 := by simpa [oneB, or_assoc] using h
theorem two_cases {c d : Nat} (h : twoB c d = true) : (c = 43 ∧ d = 43) ∨ (c = 61 ∧ d = 61) ∨ (c = 33 ∧ d = 61) ∨ (c = 60 ∧ d = 61) := by simpa [twoB, or_assoc] using h
/-- the first sign with which the text begins -/
theorem sgn_find (c : Nat) (r : List Nat) : sgnP c r = match signL.find? (fun t => t.isPrefixOf (c :: r)) with | some t => some ((5, t, 0), t.length) | none => none := by
  cases r with
  | nil =>
    by_cases h : oneB c = true
    · rcases one_cases h with rfl | rfl | rfl | rfl | rfl | rfl | rfl | rfl | rfl | rfl <;> rfl
    · have hn : signL.find? (fun t => t.isPrefixOf [c]) = none := by
        simp [oneB] at h
        simp [signL, List.isPrefixOf, Ne.symm, h]
      rw [hn]
      simp [sgnP, h]
  | cons d r =>
    by_cases h2 : twoB c d = true
    · rcases two_cases h2 with ⟨rfl, rfl⟩ | ⟨rfl, rfl⟩ | ⟨rfl, rfl⟩ | ⟨rfl, rfl⟩ <;> rfl
    · by_cases h : oneB c = true
      · rcases one_cases h with rfl | rfl | rfl | rfl | rfl | rfl | rfl | rfl | rfl | rfl <;> simp [twoB] at h2 <;> simp [sgnP, twoB, oneB, signL, List.find?, List.isPrefixOf, h2]
        · have e1 : (43 == d) = false := by rw [beq_eq_false_iff_ne]; omega
          rw [e1]; rfl
        · have e1 : (61 == d) = false := by rw [beq_eq_false_iff_ne]; omega
          rw [e1]; rfl
      · have hn : signL.find? (fun t => t.isPrefixOf (c :: d :: r)) = none := by
          simp [oneB] at h
          simp [twoB] at h2
          simp [signL, List.isPrefixOf, Ne.symm, h]
          omega
        rw [hn]
        simp [sgnP, h, h2]

theorem prefix_ns : ∀ (l : List UInt8) (t : List Nat), (∀ c ∈ t, c < 256) → (t.map (fun u => u.toUInt8)).isPrefixOf l = t.isPrefixOf (l.map UInt8.toNat)
  | l, [], _ => by simp
  | [], x :: t, _ => rfl
  | y :: l, x :: t, h => by
    have hx := h x (List.mem_cons_self ..)
    simp only [List.map_cons, List.isPrefixOf]
    rw [prefix_ns l t (fun c hc => h c (List.mem_cons_of_mem _ hc))]
    congr 1
    rw [Bool.eq_iff_iff]
    simp only [beq_iff_eq]
    constructor
    · rintro rfl; simp; omega
    · rintro rfl; simp
theorem hasPrefix_ns (a : ByteArray) (t : List Nat) (h : ∀ c ∈ t, c < 256) : Lib.hasPrefix a.data.toList (bs t).data.toList = t.isPrefixOf (ns a) := by
  have e : (bs t).data.toList = t.map (fun u => u.toUInt8) := by rw [← bs_toList, Go.ByteArray.toList_eq]
  unfold Lib.hasPrefix ns
  rw [e, prefix_ns _ _ h]

set_option maxRecDepth 100000 in
set_option maxHeartbeats 1500000 in
theorem rtok_ref (s : ByteArray) (i : Nat) (w w1 : World) (r : List Nat) (hx : TX s i w w1 64 r) : Calls Try.prog 21 #[.string s, .int .i64 i] w fun e w' => RtokPost i (nextP ((ns s).drop i)) e ∧ Below w.heap.size w w' := by
  have hsi : (s.size : Int) ≤ 1000000000 := by have := hx.hs; omega
  have hli : (i : Int) < (s.size : Int) := by have := hx.hlt; omega
  have hlt0 := hx.hlt
  have hc : (s[i]'hlt0).toNat = 64 := hx.hc
  obtain ⟨r0, r1, r2, r3, rf⟩ := hx.tc
  have rf0 := rf 0
  have rf1 := rf 1
  have rf2 := rf 2
  have rf3 := rf 3
  have HFIN := Lib.hid hx.fin
  have HW1 := Lib.hid hx.hw
  have HNX : Hid (nextP ((ns s).drop i) = if spn refB r = 0 then none else some ((3, r.take (spn refB r), 0), 1 + spn refB r)) := Lib.hid (next_ref hx.hns)
  have HX := Lib.hid hx
  have HDR : Hid ((ns s).drop (i + 1) = r) := Lib.hid (by
    have : (ns s).drop (i + 1) = ((ns s).drop i).drop 1 := by rw [List.drop_drop]
    rw [this, hx.hns]; rfl)
  have HRL : Hid (i + 1 + r.length = s.size) := Lib.hid (by have := hx.len; simp at this; omega)
  have HLI := Lib.hid hx.hlt
  obtain ⟨K, hK⟩ : ∃ K, K = i + 1 := ⟨_, rfl⟩
  have hKi : (i : Int) + 1 = (K : Int) := by omega
  have HK := Lib.hid hK
  have HKS : Hid (K ≤ s.size) := Lib.hid (by omega)
  have hKs : (K : Int) ≤ (s.size : Int) := by omega
  clear hx rf hK
  go_enter Try.func21, Try.ntmps21
  go_upto_region 1 with fail
  rw [← HW1.out]
  go_wp2
  go_loop [6] (fun ev => ∃ p : Nat, ev = .int .i64 p ∧ K ≤ p ∧ p ≤ s.size ∧ (∀ j x, j < p - K → r[j]? = some x → refB x = true)) (fun ev => s.size - (intOf ev).toNat)
  case atStart => exact ⟨K, rfl, by omega, HKS.out, fun j x hj => by omega⟩
  case round =>
    obtain ⟨p, rfl, hip, hp, hall⟩ := hrel
    have HIP := Lib.hid hip
    have HP := Lib.hid hp
    have hpsi : (p : Int) ≤ (s.size : Int) := by omega
    have hkpi : (K : Int) ≤ (p : Int) := by omega
    have HALL := Lib.hid hall
    have HFX : Hid (spn refB r = p - K → s.extract K p = bs (r.take (p - K))) := Lib.hid (fun e => by rw [ext_bs, HK.out, HDR.out])
    obtain ⟨tx, htx⟩ : ∃ tx, tx = s.extract K p := ⟨_, rfl⟩
    by_cases hlt : p < s.size
    · have hg := ns_get hlt
      obtain ⟨x, hxx⟩ : ∃ x, (s[p]'hlt).toNat = x := ⟨_, rfl⟩
      rw [hxx] at hg
      have hx9 : x < 256 := by rw [← hxx]; exact (s[p]'hlt).toNat_lt
      have HLT := Lib.hid hlt
      have hpi : (p : Int) < (s.size : Int) := by omega
      have hrx : r[p - K]? = some x := by rw [← HDR.out, List.getElem?_drop, show i + 1 + (p - K) = p by have := HK.out; omega]; exact hg
      have HC := Lib.hid (refByte_any x hx9 w1)
      cases hb : refB x with
      | true =>
        rw [hb] at HC
        have HALL2 : Hid (∀ j y, j < p + 1 - K → r[j]? = some y → refB y = true) := Lib.hid (fun j y hj hy => by
          by_cases e : j = p - K
          · subst e; rw [hrx] at hy; cases hy; exact hb
          · exact HALL.out j y (by have := HIP.out; omega) hy)
        clear hb hg hrx hall hip hp hx9 htx
        go_wp2_with (refine HC.out.mono ?_; rintro e w2 ⟨rfl, rfl⟩)
        exact ⟨⟨p + 1, by go_num, by have := HIP.out; omega, HLT.out, HALL2.out⟩, by have := HLT.out; simp only [intOf]; omega⟩
      | false =>
        rw [hb] at HC
        have hspn : spn refB r = p - K := spn_end hall (by have := HRL.out; have := HK.out; omega) (fun y hy => by rw [hrx] at hy; cases hy; exact hb)
        have HSP := Lib.hid hspn
        by_cases he : p = K
        · subst he
          have HE : Hid (nextP ((ns s).drop i) = none) := Lib.hid (by rw [HNX.out, hspn, if_pos (by omega)])
          clear hb hg hrx hall hip hp hx9 htx hspn
          go_wp2_with (refine HC.out.mono ?_; rintro e w2 ⟨rfl, rfl⟩)
          exact bodyPost_ret (v := .tuple #[.agg #[.int .i64 0, .string ⟨#[]⟩, .int .i64 0, .int .i64 0], .int .i64 (-1)]) (by simp [results, Try.results21, go_sem, r0, r1, r2, r3]; try rfl) rfl ⟨by rw [HE.out]; exact ⟨0, 0, rfl⟩, HFIN.out _ _ (Below.refl _ _) (fr4 w1 w.heap.size (.int .i64 0) (.string ⟨#[]⟩) (.int .i64 0) (.int .i64 0))⟩
        · have b1 : ((p : Int) == (K : Int)) = false := by rw [beq_eq_false_iff_ne]; omega
          have b2 : (p == K) = false := by rw [beq_eq_false_iff_ne]; omega
          have b3 : decide (p = K) = false := decide_eq_false he
          have HE : Hid (nextP ((ns s).drop i) = some ((3, r.take (p - K), 0), 1 + (p - K))) := Lib.hid (by rw [HNX.out, hspn, if_neg (by omega)])
          have HPI : Hid (i + (1 + (p - K)) = p) := Lib.hid (by have := HK.out; omega)
          clear hb hg hrx hall hx9 htx hspn he
          go_wp2_with (refine HC.out.mono ?_; rintro e w2 ⟨rfl, rfl⟩)
          exact bodyPost_ret (v := .tuple #[.agg #[.int .i64 3, .string (s.extract K p), .int .i64 0, .int .i64 i], .int .i64 p]) (by simp [results, Try.results21, go_sem, r0, r1, r2, r3]; try rfl) rfl ⟨by rw [HE.out]; simp only [RtokPost, HPI.out]; rw [HFX.out HSP.out]; rfl, HFIN.out _ _ (Below.refl _ _) (fr4 w1 w.heap.size (.int .i64 3) (.string (s.extract K p)) (.int .i64 0) (.int .i64 i))⟩
    · have hps : p = s.size := by omega
      have hspn : spn refB r = p - K := spn_end hall (by have := HRL.out; have := HK.out; omega) (fun y hy => by rw [List.getElem?_eq_none (by have := HRL.out; have := HK.out; omega)] at hy; cases hy)
      have HSP := Lib.hid hspn
      subst hps
      by_cases he : s.size = K
      · have HE : Hid (nextP ((ns s).drop i) = none) := Lib.hid (by rw [HNX.out, hspn, if_pos (by omega)])
        have b1 : ((s.size : Int) == (K : Int)) = true := by rw [beq_iff_eq]; omega
        have b2 : (s.size == K) = true := by rw [beq_iff_eq]; omega
        have b3 : decide (s.size = K) = true := decide_eq_true he
        clear hall htx hspn he
        go_wp2
        exact bodyPost_ret (v := .tuple #[.agg #[.int .i64 0, .string ⟨#[]⟩, .int .i64 0, .int .i64 0], .int .i64 (-1)]) (by simp [results, Try.results21, go_sem, r0, r1, r2, r3]; try rfl) rfl ⟨by rw [HE.out]; exact ⟨0, 0, rfl⟩, HFIN.out _ _ (Below.refl _ _) (fr4 w1 w.heap.size (.int .i64 0) (.string ⟨#[]⟩) (.int .i64 0) (.int .i64 0))⟩
      · have b1 : ((s.size : Int) == (K : Int)) = false := by rw [beq_eq_false_iff_ne]; omega
        have b2 : (s.size == K) = false := by rw [beq_eq_false_iff_ne]; omega
        have b3 : decide (s.size = K) = false := decide_eq_false he
        have HE : Hid (nextP ((ns s).drop i) = some ((3, r.take (s.size - K), 0), 1 + (s.size - K))) := Lib.hid (by rw [HNX.out, hspn, if_neg (by omega)])
        have HPI : Hid (i + (1 + (s.size - K)) = s.size) := Lib.hid (by have := HK.out; omega)
        clear hall htx hspn he
        go_wp2
        exact bodyPost_ret (v := .tuple #[.agg #[.int .i64 3, .string (s.extract K s.size), .int .i64 0, .int .i64 i], .int .i64 s.size]) (by simp [results, Try.results21, go_sem, r0, r1, r2, r3]; try rfl) rfl ⟨by rw [HE.out]; simp only [RtokPost, HPI.out]; rw [HFX.out HSP.out]; rfl, HFIN.out _ _ (Below.refl _ _) (fr4 w1 w.heap.size (.int .i64 3) (.string (s.extract K s.size)) (.int .i64 0) (.int .i64 i))⟩

set_option maxRecDepth 100000 in
set_option maxHeartbeats 1500000 in
theorem rtok_let (s : ByteArray) (i : Nat) (w w1 : World) (c : Nat) (r : List Nat) (hx : TX s i w w1 c r) (hl : letB c = true) : Calls Try.prog 21 #[.string s, .int .i64 i] w fun e w' => RtokPost i (nextP ((ns s).drop i)) e ∧ Below w.heap.size w w' := by
  have hsi : (s.size : Int) ≤ 1000000000 := by have := hx.hs; omega
  have hli : (i : Int) < (s.size : Int) := by have := hx.hlt; omega
  have hlt0 := hx.hlt
  have hc : (s[i]'hlt0).toNat = c := hx.hc
  have h97 : 97 ≤ c ∧ c ≤ 122 := by simpa [letB] using hl
  have d1 : (48 : Int) ≤ (c : Int) := by omega
  have d2 : decide ((c : Int) ≤ 57) = false := decide_eq_false (by omega)
  have d3 : ((c : Int) == 34) = false := by rw [beq_eq_false_iff_ne]; omega
  have d4 : ((c : Int) == 64) = false := by rw [beq_eq_false_iff_ne]; omega
  have d5 : (97 : Int) ≤ (c : Int) := by omega
  have d6 : (c : Int) ≤ 122 := by omega
  obtain ⟨r0, r1, r2, r3, rf⟩ := hx.tc
  have rf0 := rf 0
  have rf1 := rf 1
  have rf2 := rf 2
  have rf3 := rf 3
  have HFIN := Lib.hid hx.fin
  have HW1 := Lib.hid hx.hw
  have HNX : Hid (nextP ((ns s).drop i) = some ((4, (c :: r).take (spn letB (c :: r)), 0), spn letB (c :: r))) := Lib.hid (by
    rw [next_let hx.hns (by simp [digB]; omega) (by omega) (by omega) hl, hx.hns])
  have HX := Lib.hid hx
  have HDR : Hid ((ns s).drop i = c :: r) := Lib.hid hx.hns
  have HRL : Hid (i + (c :: r).length = s.size) := Lib.hid hx.len
  have HLI := Lib.hid hx.hlt
  clear hx rf h97 hl
  go_enter Try.func21, Try.ntmps21
  go_upto_region 1 with fail
  rw [← HW1.out]
  go_wp2
  go_loop [6] (fun ev => ∃ p : Nat, ev = .int .i64 p ∧ i ≤ p ∧ p ≤ s.size ∧ (∀ j x, j < p - i → (c :: r)[j]? = some x → letB x = true)) (fun ev => s.size - (intOf ev).toNat)
  case atStart => exact ⟨i, rfl, by omega, by omega, fun j x hj => by omega⟩
  case round =>
    obtain ⟨p, rfl, hip, hp, hall⟩ := hrel
    have HIP := Lib.hid hip
    have HP := Lib.hid hp
    have hpsi : (p : Int) ≤ (s.size : Int) := by omega
    have hkpi : (i : Int) ≤ (p : Int) := by omega
    have HALL := Lib.hid hall
    have HFX : Hid (s.extract i p = bs ((c :: r).take (p - i))) := Lib.hid (by rw [ext_bs, HDR.out])
    have HPI : Hid (i + (p - i) = p) := Lib.hid (by omega)
    by_cases hlt : p < s.size
    · have hg := ns_get hlt
      obtain ⟨x, hxx⟩ : ∃ x, (s[p]'hlt).toNat = x := ⟨_, rfl⟩
      rw [hxx] at hg
      have hx9 : x < 256 := by rw [← hxx]; exact (s[p]'hlt).toNat_lt
      have hx9i : (x : Int) ≤ 255 := by omega
      have HLT := Lib.hid hlt
      have hpi : (p : Int) < (s.size : Int) := by omega
      have hrx : (c :: r)[p - i]? = some x := HX.out.get hip hg
      cases hb : letB x with
      | true =>
        have h48 : 97 ≤ x ∧ x ≤ 122 := by simpa [letB] using hb
        have g1 : (97 : Int) ≤ (x : Int) := by omega
        have g2 : (x : Int) ≤ 122 := by omega
        have HALL2 : Hid (∀ j y, j < p + 1 - i → (c :: r)[j]? = some y → letB y = true) := Lib.hid (fun j y hj hy => by
          by_cases e : j = p - i
          · subst e; rw [hrx] at hy; cases hy; exact hb
          · exact HALL.out j y (by have := HIP.out; omega) hy)
        clear hb hg hrx hall hip hp hx9 h48
        go_wp2
        all_goals exact ⟨⟨p + 1, by go_num, by have := HIP.out; omega, HLT.out, HALL2.out⟩, by have := HLT.out; simp only [intOf]; omega⟩
      | false =>
        have hspn : spn letB (c :: r) = p - i := spn_end hall (by have := HRL.out; omega) (fun y hy => by rw [hrx] at hy; cases hy; exact hb)
        have HE : Hid (nextP ((ns s).drop i) = some ((4, (c :: r).take (p - i), 0), p - i)) := Lib.hid (by rw [HNX.out, hspn])
        have hr : decide ((97 : Int) ≤ (x : Int)) = false ∨ ((97 : Int) ≤ (x : Int) ∧ decide ((x : Int) ≤ 122) = false) := by
          by_cases e : 97 ≤ x
          · exact .inr ⟨by omega, decide_eq_false (fun h => by simp [letB] at hb; omega)⟩
          · exact .inl (decide_eq_false (by omega))
        clear hb hg hrx hall hx9 hspn
        rcases hr with z1 | ⟨z1, z2⟩
        all_goals
          go_wp2
          exact bodyPost_ret (v := .tuple #[.agg #[.int .i64 4, .string (s.extract i p), .int .i64 0, .int .i64 i], .int .i64 p]) (by simp [results, Try.results21, go_sem, r0, r1, r2, r3]; try rfl) rfl ⟨by rw [HE.out]; simp only [RtokPost, HPI.out]; rw [HFX.out]; rfl, HFIN.out _ _ (Below.refl _ _) (fr4 w1 w.heap.size (.int .i64 4) (.string (s.extract i p)) (.int .i64 0) (.int .i64 i))⟩
    · have hps : p = s.size := by omega
      have hspn : spn letB (c :: r) = p - i := spn_end hall (by have := HRL.out; omega) (fun y hy => by rw [List.getElem?_eq_none (by have := HRL.out; omega)] at hy; cases hy)
      have HE : Hid (nextP ((ns s).drop i) = some ((4, (c :: r).take (p - i), 0), p - i)) := Lib.hid (by rw [HNX.out, hspn])
      subst hps
      clear hall hspn
      go_wp2
      exact bodyPost_ret (v := .tuple #[.agg #[.int .i64 4, .string (s.extract i s.size), .int .i64 0, .int .i64 i], .int .i64 s.size]) (by simp [results, Try.results21, go_sem, r0, r1, r2, r3]; try rfl) rfl ⟨by rw [HE.out]; simp only [RtokPost, HPI.out]; rw [HFX.out]; rfl, HFIN.out _ _ (Below.refl _ _) (fr4 w1 w.heap.size (.int .i64 4) (.string (s.extract i s.size)) (.int .i64 0) (.int .i64 i))⟩

/-- the list of signs in memory -/
theorem signs_cells (w : World) (q : Nat) (t : List Nat) (ht : signL[q]? = some t) : (w.alloc (.cells #[.string ⟨#[43, 43]⟩, .string ⟨#[61, 61]⟩, .string ⟨#[33, 61]⟩, .string ⟨#[60, 61]⟩, .string ⟨#[43]⟩, .string ⟨#[45]⟩, .string ⟨#[42]⟩, .string ⟨#[60]⟩, .string ⟨#[40]⟩, .string ⟨#[41]⟩, .string ⟨#[91]⟩, .string ⟨#[93]⟩, .string ⟨#[58]⟩, .string ⟨#[44]⟩] 9)).cell? ⟨w.heap.size, q, none⟩ = some (.string (bs t)) := by
  rw [World.cell?_alloc_new]
  have hq : q < 14 := (List.getElem?_eq_some_iff.1 ht).1
  rcases q with _ | _ | _ | _ | _ | _ | _ | _ | _ | _ | _ | _ | _ | _ | q
  all_goals first | (simp [signL] at ht; subst ht; rfl) | omega
theorem signs_ok {q : Nat} {t : List Nat} (ht : signL[q]? = some t) : (∀ c ∈ t, c < 256) ∧ t.length ≤ 2 := by
  have : ∀ t ∈ signL, (∀ c ∈ t, c < 256) ∧ t.length ≤ 2 := by decide
  exact this t (List.mem_of_getElem? ht)

set_option maxRecDepth 100000 in
set_option maxHeartbeats 6000000 in
theorem rtok_sgn (s : ByteArray) (i : Nat) (w w1 : World) (c : Nat) (r : List Nat) (hx : TX s i w w1 c r) (hd : digB c = false) (h1 : c ≠ 34) (h2 : c ≠ 64) (hl : letB c = false) : Calls Try.prog 21 #[.string s, .int .i64 i] w fun e w' => RtokPost i (nextP ((ns s).drop i)) e ∧ Below w.heap.size w w' := by
  have hsi : (s.size : Int) ≤ 1000000000 := by have := hx.hs; omega
  have hli : (i : Int) < (s.size : Int) := by have := hx.hlt; omega
  have hle : (i : Int) ≤ (s.size : Int) := by omega
  have hlt0 := hx.hlt
  have hlen : i ≤ s.size := by omega
  have hc : (s[i]'hlt0).toNat = c := hx.hc
  have d3 : ((c : Int) == 34) = false := by rw [beq_eq_false_iff_ne]; omega
  have d4 : ((c : Int) == 64) = false := by rw [beq_eq_false_iff_ne]; omega
  have hr : (decide ((48 : Int) ≤ (c : Int)) = false ∧ decide ((97 : Int) ≤ (c : Int)) = false) ∨ (decide ((48 : Int) ≤ (c : Int)) = true ∧ decide ((c : Int) ≤ 57) = false ∧ decide ((97 : Int) ≤ (c : Int)) = false) ∨ (decide ((48 : Int) ≤ (c : Int)) = true ∧ decide ((c : Int) ≤ 57) = false ∧ decide ((97 : Int) ≤ (c : Int)) = true ∧ decide ((c : Int) ≤ 122) = false) := by
    simp [digB] at hd
    simp [letB] at hl
    by_cases e1 : 48 ≤ c
    · by_cases e2 : 97 ≤ c
      · exact .inr (.inr ⟨decide_eq_true (by omega), decide_eq_false (by omega), decide_eq_true (by omega), decide_eq_false (by omega)⟩)
      · exact .inr (.inl ⟨decide_eq_true (by omega), decide_eq_false (by omega), decide_eq_false (by omega)⟩)
    · exact .inl ⟨decide_eq_false (by omega), decide_eq_false (by omega)⟩
  have HTC := Lib.hid hx.tc
  have HFIN := Lib.hid hx.fin
  have HW1 := Lib.hid hx.hw
  have HNX : Hid (nextP ((ns s).drop i) = match signL.find? (fun t => t.isPrefixOf (c :: r)) with | some t => some ((5, t, 0), t.length) | none => none) := Lib.hid (by
    rw [next_sgn hx.hns hd h1 h2 hl, sgn_find])
  have HEX : Hid (ns (s.extract i s.size) = c :: r) := Lib.hid (by rw [ns_extract, hx.hns])
  obtain ⟨b, hb⟩ : ∃ b, b = w1.heap.size := ⟨_, rfl⟩
  obtain ⟨w2, hw2⟩ : ∃ w2, w2 = w1.alloc (.cells #[.string ⟨#[43, 43]⟩, .string ⟨#[61, 61]⟩, .string ⟨#[33, 61]⟩, .string ⟨#[60, 61]⟩, .string ⟨#[43]⟩, .string ⟨#[45]⟩, .string ⟨#[42]⟩, .string ⟨#[60]⟩, .string ⟨#[40]⟩, .string ⟨#[41]⟩, .string ⟨#[91]⟩, .string ⟨#[93]⟩, .string ⟨#[58]⟩, .string ⟨#[44]⟩] 9) := ⟨_, rfl⟩
  have HCELL : Hid (∀ q t, signL[q]? = some t → w2.cell? ⟨b, q, none⟩ = some (.string (bs t))) := Lib.hid (fun q t ht => by rw [hw2, hb]; exact signs_cells w1 q t ht)
  have HB2 : Hid (Below w1.heap.size w1 w2) := Lib.hid (by rw [hw2]; exact below_alloc _ _)
  have HSG : Hid (Calls Try.prog 38 #[] w1 fun e w' => e = .returned (.slice (some ⟨b, 0, none⟩) 14 14) ∧ w2 = w') := Lib.hid ((signs_any w1).mono (fun e w' h => by rw [← hw2, ← hb] at h; exact ⟨h.1, h.2.symm⟩))
  have hbn1 : b ≠ w.heap.size := by rw [hb, hx.hw]; simp
  have hbn2 : w.heap.size ≠ b := fun e => hbn1 e.symm
  clear hx hd hl h1 h2 hw2 hb
  rcases hr with ⟨z1, z2⟩ | ⟨z1, z2, z3⟩ | ⟨z1, z2, z3, z4⟩
  all_goals
    go_enter Try.func21, Try.ntmps21
    go_upto_region 1 with fail
    rw [← HW1.out]
    go_wp2_with (go_at_call 38; refine HSG.out.mono ?_; rintro e w9 ⟨rfl, rfl⟩)
    go_loopw [13] (fun iv wr => ∃ q : Nat, iv = .int .i64 q ∧ q ≤ 14 ∧ (∀ (j : Nat) u, j < q → signL[j]? = some u → (fun t => List.isPrefixOf t (c :: r)) u = false) ∧ Below w2.heap.size w2 wr) (fun iv _ => 14 - (intOf iv).toNat)
    case atStart => exact ⟨0, rfl, by omega, fun j u hj => by omega, Below.refl _ _⟩
    case round =>
      obtain ⟨q, rfl, hq, hall, hbr⟩ := hrel
      have HBR : Hid (Below w1.heap.size w1 wr) := Lib.hid (bthen HB2.out hbr)
      have HBR2 := Lib.hid hbr
      obtain ⟨r0, r1, r2, r3, rf⟩ := HTC.out.below HBR.out
      have rf0 := rf 0
      have rf1 := rf 1
      have rf2 := rf 2
      have rf3 := rf 3
      clear rf
      have HALL := Lib.hid hall
      by_cases hlt : q < 14
      · obtain ⟨t, ht⟩ : ∃ t, signL[q]? = some t := ⟨_, List.getElem?_eq_getElem (by exact hlt)⟩
        have hcell : wr.cell? ⟨b, q, none⟩ = some (.string (bs t)) := below_cell hbr (HCELL.out q t ht)
        have hcelld : wr.drew.cell? ⟨b, q, none⟩ = some (.string (bs t)) := hcell
        have hcelldd : wr.drew.drew.cell? ⟨b, q, none⟩ = some (.string (bs t)) := hcell
        have hqi : (q : Int) < 14 := by omega
        have HQ := Lib.hid hlt
        have HT := Lib.hid ht
        have hok := signs_ok ht
        have HOK := Lib.hid hok
        have hsz : (bs t).size = t.length := by have := ns_len (bs t); rw [ns_bs hok.1] at this; exact this.symm
        have hszi : ((bs t).size : Int) ≤ 2 := by have := hok.2; omega
        have HSZ := Lib.hid hsz
        have hsum : IntKind.i64.wrap ((i : Int) + ((bs t).size : Int)) = (i : Int) + ((bs t).size : Int) := IntWalk.i64_in _ (by omega)
        have HPF : Hid (∀ w, Calls Try.prog 39 #[.string (s.extract i s.size), .string (bs t)] w fun e w' => e = .returned (.bool (t.isPrefixOf (c :: r))) ∧ w = w') := Lib.hid (fun w => (Try.strings_HasPrefix (s.extract i s.size) (bs t) w).mono (fun e w' h => by
          rw [hasPrefix_ns _ _ HOK.out.1, HEX.out] at h
          exact ⟨h.1, h.2.symm⟩))
        cases hp : t.isPrefixOf (c :: r) with
        | true =>
          have HE : Hid (nextP ((ns s).drop i) = some ((5, t, 0), t.length)) := Lib.hid (by rw [HNX.out, find_first ht hp HALL.out])
          rw [hp] at HPF
          clear hall ht hok hsz hp hq hbr
          go_upto_region 30 with fail
          go_region_with (go_at_call 39; refine (HPF.out _).mono ?_; rintro e w9 ⟨rfl, rfl⟩)
          all_goals
            go_upto_region 31 with fail
            go_region_with fail
            all_goals
              go_wp2
              exact bodyPost_ret (v := .tuple #[.agg #[.int .i64 5, .string (bs t), .int .i64 0, .int .i64 i], .int .i64 (i + (bs t).size : Int)]) (by simp [results, Try.results21, go_sem, r0, r1, r2, r3]; try rfl) rfl ⟨by rw [HE.out]; simp only [RtokPost]; rw [← HSZ.out]; rfl, HFIN.out _ _ (HBR.out.drew.drew) (fr4 _ w.heap.size (.int .i64 5) (.string (bs t)) (.int .i64 0) (.int .i64 i))⟩
        | false =>
          have HALL2 : Hid (∀ (j : Nat) u, j < q + 1 → signL[j]? = some u → (fun t => List.isPrefixOf t (c :: r)) u = false) := Lib.hid (fun j u hj hu => by
            by_cases e : j = q
            · subst e; rw [HT.out] at hu; cases hu; exact hp
            · exact HALL.out j u (by omega) hu)
          rw [hp] at HPF
          clear hall ht hok hsz hp hq hbr
          go_upto_region 30 with fail
          go_region_with (go_at_call 39; refine (HPF.out _).mono ?_; rintro e w9 ⟨rfl, rfl⟩)
          all_goals
            go_wp2
            exact ⟨⟨q + 1, by go_num, by have := HQ.out; omega, HALL2.out, HBR2.out.drew⟩, by have := HQ.out; simp only [intOf]; omega⟩
      · obtain rfl : q = 14 := by omega
        have HE : Hid (nextP ((ns s).drop i) = none) := Lib.hid (by rw [HNX.out, find_none (l := signL) (p := fun t => List.isPrefixOf t (c :: r)) (fun j u hj hu => HALL.out j u hj hu)])
        clear hall hlt hq hbr
        go_wp2
        exact bodyPost_ret (v := .tuple #[.agg #[.int .i64 0, .string (⟨#[]⟩), .int .i64 0, .int .i64 0], .int .i64 (-1)]) (by simp [results, Try.results21, go_sem, r0, r1, r2, r3]; try rfl) rfl ⟨by rw [HE.out]; exact ⟨0, 0, rfl⟩, HFIN.out _ _ HBR.out (fr4 wr w.heap.size (.int .i64 0) (.string ⟨#[]⟩) (.int .i64 0) (.int .i64 0))⟩

end Go.Proofs.Ytpabngicbfcdkaa
