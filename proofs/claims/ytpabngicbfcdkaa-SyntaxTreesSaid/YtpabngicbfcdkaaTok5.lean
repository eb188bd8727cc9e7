/-
  syntax.next: the token with which a text begins.
-/
import Derived.Test.YtpabngicbfcdkaaTok4
import Derived.Test.YtpabngicbfcdkaaShelf
namespace Go.Proofs.Ytpabngicbfcdkaa
open Go.RowKit
set_option linter.unusedVariables false
set_option linter.unusedSimpArgs false

def twoB (c d : Nat) : Bool := (c == 43 && d == 43) || (c == 61 && d == 61) || (c == 33 && d == 61) || (c == 60 && d == 61)
def oneB (c : Nat) : Bool := c == 43 || c == 45 || c == 42 || c == 60 || c == 40 || c == 41 || c == 91 || c == 93 || c == 58 || c == 44
def sgnP (c : Nat) : List Nat → Option ((Nat × List Nat × Nat) × Nat)
  | [] => if oneB c then some ((5, [c], 0), 1) else none
  | d :: _ => if twoB c d then some ((5, [c, d], 0), 2) else if oneB c then some ((5, [c], 0), 1) else none
/-- kind, text, number; how many bytes -/
def nextP (l : List Nat) : Option ((Nat × List Nat × Nat) × Nat) :=
  match l with
  | [] => none
  | c :: r =>
    if digB c then (match valP (l.take (spn digB l)) with | none => none | some v => some ((1, [], v), spn digB l))
    else if c = 34 then (match quoP l with | none => none | some (b, n) => some ((2, b, 0), n))
    else if c = 64 then (if spn refB r = 0 then none else some ((3, r.take (spn refB r), 0), 1 + spn refB r))
    else if letB c then some ((4, l.take (spn letB l), 0), spn letB l)
    else sgnP c r
def nextV : Option ((Nat × List Nat × Nat) × Nat) → Value
  | some ((k, t, v), n) => .tuple #[tokV k (bs t) v 0, .int .i64 (n : Nat)]
  | none => .tuple #[tokV 0 ⟨#[]⟩ 0 0, .int .i64 0]

theorem ext_bs (s : ByteArray) (a b : Nat) : s.extract a b = bs (((ns s).drop a).take (b - a)) := by
  rw [Lib.extract_eq]
  unfold bs strOfNums ns nints
  congr 2
  rw [List.map_map, ← List.map_drop, ← List.map_take, List.map_map]
  conv => lhs; rw [← List.map_id (List.take (b - a) (List.drop a s.data.toList))]
  exact List.map_congr_left (fun u _ => by simp)
theorem bs_empty : bs [] = ⟨#[]⟩ := rfl

theorem spn_pos {is : Nat → Bool} {c : Nat} {r : List Nat} (h : is c = true) : spn is (c :: r) = 1 + spn is r := by
  unfold spn; rw [List.takeWhile_cons, if_pos h, List.length_cons]; omega
theorem mem_tw {is : Nat → Bool} : ∀ (l : List Nat), ∀ c ∈ l.takeWhile is, is c = true := by
  intro l c hc
  induction l with
  | nil => cases hc
  | cons a l ih =>
    by_cases ha : is a = true
    · rw [List.takeWhile_cons, if_pos ha] at hc
      rcases List.mem_cons.1 hc with rfl | h
      · exact ha
      · exact ih h
    · rw [List.takeWhile_cons, if_neg ha] at hc; cases hc
theorem take_spn {is : Nat → Bool} (l : List Nat) : ∀ c ∈ l.take (spn is l), is c = true := by
  intro c hc
  have : l.take (spn is l) = l.takeWhile is := by
    unfold spn
    exact (List.prefix_iff_eq_take.1 (List.takeWhile_prefix is)).symm
  rw [this] at hc
  exact mem_tw l c hc

theorem next_dig {l r : List Nat} {c : Nat} (h : l = c :: r) (hd : digB c = true) : nextP l = match valP (l.take (spn digB l)) with | none => none | some v => some ((1, [], v), spn digB l) := by
  subst h; simp only [nextP, hd, if_true]
theorem next_quo {l r : List Nat} (h : l = 34 :: r) : nextP l = match quoP l with | none => none | some (b, n) => some ((2, b, 0), n) := by
  subst h; simp [nextP, digB]
theorem next_ref {l r : List Nat} (h : l = 64 :: r) : nextP l = if spn refB r = 0 then none else some ((3, r.take (spn refB r), 0), 1 + spn refB r) := by
  subst h; simp [nextP, digB]
theorem next_let {l r : List Nat} {c : Nat} (h : l = c :: r) (hd : digB c = false) (h1 : c ≠ 34) (h2 : c ≠ 64) (hl : letB c = true) : nextP l = some ((4, l.take (spn letB l), 0), spn letB l) := by
  subst h; simp [nextP, hd, h1, h2, hl]
theorem next_sgn {l r : List Nat} {c : Nat} (h : l = c :: r) (hd : digB c = false) (h1 : c ≠ 34) (h2 : c ≠ 64) (hl : letB c = false) : nextP l = sgnP c r := by
  subst h
  simp [nextP, hd, h1, h2, hl]

/-- a string that is read, and the result cell that is open -/
structure NX (s : ByteArray) (w w1 : World) : Prop where
  hs : s.size ≤ 1000000000
  h0 : 0 < s.size
  hw : w1 = w.alloc (.cells #[.int .i64 0, .string ⟨#[]⟩, .int .i64 0, .int .i64 0] 33)
theorem NX.fin {s : ByteArray} {w w1 : World} (h : NX s w w1) : ∀ wx wf, Below w1.heap.size w1 wx → Fr (fun x => x = w.heap.size) wx wf → Below w.heap.size w wf := fun wx wf hb hf => by
  have HB1 : Below w.heap.size w w1 := by rw [h.hw]; exact below_alloc _ _
  exact (bthen HB1 hb).trans (hf.below (fun x e => by omega) (bthen HB1 hb).size)
theorem NX.tc {s : ByteArray} {w w1 : World} (h : NX s w w1) : TC w1 w.heap.size 0 ByteArray.empty 0 0 := by rw [h.hw]; exact alloc_tc _ _ _ _ _ _
theorem run_idx (s : ByteArray) (h0 : 0 < s.size) : (s[0]'h0).toNat = (ns s).getD 0 0 := by
  have := ns_get h0
  rw [List.getD_eq_getElem?_getD, this]; rfl

set_option maxRecDepth 100000 in
set_option maxHeartbeats 1500000 in
theorem next_dig_any (s : ByteArray) (w w1 : World) (hx : NX s w w1) (c : Nat) (r : List Nat) (hns : ns s = c :: r) (hc : (s[0]'hx.h0).toNat = c) (hd : digB c = true) : Calls Try.prog 20 #[.string s] w fun e w' => e = .returned (nextV (nextP (ns s))) ∧ Below w.heap.size w w' := by
  have hsi : (s.size : Int) ≤ 1000000000 := by have := hx.hs; omega
  have h0 := hx.h0
  have hpi : (0 : Int) < (s.size : Int) := by omega
  have HSZ := Lib.hid hx.hs
  have HNL := Lib.hid (ns_len s)
  obtain ⟨r0, r1, r2, r3, rf⟩ := hx.tc
  have rf0 := rf 0
  have rf1 := rf 1
  have rf2 := rf 2
  have rf3 := rf 3
  have HFIN := Lib.hid hx.fin
  have HW1 := Lib.hid hx.hw
  have HNS := Lib.hid hns
  have HC9 : Hid (c < 256) := Lib.hid (by rw [← hc]; exact (s[0]'h0).toNat_lt)
  have hc9 : (c : Int) ≤ 255 := by have := HC9.out; omega
  have HDIG := Lib.hid (isDigit_any c HC9.out w1)
  rw [hd] at HDIG
  obtain ⟨n, hn⟩ : ∃ n, n = spn digB (ns s) := ⟨_, rfl⟩
  have HSP := Lib.hid (span_any 30 digB s HSZ.out w1 cf_dig (fun c w h => isDigit_any c h w))
  rw [← hn] at HSP
  have hn1 : 1 ≤ n := by rw [hn, HNS.out, spn_pos hd]; omega
  have hns : n ≤ s.size := by rw [hn, ← HNL.out]; exact spn_le _ _
  have hnsi : (n : Int) ≤ (s.size : Int) := by omega
  have hn0i : (0 : Int) ≤ (n : Int) := by omega
  have HNT : Hid (ns (s.extract 0 n) = (ns s).take n) := Lib.hid (by
    unfold ns
    rw [Lib.extract_data, List.drop_zero, List.map_take, Nat.sub_zero])
  have HVAL := Lib.hid (value_any (s.extract 0 n) (by have h := ns_len (s.extract 0 n); rw [HNT.out, List.length_take] at h; have := HSZ.out; omega) (by have h := ns_len (s.extract 0 n); rw [HNT.out, List.length_take, HNL.out] at h; omega) (fun u hu => by rw [HNT.out, hn] at hu; exact take_spn _ u hu) w1)
  rw [HNT.out] at HVAL
  have HE : Hid (nextP (ns s) = match valP ((ns s).take n) with | none => none | some v => some ((1, [], v), n)) := Lib.hid (by
    rw [hn]
    exact next_dig HNS.out hd)
  clear hd hn rf
  cases hv : valP ((ns s).take n) with
  | none =>
    rw [hv] at HVAL
    simp only [valV] at HVAL
    have HE2 : Hid (nextP (ns s) = none) := Lib.hid (by rw [HE.out, hv])
    clear hv
    go_enter Try.func20, Try.ntmps20
    go_upto_region 1 with fail
    rw [← HW1.out]
    go_wp2_with (first | (go_at_call 30; refine HDIG.out.mono ?_; rintro e w2 ⟨rfl, rfl⟩) | (go_at_call 31; refine HSP.out.mono ?_; rintro e w2 ⟨rfl, rfl⟩) | (go_at_call 32; refine HVAL.out.mono ?_; rintro e w2 ⟨rfl, rfl⟩))

    exact bodyPost_ret (v := .tuple #[.agg #[.int .i64 0, .string ⟨#[]⟩, .int .i64 0, .int .i64 0], .int .i64 0]) (by simp [results, Try.results20, go_sem, r0, r1, r2, r3]; try rfl) rfl ⟨by rw [HE2.out]; rfl, HFIN.out _ _ (Below.refl _ _) (fr4 w1 w.heap.size (.int .i64 0) (.string ⟨#[]⟩) (.int .i64 0) (.int .i64 0))⟩
  | some v =>
    rw [hv] at HVAL
    simp only [valV] at HVAL
    have HE2 : Hid (nextP (ns s) = some ((1, [], v), n)) := Lib.hid (by rw [HE.out, hv])
    clear hv
    go_enter Try.func20, Try.ntmps20
    go_upto_region 1 with fail
    rw [← HW1.out]
    go_wp2_with (first | (go_at_call 30; refine HDIG.out.mono ?_; rintro e w2 ⟨rfl, rfl⟩) | (go_at_call 31; refine HSP.out.mono ?_; rintro e w2 ⟨rfl, rfl⟩) | (go_at_call 32; refine HVAL.out.mono ?_; rintro e w2 ⟨rfl, rfl⟩))
    exact bodyPost_ret (v := .tuple #[.agg #[.int .i64 1, .string ⟨#[]⟩, .int .i64 (v : Nat), .int .i64 0], .int .i64 (n : Nat)]) (by simp [results, Try.results20, go_sem, r0, r1, r2, r3]; try rfl) rfl ⟨by rw [HE2.out]; rfl, HFIN.out _ _ (Below.refl _ _) (fr4 w1 w.heap.size (.int .i64 1) (.string ⟨#[]⟩) (.int .i64 (v : Nat)) (.int .i64 0))⟩

set_option maxRecDepth 100000 in
set_option maxHeartbeats 1500000 in
theorem next_quo_any (s : ByteArray) (w w1 : World) (hx : NX s w w1) (r : List Nat) (hns : ns s = 34 :: r) (hc : (s[0]'hx.h0).toNat = 34) : Calls Try.prog 20 #[.string s] w fun e w' => e = .returned (nextV (nextP (ns s))) ∧ Below w.heap.size w w' := by
  have hsi : (s.size : Int) ≤ 1000000000 := by have := hx.hs; omega
  have h0 := hx.h0
  have hpi : (0 : Int) < (s.size : Int) := by omega
  have HTC := Lib.hid hx.tc
  have HFIN := Lib.hid hx.fin
  have HW1 := Lib.hid hx.hw
  have HDIG : Hid (Calls Try.prog 30 #[.int .u8 34] w1 fun e w' => e = .returned (.bool false) ∧ w1 = w') := Lib.hid (isDigit_any 34 (by decide) w1)
  have HQ := Lib.hid (quoted_any s hx.hs hx.h0 w1)
  have HE := Lib.hid (next_quo hns)
  cases hv : quoP (ns s) with
  | none =>
    rw [hv] at HQ
    simp only [quoV, tokV] at HQ
    have HE2 : Hid (nextP (ns s) = none) := Lib.hid (by rw [HE.out, hv])
    clear hv
    go_enter Try.func20, Try.ntmps20
    go_upto_region 1 with fail
    rw [← HW1.out]
    go_wp2_with (first | (go_at_call 30; refine HDIG.out.mono ?_; rintro e w2 ⟨rfl, rfl⟩) | (go_at_call 33; refine HQ.out.mono ?_; rintro e w2 ⟨rfl, hb2⟩; have HB2 := Lib.hid hb2; obtain ⟨r0, r1, r2, r3, rf⟩ := HTC.out.below hb2; have rf0 := rf 0; have rf1 := rf 1; have rf2 := rf 2; have rf3 := rf 3; clear rf hb2))
    exact bodyPost_ret (v := .tuple #[.agg #[.int .i64 0, .string ⟨#[]⟩, .int .i64 0, .int .i64 0], .int .i64 0]) (by simp [results, Try.results20, go_sem, r0, r1, r2, r3]; try rfl) rfl ⟨by rw [HE2.out]; rfl, HFIN.out _ _ HB2.out (fr4 w2 w.heap.size (.int .i64 0) (.string ⟨#[]⟩) (.int .i64 0) (.int .i64 0))⟩
  | some v =>
    obtain ⟨b, n⟩ := v
    rw [hv] at HQ
    simp only [quoV, tokV] at HQ
    have HE2 : Hid (nextP (ns s) = some ((2, b, 0), n)) := Lib.hid (by rw [HE.out, hv])
    clear hv
    go_enter Try.func20, Try.ntmps20
    go_upto_region 1 with fail
    rw [← HW1.out]
    go_wp2_with (first | (go_at_call 30; refine HDIG.out.mono ?_; rintro e w2 ⟨rfl, rfl⟩) | (go_at_call 33; refine HQ.out.mono ?_; rintro e w2 ⟨rfl, hb2⟩; have HB2 := Lib.hid hb2; obtain ⟨r0, r1, r2, r3, rf⟩ := HTC.out.below hb2; have rf0 := rf 0; have rf1 := rf 1; have rf2 := rf 2; have rf3 := rf 3; clear rf hb2))
    exact bodyPost_ret (v := .tuple #[.agg #[.int .i64 2, .string (bs b), .int .i64 0, .int .i64 0], .int .i64 (n : Nat)]) (by simp [results, Try.results20, go_sem, r0, r1, r2, r3]; try rfl) rfl ⟨by rw [HE2.out]; rfl, HFIN.out _ _ HB2.out (fr4 w2 w.heap.size (.int .i64 2) (.string (bs b)) (.int .i64 0) (.int .i64 0))⟩

set_option maxRecDepth 100000 in
set_option maxHeartbeats 1500000 in
theorem next_ref_any (s : ByteArray) (w w1 : World) (hx : NX s w w1) (r : List Nat) (hns : ns s = 64 :: r) (hc : (s[0]'hx.h0).toNat = 64) : Calls Try.prog 20 #[.string s] w fun e w' => e = .returned (nextV (nextP (ns s))) ∧ Below w.heap.size w w' := by
  have hsi : (s.size : Int) ≤ 1000000000 := by have := hx.hs; omega
  have h0 := hx.h0
  have hpi : (1 : Int) ≤ (s.size : Int) := by omega
  have hpi0 : (0 : Int) < (s.size : Int) := by omega
  obtain ⟨r0, r1, r2, r3, rf⟩ := hx.tc
  have rf0 := rf 0
  have rf1 := rf 1
  have rf2 := rf 2
  have rf3 := rf 3
  have HFIN := Lib.hid hx.fin
  have HW1 := Lib.hid hx.hw
  have HR : Hid (ns (s.extract 1 s.size) = r) := Lib.hid (by rw [ns_extract, hns]; rfl)
  have HRL : Hid (r.length + 1 = s.size) := Lib.hid (by rw [← ns_len, hns]; rfl)
  have HDIG : Hid (Calls Try.prog 30 #[.int .u8 64] w1 fun e w' => e = .returned (.bool false) ∧ w1 = w') := Lib.hid (isDigit_any 64 (by decide) w1)
  obtain ⟨n, hn⟩ : ∃ n, n = spn refB r := ⟨_, rfl⟩
  have hn9 : n + 1 ≤ s.size := by have := spn_le refB r; have := HRL.out; omega
  have HSP := Lib.hid (span_any 34 refB (s.extract 1 s.size) (by have h := ns_len (s.extract 1 s.size); rw [HR.out] at h; have := HRL.out; have := hx.hs; omega) w1 cf_ref (fun c w h => isRef_any c h w))
  rw [HR.out, ← hn] at HSP
  have HE : Hid (nextP (ns s) = if n = 0 then none else some ((3, r.take n, 0), 1 + n)) := Lib.hid (by rw [hn]; exact next_ref hns)
  have HTX : Hid (s.extract 1 (n + 1) = bs (r.take n)) := Lib.hid (by rw [ext_bs, hns]; rfl)
  obtain ⟨K, hK⟩ : ∃ K, K = n + 1 := ⟨_, rfl⟩
  have hKi : (1 : Int) + (n : Int) = (K : Int) := by omega
  have hK1 : (1 : Int) ≤ (K : Int) := by omega
  have hK2 : (K : Int) ≤ (s.size : Int) := by omega
  have hK3 : 1 ≤ K := by omega
  have hK4 : K ≤ s.size := by omega
  rw [← hK] at HTX
  have HKN : Hid (1 + n = K) := Lib.hid (by omega)
  clear hns hn hn9 rf hK
  by_cases h0 : n = 0
  · subst h0
    have hK1e : (K : Int) = 1 := by omega
    have hKb : ((K : Int) == 1) = true := by rw [hK1e]; rfl
    go_enter Try.func20, Try.ntmps20
    go_upto_region 1 with fail
    rw [← HW1.out]
    go_wp2_with (first | (go_at_call 30; refine HDIG.out.mono ?_; rintro e w2 ⟨rfl, rfl⟩) | (go_at_call 31; refine HSP.out.mono ?_; rintro e w2 ⟨rfl, rfl⟩))
    exact bodyPost_ret (v := .tuple #[.agg #[.int .i64 0, .string ⟨#[]⟩, .int .i64 0, .int .i64 0], .int .i64 0]) (by simp [results, Try.results20, go_sem, r0, r1, r2, r3]; try rfl) rfl ⟨by rw [HE.out]; rfl, HFIN.out _ _ (Below.refl _ _) (fr4 w1 w.heap.size (.int .i64 0) (.string ⟨#[]⟩) (.int .i64 0) (.int .i64 0))⟩
  · have hKb : ((K : Int) == 1) = false := by rw [beq_eq_false_iff_ne]; omega
    have HE2 : Hid (nextP (ns s) = some ((3, r.take n, 0), K)) := Lib.hid (by rw [HE.out, if_neg h0, HKN.out])
    clear h0
    go_enter Try.func20, Try.ntmps20
    go_upto_region 1 with fail
    rw [← HW1.out]
    go_wp2_with (first | (go_at_call 30; refine HDIG.out.mono ?_; rintro e w2 ⟨rfl, rfl⟩) | (go_at_call 31; refine HSP.out.mono ?_; rintro e w2 ⟨rfl, rfl⟩))
    exact bodyPost_ret (v := .tuple #[.agg #[.int .i64 3, .string (s.extract 1 K), .int .i64 0, .int .i64 0], .int .i64 (K : Nat)]) (by simp [results, Try.results20, go_sem, r0, r1, r2, r3]; try rfl) rfl ⟨by rw [HE2.out, HTX.out]; rfl, HFIN.out _ _ (Below.refl _ _) (fr4 w1 w.heap.size (.int .i64 3) (.string (s.extract 1 K)) (.int .i64 0) (.int .i64 0))⟩

set_option maxRecDepth 100000 in
set_option maxHeartbeats 1500000 in
theorem next_let_any (s : ByteArray) (w w1 : World) (hx : NX s w w1) (c : Nat) (r : List Nat) (hns : ns s = c :: r) (hc : (s[0]'hx.h0).toNat = c) (hd : digB c = false) (h1 : c ≠ 34) (h2 : c ≠ 64) (hl : letB c = true) : Calls Try.prog 20 #[.string s] w fun e w' => e = .returned (nextV (nextP (ns s))) ∧ Below w.heap.size w w' := by
  have hsi : (s.size : Int) ≤ 1000000000 := by have := hx.hs; omega
  have h0 := hx.h0
  have hpi0 : (0 : Int) < (s.size : Int) := by omega
  obtain ⟨r0, r1, r2, r3, rf⟩ := hx.tc
  have rf0 := rf 0
  have rf1 := rf 1
  have rf2 := rf 2
  have rf3 := rf 3
  have HFIN := Lib.hid hx.fin
  have HW1 := Lib.hid hx.hw
  have HC9 : Hid (c < 256) := Lib.hid (by rw [← hc]; exact (s[0]'h0).toNat_lt)
  have hc9 : (c : Int) ≤ 255 := by have := HC9.out; omega
  have b1 : ((c : Int) == 34) = false := by rw [beq_eq_false_iff_ne]; omega
  have b2 : ((c : Int) == 64) = false := by rw [beq_eq_false_iff_ne]; omega
  have HDIG := Lib.hid (isDigit_any c HC9.out w1)
  rw [hd] at HDIG
  have HLET := Lib.hid (isLetter_any c HC9.out w1)
  rw [hl] at HLET
  obtain ⟨n, hn⟩ : ∃ n, n = spn letB (ns s) := ⟨_, rfl⟩
  have hn9 : n ≤ s.size := by rw [hn, ← ns_len]; exact spn_le _ _
  have hn9i : (n : Int) ≤ (s.size : Int) := by omega
  have hn0i : (0 : Int) ≤ (n : Int) := by omega
  have HSP := Lib.hid (span_any 35 letB s hx.hs w1 cf_let (fun c w h => isLetter_any c h w))
  rw [← hn] at HSP
  have HE : Hid (nextP (ns s) = some ((4, (ns s).take n, 0), n)) := Lib.hid (by rw [hn]; exact next_let hns hd h1 h2 hl)
  have HTX : Hid (s.extract 0 n = bs ((ns s).take n)) := Lib.hid (by rw [ext_bs]; rfl)
  clear hns hn rf hd h1 h2 hl
  go_enter Try.func20, Try.ntmps20
  go_upto_region 1 with fail
  rw [← HW1.out]
  go_wp2_with (first | (go_at_call 30; refine HDIG.out.mono ?_; rintro e w2 ⟨rfl, rfl⟩) | (go_at_call 35; refine HLET.out.mono ?_; rintro e w2 ⟨rfl, rfl⟩) | (go_at_call 31; refine HSP.out.mono ?_; rintro e w2 ⟨rfl, rfl⟩))
  exact bodyPost_ret (v := .tuple #[.agg #[.int .i64 4, .string (s.extract 0 n), .int .i64 0, .int .i64 0], .int .i64 (n : Nat)]) (by simp [results, Try.results20, go_sem, r0, r1, r2, r3]; try rfl) rfl ⟨by rw [HE.out, HTX.out]; rfl, HFIN.out _ _ (Below.refl _ _) (fr4 w1 w.heap.size (.int .i64 4) (.string (s.extract 0 n)) (.int .i64 0) (.int .i64 0))⟩

set_option maxRecDepth 100000 in
theorem one_idx (c : Nat) (h : c < 256) : (Lib.indexByte [43, 45, 42, 60, 40, 41, 91, 93, 58, 44] ((c : Int).toNat.toUInt8) < 0 ↔ oneB c = false) := by
  have : ∀ c : Fin 256, (Lib.indexByte [43, 45, 42, 60, 40, 41, 91, 93, 58, 44] (((c.1 : Nat) : Int).toNat.toUInt8) < 0 ↔ oneB c.1 = false) := by decide
  exact this ⟨c, h⟩

theorem four_true {a b c d : Bool} (h : (a || b || c || d) = true) : a = true ∨ (a = false ∧ b = true) ∨ (a = false ∧ b = false ∧ c = true) ∨ (a = false ∧ b = false ∧ c = false ∧ d = true) := by
  revert h; revert a b c d; decide
theorem four_false {a b c d : Bool} (h : (a || b || c || d) = false) : a = false ∧ b = false ∧ c = false ∧ d = false := by
  revert h; revert a b c d; decide
theorem bs_toList {l : List Nat} : (bs l).toList = l.map (fun u => u.toUInt8) := by
  rw [Go.ByteArray.toList_eq]
  simp [bs, strOfNums, nints]
theorem two_eq (c d : Nat) (hc : c < 256) (hd : d < 256) (a b : UInt8) : ((bs [c, d]).toList == [a, b]) = (c == a.toNat && d == b.toNat) := by
  rw [bs_toList]
  rw [Bool.eq_iff_iff]
  simp only [List.map_cons, List.map_nil, beq_iff_eq, List.cons.injEq, and_true, Bool.and_eq_true]
  constructor
  · rintro ⟨h1, h2⟩
    rw [← h1, ← h2]
    simp; omega
  · rintro ⟨h1, h2⟩
    rw [h1, h2]
    simp

set_option maxRecDepth 100000 in
set_option maxHeartbeats 1500000 in
theorem next_sgn_any (s : ByteArray) (w w1 : World) (hx : NX s w w1) (c : Nat) (r : List Nat) (hns : ns s = c :: r) (hc : (s[0]'hx.h0).toNat = c) (hd : digB c = false) (h1 : c ≠ 34) (h2 : c ≠ 64) (hl : letB c = false) : Calls Try.prog 20 #[.string s] w fun e w' => e = .returned (nextV (nextP (ns s))) ∧ Below w.heap.size w w' := by
  have hsi : (s.size : Int) ≤ 1000000000 := by have := hx.hs; omega
  have h0 := hx.h0
  have hpi0 : (0 : Int) < (s.size : Int) := by omega
  have hpi1 : (1 : Int) ≤ (s.size : Int) := by omega
  obtain ⟨r0, r1, r2, r3, rf⟩ := hx.tc
  have rf0 := rf 0
  have rf1 := rf 1
  have rf2 := rf 2
  have rf3 := rf 3
  have HFIN := Lib.hid hx.fin
  have HW1 := Lib.hid hx.hw
  have HC9 : Hid (c < 256) := Lib.hid (by rw [← hc]; exact (s[0]'h0).toNat_lt)
  have hc9 : (c : Int) ≤ 255 := by have := HC9.out; omega
  have b1 : ((c : Int) == 34) = false := by rw [beq_eq_false_iff_ne]; omega
  have b2 : ((c : Int) == 64) = false := by rw [beq_eq_false_iff_ne]; omega
  have HDIG := Lib.hid (isDigit_any c HC9.out w1)
  rw [hd] at HDIG
  have HLET := Lib.hid (isLetter_any c HC9.out w1)
  rw [hl] at HLET
  have HE := Lib.hid (next_sgn hns hd h1 h2 hl)
  have HIB := Lib.hid ((Try.strings_IndexByte (⟨#[43, 45, 42, 60, 40, 41, 91, 93, 58, 44]⟩ : ByteArray) (c : Int) w1).mono (fun e w' h => (⟨h.1, h.2.symm⟩ : _ ∧ w1 = w')))
  obtain ⟨x, hx9⟩ : ∃ x, x = Lib.indexByte (⟨#[43, 45, 42, 60, 40, 41, 91, 93, 58, 44]⟩ : ByteArray).data.toList ((c : Int).toNat.toUInt8) := ⟨_, rfl⟩
  rw [← hx9] at HIB
  have HX : Hid (x < 0 ↔ oneB c = false) := Lib.hid (by rw [hx9]; exact one_idx c HC9.out)
  have HT1 : Hid (s.extract 0 1 = bs [c]) := Lib.hid (by rw [ext_bs, hns]; rfl)
  have HLEN : Hid (s.size = 1 + r.length) := Lib.hid (by rw [← ns_len, hns, List.length_cons]; omega)
  clear rf hd h1 h2 hl hx9
  match r, HLEN, HE, hns with
  | [], HLEN, HE, hns =>
    have hsz : decide ((1 : Int) < (s.size : Int)) = false := by have := HLEN.out; simp at this; simp [this]
    clear hns
    simp only [sgnP] at HE
    cases ho : oneB c with
    | true =>
      have hx0 : decide (x < 0) = false := by rw [decide_eq_false_iff_not, HX.out, ho]; simp
      have HE2 : Hid (nextP (ns s) = some ((5, [c], 0), 1)) := Lib.hid (by rw [HE.out, ho]; rfl)
      clear ho
      go_enter Try.func20, Try.ntmps20
      go_upto_region 1 with fail
      rw [← HW1.out]
      go_wp2_with (first | (go_at_call 30; refine HDIG.out.mono ?_; rintro e w2 ⟨rfl, rfl⟩) | (go_at_call 35; refine HLET.out.mono ?_; rintro e w2 ⟨rfl, rfl⟩) | (go_at_call 19; refine HIB.out.mono ?_; rintro e w2 ⟨rfl, rfl⟩))
      exact bodyPost_ret (v := .tuple #[.agg #[.int .i64 5, .string (s.extract 0 1), .int .i64 0, .int .i64 0], .int .i64 1]) (by simp [results, Try.results20, go_sem, r0, r1, r2, r3]; try rfl) rfl ⟨by rw [HE2.out, HT1.out]; rfl, HFIN.out _ _ (Below.refl _ _) (fr4 w1 w.heap.size (.int .i64 5) (.string (s.extract 0 1)) (.int .i64 0) (.int .i64 0))⟩
    | false =>
      have hx0 : decide (x < 0) = true := by rw [decide_eq_true_iff, HX.out, ho]
      have HE2 : Hid (nextP (ns s) = none) := Lib.hid (by rw [HE.out, ho]; rfl)
      clear ho
      go_enter Try.func20, Try.ntmps20
      go_upto_region 1 with fail
      rw [← HW1.out]
      go_wp2_with (first | (go_at_call 30; refine HDIG.out.mono ?_; rintro e w2 ⟨rfl, rfl⟩) | (go_at_call 35; refine HLET.out.mono ?_; rintro e w2 ⟨rfl, rfl⟩) | (go_at_call 19; refine HIB.out.mono ?_; rintro e w2 ⟨rfl, rfl⟩))
      exact bodyPost_ret (v := .tuple #[.agg #[.int .i64 0, .string ⟨#[]⟩, .int .i64 0, .int .i64 0], .int .i64 0]) (by simp [results, Try.results20, go_sem, r0, r1, r2, r3]; try rfl) rfl ⟨by rw [HE2.out]; rfl, HFIN.out _ _ (Below.refl _ _) (fr4 w1 w.heap.size (.int .i64 0) (.string ⟨#[]⟩) (.int .i64 0) (.int .i64 0))⟩
  | d :: t, HLEN, HE, hns =>
    have hsz : decide ((1 : Int) < (s.size : Int)) = true := by have := HLEN.out; simp at this; simp; omega
    have hsz2 : (2 : Int) ≤ (s.size : Int) := by have := HLEN.out; simp at this; omega
    have HT2 : Hid (s.extract 0 2 = bs [c, d]) := Lib.hid (by rw [ext_bs, hns]; rfl)
    have HD9 : Hid (d < 256) := Lib.hid (ns_lt s d (by rw [hns]; simp))
    clear hns
    simp only [sgnP] at HE
    obtain ⟨t2, ht2⟩ : ∃ t2, t2 = s.extract 0 2 := ⟨_, rfl⟩
    obtain ⟨q1, hq1⟩ : ∃ q, q = (c == 43 && d == 43) := ⟨_, rfl⟩
    obtain ⟨q2, hq2⟩ : ∃ q, q = (c == 61 && d == 61) := ⟨_, rfl⟩
    obtain ⟨q3, hq3⟩ : ∃ q, q = (c == 33 && d == 61) := ⟨_, rfl⟩
    obtain ⟨q4, hq4⟩ : ∃ q, q = (c == 60 && d == 61) := ⟨_, rfl⟩
    have HTW : Hid (twoB c d = (q1 || q2 || q3 || q4)) := Lib.hid (by rw [hq1, hq2, hq3, hq4]; rfl)
    have e1 : (t2.toList == [43, 43]) = q1 := by rw [ht2, HT2.out, hq1]; exact two_eq c d HC9.out HD9.out 43 43
    have e2 : (t2.toList == [61, 61]) = q2 := by rw [ht2, HT2.out, hq2]; exact two_eq c d HC9.out HD9.out 61 61
    have e3 : (t2.toList == [33, 61]) = q3 := by rw [ht2, HT2.out, hq3]; exact two_eq c d HC9.out HD9.out 33 61
    have e4 : (t2.toList == [60, 61]) = q4 := by rw [ht2, HT2.out, hq4]; exact two_eq c d HC9.out HD9.out 60 61
    rw [← ht2] at HT2
    have HTE : Hid (s.extract 0 2 = bs [c, d]) := Lib.hid (by rw [← ht2]; exact HT2.out)
    clear hq1 hq2 hq3 hq4 HT2
    subst ht2
    cases htw : twoB c d with
    | true =>
      have HE2 : Hid (nextP (ns s) = some ((5, [c, d], 0), 2)) := Lib.hid (by rw [HE.out, htw]; rfl)
      rcases four_true (HTW.out.symm.trans htw) with rfl | ⟨rfl, rfl⟩ | ⟨rfl, rfl, rfl⟩ | ⟨rfl, rfl, rfl, rfl⟩
      all_goals
        clear htw HTW
        go_enter Try.func20, Try.ntmps20
        go_upto_region 1 with fail
        rw [← HW1.out]
        go_wp2_with (first | (go_at_call 30; refine HDIG.out.mono ?_; rintro e w2 ⟨rfl, rfl⟩) | (go_at_call 35; refine HLET.out.mono ?_; rintro e w2 ⟨rfl, rfl⟩) | (go_at_call 19; refine HIB.out.mono ?_; rintro e w2 ⟨rfl, rfl⟩))
        exact bodyPost_ret (v := .tuple #[.agg #[.int .i64 5, .string (s.extract 0 2), .int .i64 0, .int .i64 0], .int .i64 2]) (by simp [results, Try.results20, go_sem, r0, r1, r2, r3]; try rfl) rfl ⟨by rw [HE2.out, HTE.out]; rfl, HFIN.out _ _ (Below.refl _ _) (fr4 w1 w.heap.size (.int .i64 5) (.string (s.extract 0 2)) (.int .i64 0) (.int .i64 0))⟩
    | false =>
      obtain ⟨rfl, rfl, rfl, rfl⟩ := four_false (HTW.out.symm.trans htw)
      have HE3 : Hid (nextP (ns s) = if oneB c then some ((5, [c], 0), 1) else none) := Lib.hid (by rw [HE.out, htw]; rfl)
      clear htw HTW
      cases ho : oneB c with
      | true =>
        have hx0 : decide (x < 0) = false := by rw [decide_eq_false_iff_not, HX.out, ho]; simp
        have HE2 : Hid (nextP (ns s) = some ((5, [c], 0), 1)) := Lib.hid (by rw [HE3.out, ho]; rfl)
        clear ho
        go_enter Try.func20, Try.ntmps20
        go_upto_region 1 with fail
        rw [← HW1.out]
        go_wp2_with (first | (go_at_call 30; refine HDIG.out.mono ?_; rintro e w2 ⟨rfl, rfl⟩) | (go_at_call 35; refine HLET.out.mono ?_; rintro e w2 ⟨rfl, rfl⟩) | (go_at_call 19; refine HIB.out.mono ?_; rintro e w2 ⟨rfl, rfl⟩))
        exact bodyPost_ret (v := .tuple #[.agg #[.int .i64 5, .string (s.extract 0 1), .int .i64 0, .int .i64 0], .int .i64 1]) (by simp [results, Try.results20, go_sem, r0, r1, r2, r3]; try rfl) rfl ⟨by rw [HE2.out, HT1.out]; rfl, HFIN.out _ _ (Below.refl _ _) (fr4 w1 w.heap.size (.int .i64 5) (.string (s.extract 0 1)) (.int .i64 0) (.int .i64 0))⟩
      | false =>
        have hx0 : decide (x < 0) = true := by rw [decide_eq_true_iff, HX.out, ho]
        have HE2 : Hid (nextP (ns s) = none) := Lib.hid (by rw [HE3.out, ho]; rfl)
        clear ho
        go_enter Try.func20, Try.ntmps20
        go_upto_region 1 with fail
        rw [← HW1.out]
        go_wp2_with (first | (go_at_call 30; refine HDIG.out.mono ?_; rintro e w2 ⟨rfl, rfl⟩) | (go_at_call 35; refine HLET.out.mono ?_; rintro e w2 ⟨rfl, rfl⟩) | (go_at_call 19; refine HIB.out.mono ?_; rintro e w2 ⟨rfl, rfl⟩))
        exact bodyPost_ret (v := .tuple #[.agg #[.int .i64 0, .string ⟨#[]⟩, .int .i64 0, .int .i64 0], .int .i64 0]) (by simp [results, Try.results20, go_sem, r0, r1, r2, r3]; try rfl) rfl ⟨by rw [HE2.out]; rfl, HFIN.out _ _ (Below.refl _ _) (fr4 w1 w.heap.size (.int .i64 0) (.string ⟨#[]⟩) (.int .i64 0) (.int .i64 0))⟩

theorem next_any (s : ByteArray) (hs : s.size ≤ 1000000000) (h0 : 0 < s.size) (w : World) : Calls Try.prog 20 #[.string s] w fun e w' => e = .returned (nextV (nextP (ns s))) ∧ Below w.heap.size w w' := by
  have hx : NX s w _ := ⟨hs, h0, rfl⟩
  have hns := ns_cons h0
  by_cases hd : digB (s[0]'h0).toNat = true
  · exact next_dig_any s w _ hx _ _ hns rfl hd
  have hd : digB (s[0]'h0).toNat = false := by simpa using hd
  by_cases h1 : (s[0]'h0).toNat = 34
  · exact next_quo_any s w _ hx _ (by rw [hns, h1]) h1
  by_cases h2 : (s[0]'h0).toNat = 64
  · exact next_ref_any s w _ hx _ (by rw [hns, h2]) h2
  by_cases hl : letB (s[0]'h0).toNat = true
  · exact next_let_any s w _ hx _ _ hns rfl hd h1 h2 hl
  · exact next_sgn_any s w _ hx _ _ hns rfl hd h1 h2 (by simpa using hl)

end Go.Proofs.Ytpabngicbfcdkaa
