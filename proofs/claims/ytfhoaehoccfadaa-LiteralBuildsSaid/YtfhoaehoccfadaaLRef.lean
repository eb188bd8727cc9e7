/-
  evergreenref32: suffix, before, Hits.
-/
import Derived.Test.YtfhoaehoccfadaaLSmall
import Derived.WalkSpells
namespace Go.Proofs.Ytfhoaehoccfadaa
open Go.RowKit Go.Maps
set_option linter.unusedVariables false
set_option linter.unusedSimpArgs false

theorem extract_nums (s : ByteArray) (a : Nat) : numsOf (s.extract a s.size) = (numsOf s).drop a := by
  unfold numsOf
  rw [ByteArray.data_extract, Array.toList_extract, List.extract_eq_take_drop, ← List.map_drop]
  rw [List.take_of_length_le]
  rw [List.length_drop]
  exact Nat.le_refl _
theorem take_nums (s : ByteArray) (b : Nat) : numsOf (s.extract 0 b) = (numsOf s).take b := by
  unfold numsOf
  rw [ByteArray.data_extract, Array.toList_extract, List.extract_eq_take_drop, List.drop_zero, Nat.sub_zero, List.map_take]
theorem str_toList (b : ByteArray) : b.toList = b.data.toList := Go.ByteArray.toList_eq b
theorem beq_str (a b : ByteArray) : (a.toList == b.toList) = decide (a = b) := by
  rw [str_toList, str_toList, Bool.eq_iff_iff, beq_iff_eq, decide_eq_true_eq]
  constructor
  · intro h; exact numsOf_inj (by unfold numsOf; rw [h])
  · intro h; rw [h]
theorem less_nums : ∀ (a b : List UInt8), a.length = b.length → Op.bytesLess a b = llt (a.map fun x => (x.toNat : Int)) (b.map fun x => (x.toNat : Int))
  | [], [], _ => rfl
  | [], _ :: _, h => by simp at h
  | _ :: _, [], h => by simp at h
  | x :: a, y :: b, h => by
    simp only [Op.bytesLess, List.map_cons, llt]
    rw [less_nums a b (by simpa using h)]
    have h1 : decide (x < y) = decide ((x.toNat : Int) < (y.toNat : Int)) := by rw [decide_eq_decide]; rw [UInt8.lt_iff_toNat_lt]; omega
    have h2 : (x == y) = ((x.toNat : Int) == (y.toNat : Int)) := by
      rw [Bool.eq_iff_iff, beq_iff_eq, beq_iff_eq]
      constructor
      · intro h; rw [h]
      · intro h; exact UInt8.toNat_inj.1 (Int.ofNat.inj h)
    rw [h1, h2]
theorem wlt_str (a b : ByteArray) (h : a.size = b.size) : Op.bytesLess a.toList b.toList = decide (wlt (numsOf a) (numsOf b)) := by
  rw [str_toList, str_toList, less_nums _ _ (by exact h)]
  rw [Bool.eq_iff_iff, decide_eq_true_eq]
  unfold wlt
  rw [numsOf_len, numsOf_len]
  constructor
  · intro hl; exact .inr ⟨h, hl⟩
  · rintro (hl | ⟨_, hl⟩)
    · omega
    · exact hl
theorem suffix_iff (s e : ByteArray) (h : e.size ≤ s.size) : (s.extract (s.size - e.size) s.size = e) ↔ numsOf e <:+ numsOf s := by
  constructor
  · intro hx
    rw [← hx, extract_nums]
    exact List.drop_suffix _ _
  · intro hx
    apply numsOf_inj
    rw [extract_nums]
    have := List.suffix_iff_eq_drop.1 hx
    rw [numsOf_len, numsOf_len] at this
    exact this.symm

set_option maxRecDepth 100000 in
set_option maxHeartbeats 1000000 in
theorem suffix_any (s e : ByteArray) (w : World) (hs : s.size ≤ 9223372036854775807) (he : e.size ≤ 9223372036854775807) :
    Calls Try.prog 28 #[.string s, .string e] w fun r w' => r = .returned (.bool (decide (numsOf e <:+ numsOf s))) ∧ w = w' := by
  by_cases hle : e.size ≤ s.size
  · have hz : decide ((e.size : Int) ≤ (s.size : Int)) = true := decide_eq_true (by omega)
    have hzn : decide (e.size ≤ s.size) = true := decide_eq_true hle
    have hsub : ((s.size : Int) - (e.size : Int)) = ((s.size - e.size : Nat) : Int) := by omega
    have HI := Lib.hid (suffix_iff s e hle)
    go_enter Try.func28, Try.ntmps28
    go_wp2
    go_ret
    refine ⟨ret_eq ?_, rfl⟩
    show Value.bool _ = _
    rw [beq_str]
    congr 1
    rw [decide_eq_decide]; exact HI.out
  · have hz : decide ((e.size : Int) ≤ (s.size : Int)) = false := decide_eq_false (by omega)
    have hzn : decide (e.size ≤ s.size) = false := decide_eq_false hle
    have HF : Hid (decide (numsOf e <:+ numsOf s) = false) := Lib.hid (decide_eq_false fun h => by
      have := h.length_le; rw [numsOf_len, numsOf_len] at this; omega)
    go_enter Try.func28, Try.ntmps28
    go_wp2
    go_ret
    exact ⟨ret_eq (by rw [HF.out]; rfl), rfl⟩

set_option maxRecDepth 100000 in
set_option maxHeartbeats 1000000 in
theorem before_any (a b : ByteArray) (w : World) (ha : a.size ≤ 9223372036854775807) (hb : b.size ≤ 9223372036854775807) :
    Calls Try.prog 29 #[.string a, .string b] w fun r w' => r = .returned (.bool (decide (wlt (numsOf a) (numsOf b)))) ∧ w = w' := by
  by_cases he : a.size = b.size
  · have HI := Lib.hid (wlt_str a b he)
    have hz : ((a.size : Int) != (b.size : Int)) = false := by simp [he]
    have hzn : (a.size != b.size) = false := by simp [he]
    have HE := Lib.hid he
    clear he
    go_enter Try.func29, Try.ntmps29
    go_wp2
    go_ret
    exact ⟨ret_eq (by rw [← HI.out]; rfl), rfl⟩
  · have hz : ((a.size : Int) != (b.size : Int)) = true := by simp; omega
    have hzn : (a.size != b.size) = true := by simp; omega
    have HI : Hid (decide ((a.size : Int) < (b.size : Int)) = decide (wlt (numsOf a) (numsOf b))) := Lib.hid (by
      rw [decide_eq_decide]; unfold wlt; rw [numsOf_len, numsOf_len]
      constructor
      · intro h; exact .inl (by omega)
      · rintro (h | ⟨h, _⟩)
        · omega
        · exact absurd h he)
    have HIn : Hid (decide (a.size < b.size) = decide (wlt (numsOf a) (numsOf b))) := Lib.hid (by rw [← HI.out, decide_eq_decide]; omega)
    go_enter Try.func29, Try.ntmps29
    go_wp2
    go_ret
    exact ⟨ret_eq (by first | (rw [← HI.out]; rfl) | (rw [← HIn.out]; rfl)), rfl⟩

theorem cnt_take_succ (ss : List ByteArray) (x : List Int) {i : Nat} (hi : i < ss.length) : cnt ((pats ss).take (i + 1)) x = cnt ((pats ss).take i) x + if numsOf (ss.getD i ByteArray.empty) <:+ x then 1 else 0 := by
  have e1 : (pats ss).take (i + 1) = (pats ss).take i ++ [(pats ss).getD i []] := getD_take_snoc (by rw [pats_len]; exact hi)
  rw [e1, pats_getD]
  unfold cnt
  rw [List.filter_append, List.length_append]
  congr 1
  generalize numsOf (ss.getD i ByteArray.empty) = p
  by_cases h : p <:+ x <;> simp [h]

set_option maxRecDepth 100000 in
set_option maxHeartbeats 1000000 in
theorem hits_any (a : Option Addr) (n c : Nat) (ss : List ByteArray) (t : ByteArray) (w : World) (hr : RdS w a n ss) (ht : t.size ≤ 9223372036854775807) :
    Calls Try.prog 21 #[.slice a n c, .string t] w fun r w' => r = .returned (.int .i64 (cnt (pats ss) (numsOf t) : Nat)) ∧ w = w' := by
  have HR := Lib.hid hr
  have HL := Lib.hid hr.len
  have hmax := hr.max
  have HT := Lib.hid ht
  clear hr ht
  go_enter Try.func21, Try.ntmps21
  go_wp2
  go_loopg [5, 6] n (fun gg sv iv wr => ∃ k : Nat, k ≤ n ∧ gg = n - k ∧ iv = .int .i64 k ∧ sv = .int .i64 (cnt ((pats ss).take k) (numsOf t) : Nat) ∧ w = wr)
  case atStart => exact ⟨0, by omega, rfl, rfl, rfl, rfl⟩
  case round =>
    obtain ⟨k, hk, rfl, rfl, rfl, hw⟩ := hrel
    subst hw
    by_cases hlt : k < n
    · obtain ⟨b, off, rfl, hc⟩ := HR.out.cell k hlt
      have HS := Lib.hid (HR.out.wfD k)
      have HST := Lib.hid (cnt_take_succ ss (numsOf t) (i := k) (by rw [HL.out]; exact hlt))
      have HCL := Lib.hid (cnt_le ((pats ss).take k) (numsOf t))
      have HLT : Hid (((pats ss).take k).length ≤ k) := Lib.hid (List.length_take_le _ _)
      have hkz : (k : Int) < (n : Int) := by omega
      generalize ss.getD k ByteArray.empty = s at *
      obtain ⟨q, hq⟩ : ∃ q, q = cnt ((pats ss).take k) (numsOf t) := ⟨_, rfl⟩
      rw [← hq] at HST HCL ⊢
      have hqk : q ≤ k := Nat.le_trans HCL.out HLT.out
      clear hq
      have HSX := Lib.hid (suffix_any t s w HT.out HS.out)
      by_cases hsx : numsOf s <:+ numsOf t
      · have HE : Hid (cnt ((pats ss).take (k + 1)) (numsOf t) = q + 1) := Lib.hid (by rw [HST.out, if_pos hsx])
        rw [decide_eq_true hsx] at HSX
        clear hsx
        go_wp2_with fail
        refine HSX.out.mono ?_
        rintro e w2 ⟨rfl, rfl⟩
        go_wp2
        go_roundg (n - (k + 1))
        case measure => omega
        case rel => exact ⟨k + 1, by omega, rfl, by go_num, by rw [HE.out]; rfl, rfl⟩
      · have HE : Hid (cnt ((pats ss).take (k + 1)) (numsOf t) = q) := Lib.hid (by rw [HST.out, if_neg hsx]; omega)
        rw [decide_eq_false hsx] at HSX
        clear hsx
        go_wp2_with fail
        refine HSX.out.mono ?_
        rintro e w2 ⟨rfl, rfl⟩
        go_wp2
        go_roundg (n - (k + 1))
        case measure => omega
        case rel => exact ⟨k + 1, by omega, rfl, by go_num, by rw [HE.out], rfl⟩
    · have hkn : k = n := by omega
      subst hkn
      have HE : Hid ((pats ss).take k = pats ss) := Lib.hid (List.take_of_length_le (by rw [pats_len, HL.out]; omega))
      go_wp2
      go_ret
      exact ⟨ret_eq (by rw [HE.out]; rfl), rfl⟩

end Go.Proofs.Ytfhoaehoccfadaa
