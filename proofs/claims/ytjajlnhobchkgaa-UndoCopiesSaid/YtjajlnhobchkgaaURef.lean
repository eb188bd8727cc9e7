/-
  the reference of chapter 39: Has, in, Path.
-/
import Derived.Test.YtjajlnhobchkgaaUBetP
import Derived.Deep.LoopGhost
import Derived.Deep.Cut
import Derived.Deep.DeepCutAuto
namespace Go.Proofs.Ytjajlnhobchkgaa
open Go.RowKit
set_option linter.unusedVariables false
set_option linter.unusedSimpArgs false

def hasN (n : Nat) (k : Int) : Bool := decide (0 ≤ k) && decide (k < (n : Int))

set_option maxRecDepth 100000 in
set_option maxHeartbeats 1000000 in
theorem rhas_any (ta pa fa : Option Addr) (n tc pn pc fn fc : Nat) (now k : Int) (w : World) :
    Calls Try.prog 17 #[.agg #[.slice ta n tc, .slice pa pn pc, .slice fa fn fc, .int .i64 now], .int .i64 k] w fun e w' => e = .returned (.bool (hasN n k)) ∧ Below w.heap.size w w' := by
  by_cases h0 : 0 ≤ k
  · have hd : decide ((0 : Int) ≤ k) = true := decide_eq_true h0
    by_cases h1 : k < (n : Int)
    · have HE : Hid (hasN n k = true) := Lib.hid (by simp [hasN, h0, h1])
      have hd1 : decide (k < (n : Int)) = true := decide_eq_true h1
      go_enter Try.func17, Try.ntmps17
      go_wp2
      go_ret
      exact ⟨ret_eq (by rw [HE.out]; rfl), below_alloc _ _⟩
    · have HE : Hid (hasN n k = false) := Lib.hid (by simp [hasN, h0]; omega)
      have hd1 : decide (k < (n : Int)) = false := decide_eq_false h1
      go_enter Try.func17, Try.ntmps17
      go_wp2
      go_ret
      exact ⟨ret_eq (by rw [HE.out]; rfl), below_alloc _ _⟩
  · have hd : decide ((0 : Int) ≤ k) = false := decide_eq_false h0
    have HE : Hid (hasN n k = false) := Lib.hid (by simp [hasN, h0])
    go_enter Try.func17, Try.ntmps17
    go_wp2
    go_ret
    exact ⟨ret_eq (by rw [HE.out]; rfl), below_alloc _ _⟩

set_option maxRecDepth 100000 in
set_option maxHeartbeats 1000000 in
theorem in_any (v : Int) (a : Option Addr) (n c : Nat) (l : List Int) (w : World) (hr : Rd w .i64 a n l) :
    Calls Try.prog 44 #[.int .i64 v, .slice a n c] w fun e w' => e = .returned (.bool (l.contains v)) ∧ w = w' := by
  have HR := Lib.hid hr
  have HL := Lib.hid hr.len
  have hmx := hr.max
  clear hr
  go_enter Try.func44, Try.ntmps44
  go_wp2
  go_loopg [5] n (fun gg iv wr => ∃ i : Nat, i ≤ n ∧ gg = n - i ∧ iv = .int .i64 i ∧ (∀ j, j < i → l.getD j 0 ≠ v) ∧ w = wr)
  case atStart => exact ⟨0, by omega, rfl, rfl, fun j hj => by omega, rfl⟩
  case round =>
    obtain ⟨i, hi, rfl, rfl, hall, hw⟩ := hrel
    subst hw
    have HALL := Lib.hid hall
    clear hall
    by_cases hlt : i < n
    · have hiz : (i : Int) < (n : Int) := by omega
      obtain ⟨b, off, rfl, hc⟩ := HR.out.cell i hlt
      have HM : Hid (l.getD i 0 ∈ l) := Lib.hid (getD_mem (by rw [HL.out]; exact hlt))
      obtain ⟨p, hp⟩ : ∃ p, p = l.getD i 0 := ⟨_, rfl⟩
      have HP := Lib.hid hp
      rw [← hp] at hc
      clear hp
      by_cases hv : p = v
      · have HE : Hid (l.contains v = true) := Lib.hid (by rw [List.contains_iff_mem, ← hv, HP.out]; exact HM.out)
        have hb : (p == v) = true := by rw [hv]; exact beq_self_eq_true _
        subst hv
        clear hb
        go_wp2
        go_ret
        exact ⟨ret_eq (by rw [HE.out]; rfl), rfl⟩
      · have hb : (p == v) = false := by rw [beq_eq_false_iff_ne]; exact hv
        have HV := Lib.hid hv
        go_wp2
        go_roundg (n - (i + 1))
        case measure => omega
        case rel =>
          refine ⟨i + 1, by omega, rfl, by go_num, fun j hj => ?_, rfl⟩
          by_cases e : j < i
          · exact HALL.out j e
          · obtain rfl : j = i := by omega
            rw [← HP.out]; exact HV.out
    · have hin := show i = n by omega
      have HE : Hid (l.contains v = false) := Lib.hid (by
        rw [← Bool.not_eq_true, List.contains_iff_mem]
        intro hm
        obtain ⟨j, hj, e⟩ := List.getElem_of_mem hm
        exact HALL.out j (by rw [hin, ← HL.out]; exact hj) (by simp [List.getD, hj, e]))
      clear hin
      go_wp2
      go_ret
      exact ⟨ret_eq (by rw [HE.out]; rfl), rfl⟩

/-- a list of nodes of the call's own -/
def NodesPost (us : List Nat) (w : World) (e : Ending) (w' : World) : Prop :=
  ∃ a c, e = .returned (.slice a us.length c) ∧ Own w' w.heap.size 3 .i64 (.slice a us.length c) (ints us) ∧ Below w.heap.size w w'
theorem ints_len (us : List Nat) : (ints us).length = us.length := by simp [ints]
theorem ints_cons (u : Nat) (us : List Nat) : ints (u :: us) = [(u : Int)] ++ ints us := rfl

set_option maxRecDepth 100000 in
set_option maxHeartbeats 1000000 in
theorem rpath_any (ta pa fa : Option Addr) (tn tc pc fn fc : Nat) (now : Int) (l : List Nd) (v : Nat) (us : List Nat) (w : World) (hp : IsPath l v us) (hw : WfT l) (hv : v < l.length) (hlen : l.length ≤ 1000) (hr : Rd w .i64 pa l.length (l.map (·.parent))) :
    Calls Try.prog 43 #[.agg #[.slice ta tn tc, .slice pa l.length pc, .slice fa fn fc, .int .i64 now], .int .i64 v] w (NodesPost us w) := by
  obtain ⟨f1, f2, f3, f4, f5⟩ := hp.facts hw
  obtain ⟨w1, hw1⟩ : ∃ w1, w1 = w.alloc (.cells #[.slice ta tn tc, .slice pa l.length pc, .slice fa fn fc, .int .i64 now] 36) := ⟨_, rfl⟩
  have HB1 := Lib.hid (show Below w.heap.size w w1 by rw [hw1]; exact below_alloc _ _)
  have HX1 : Hid (w1.cell? ⟨w.heap.size, 1, none⟩ = some (.slice pa l.length pc)) := Lib.hid (by rw [hw1]; simp)
  have HR := Lib.hid (hr.below HB1.out)
  have HU1 : Hid (us.length ≤ 1000 ∧ ∀ u ∈ us, u < l.length) := Lib.hid (by
    have hx : l[v]? = some (l[v]'hv) := List.getElem?_eq_getElem hv
    have h5 := f5 _ hx
    have h6 := hw.dep v _ hx
    exact ⟨by omega, fun u hu => by have := hp.le u hu; omega⟩)
  have HF2 := Lib.hid f2
  have HF3 := Lib.hid f3
  have HF4 := Lib.hid f4
  have HROOT : Hid (∀ x, l[0]? = some x → x.parent = -1) := Lib.hid (fun x hx => (hw.root x hx).1)
  have HW1 := Lib.hid hw1
  have HNL : Hid (∃ N, N = l.length) := Lib.hid ⟨_, rfl⟩
  have hU9 := HU1.out.1
  obtain ⟨N, hN⟩ : ∃ N, N = l.length := ⟨_, rfl⟩
  have HN := Lib.hid hN
  have hN9 : N ≤ 1000 := by omega
  rw [← hN] at HX1 HR HW1 ⊢
  clear hr hw1 hp hw hv hlen f2 f3 f4 f5 hN HNL
  go_enter Try.func43, Try.ntmps43
  go_wp2
  rw [← HW1.out]
  go_loopg [1, 5] us.length (fun gg nv ov wr => ∃ (j : Nat) (a : Option Addr) (c : Nat), j ≤ us.length ∧ j = gg ∧ nv = .int .i64 (if j = 0 then -1 else (us.getD (j - 1) 0 : Nat)) ∧ ov = .slice a (us.drop j).length c ∧ Own wr w.heap.size 3 .i64 (.slice a (us.drop j).length c) (ints (us.drop j)) ∧ Below w.heap.size w wr ∧ wr.cell? ⟨w.heap.size, 1, none⟩ = some (.slice pa N pc) ∧ Below w1.heap.size w1 wr)
  case atStart => exact ⟨us.length, none, 0, Nat.le_refl _, rfl, by rw [if_neg (by omega), HF3.out], by simp, by rw [List.drop_length]; exact Own.nil _ _ _ _, HB1.out, HX1.out, Below.refl _ _⟩
  case round =>
    obtain ⟨j, a, c, hj, rfl, rfl, rfl, ho, hb, hx, hb1⟩ := hrel
    have HO := Lib.hid ho
    have HB := Lib.hid hb
    have HX := Lib.hid hx
    have HBW := Lib.hid hb1
    rcases Nat.eq_zero_or_pos j with e | e
    · subst e
      clear ho hb hb1 hx
      go_wp2
      go_ret
      exact ⟨a, c, ret_eq (by simp), by simpa using HO.out, HB.out⟩
    · obtain ⟨i, rfl⟩ : ∃ i, j = i + 1 := ⟨j - 1, by omega⟩
      rw [if_neg (by omega), Nat.add_sub_cancel]
      have hil : i < us.length := by omega
      obtain ⟨u, hu⟩ : ∃ u, u = us.getD i 0 := ⟨_, rfl⟩
      have hul : u < N := by rw [hu, HN.out]; exact HU1.out.2 _ (getD_mem hil)
      have huz : (u : Int) < (N : Int) := by omega
      obtain ⟨b, off, rfl, hc⟩ := (HR.out.below hb1).cell u hul
      have HDR : Hid (us.drop i = u :: us.drop (i + 1)) := Lib.hid (by rw [hu]; exact drop_cons_d hil)
      have HPU : Hid ((l.map (·.parent)).getD u 0 = if i = 0 then -1 else ((us.getD (i - 1) 0 : Nat) : Int)) := Lib.hid (by
        have hul2 : u < l.length := by rw [← HN.out]; exact hul
        have hx : l[u]? = some (l[u]'hul2) := List.getElem?_eq_getElem hul2
        have hg : (l.map (·.parent)).getD u 0 = (l[u]'hul2).parent := by simp [List.getD, hul2]
        rw [hg]
        rcases Nat.eq_zero_or_pos i with e0 | e0
        · subst e0
          have hu0 : u = 0 := by rw [hu]; exact HF2.out
          subst hu0
          rw [if_pos rfl]
          exact HROOT.out _ hx
        · obtain ⟨q, rfl⟩ : ∃ q, i = q + 1 := ⟨i - 1, by omega⟩
          obtain ⟨x, h1, h2⟩ := HF4.out q (by omega)
          rw [if_neg (by omega), Nat.add_sub_cancel, ← h2]
          rw [← hu, hx] at h1
          cases h1; rfl)
      obtain ⟨pv, hpv⟩ : ∃ pv : Int, pv = if i = 0 then -1 else ((us.getD (i - 1) 0 : Nat) : Int) := ⟨_, rfl⟩
      rw [HPU.out, ← hpv] at hc
      have HPV := Lib.hid hpv
      clear hpv
      rw [← hu]
      have hdl : (us.drop (i + 1)).length ≤ 1000 := by rw [List.length_drop]; omega
      have HWF : Hid (∀ x ∈ ints (us.drop (i + 1)), (Lit.int .i64 x).wf = true) := Lib.hid (fun x hx => by
        obtain ⟨y, hy, rfl⟩ := List.mem_map.1 hx
        have := HU1.out.2 y (List.mem_of_mem_drop hy)
        exact WalkArith.wf_i64 (by have := HN.out; omega))
      have HRO : Hid (Rd (wr.alloc (.cells #[.int .i64 (u : Int)] 3)) .i64 a (us.drop (i + 1)).length (ints (us.drop (i + 1)))) := Lib.hid ((Own.rd' HO.out HWF.out).below (below_alloc _ _))
      have HLI := Lib.hid (ints_len (us.drop (i + 1)))
      clear ho hb hb1 hu
      go_wp2_with (at_builtin; refine app_rd (.tmp 9) (.tmp 10) EI rfl rfl w.heap.size (.slice (some ⟨wr.heap.size, 0, none⟩) 1 1) [(u : Int)] rfl (Own.lits wr .i64 3 [(u : Int)] w.heap.size HB.out.size (by simp)) a _ _ (ints (us.drop (i + 1))) rfl HRO.out (by rw [HLI.out]; simp; omega) (by decide) (by have := HB.out.size; simp; omega) ?_; intro a7 c7 w7 ho7 hg7; have hb7 := (below_alloc wr (.cells #[.int .i64 (u : Int)] 3)).grown hg7 (by simp) (fun x hx => by cases hx; exact Nat.le_refl _); have hc7 := below_cell hb7 hc; have hx7 := below_cell hb7 HX.out; have HO7 := Lib.hid ho7; have HB7 := Lib.hid hb7; clear ho7 hg7 hb7 hc hx)
      have HX7 := Lib.hid hx7
      clear hx7 hc7
      go_roundg i
      case measure => omega
      case rel =>
        have e9 : [(u : Int)] ++ ints (us.drop (i + 1)) = ints (us.drop i) := by rw [HDR.out]; rfl
        have e8 : ([(u : Int)] ++ ints (us.drop (i + 1))).length = (us.drop i).length := by rw [e9, ints_len]
        have ho7 := HO7.out
        rw [e9, ints_len] at ho7
        refine ⟨i, a7, c7, by omega, rfl, by rw [HPV.out], ?_, ho7, HB.out.trans (HB7.out.mono HB.out.size), HX7.out, HBW.out.trans (HB7.out.mono HBW.out.size)⟩
        rw [HDR.out]; simp [ints_len]

end Go.Proofs.Ytjajlnhobchkgaa
