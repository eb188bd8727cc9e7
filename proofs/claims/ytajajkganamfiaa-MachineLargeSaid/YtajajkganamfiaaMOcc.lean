/-
  occurring: the classes that letters have.
-/
import Derived.Test.YtajajkganamfiaaMMinP
import Derived.Test.YtajajkganamfiaaMBfs
import Derived.Test.YtajajkganamfiaaRF
import Derived.Test.YtajajkganamfiaaMRefCheck
import Derived.Test.YtajajkganamfiaaMOdd
import Derived.Deep.LoopGhost
import Derived.Deep.DeepCutAuto
import Derived.BigQuiet
namespace Go.Proofs.Ytajajkganamfiaa
open Go.RowKit
set_option linter.unusedVariables false
set_option linter.unusedSimpArgs false

theorem EBG : EltG Try.prog 24 4 (.bool false) 1 1 := ⟨Try.underlying24, info_parts (by kernel_rfl), rfl, by decide⟩
theorem EIG : EltG Try.prog 22 3 (.int .i64 0) 1 8 := ⟨Try.underlying22, info_parts (by kernel_rfl), rfl, by decide⟩
theorem EU8G : EltG Try.prog 28 5 (.int .u8 0) 1 1 := ⟨Try.underlying28, info_parts (by kernel_rfl), rfl, by decide⟩

/-- numbers as values -/
abbrev iv (us : List Nat) : List Value := us.map fun (u : Nat) => Value.int .i64 (u : Int)
theorem iv_snoc (us : List Nat) (x : Nat) : iv (us ++ [x]) = iv us ++ [.int .i64 (x : Int)] := by simp [iv]
/-- which of 0 .. n - 1 are in a list -/
def bits (n : Nat) (us : List Nat) : List Value := (List.range n).map fun c => Value.bool (decide (c ∈ us))

theorem bits_len (n : Nat) (us : List Nat) : (bits n us).length = n := by simp [bits]
theorem bits_get {n : Nat} (us : List Nat) {c : Nat} (h : c < n) : (bits n us)[c]? = some (.bool (decide (c ∈ us))) := by simp [bits, h]
theorem bits_nil (n : Nat) : bits n [] = List.replicate n (.bool false) := by
  unfold bits
  apply List.ext_getElem (by simp)
  intro i h1 h2
  simp
theorem bits_push {n : Nat} (us : List Nat) {c : Nat} (h : c < n) : (bits n us).set c (.bool true) = bits n (us ++ [c]) := by
  unfold bits
  apply List.ext_getElem (by simp)
  intro i h1 h2
  simp only [List.getElem_set, List.getElem_map, List.getElem_range, List.mem_append, List.mem_singleton]
  by_cases e : c = i
  · subst e; simp
  · rw [if_neg e]; congr 1; simp [show ¬ i = c from fun h => e h.symm]

/-- numbers of a list as naturals -/
def nats (l : List Int) : List Nat := l.map Int.toNat

def OccPost (occ : List Nat) (w : World) (e : Ending) (w' : World) : Prop :=
  ∃ a c, e = .returned (.slice a occ.length c) ∧ Row w' w.heap.size 3 1 (.slice a occ.length c) occ.length (iv occ) ∧ Below w.heap.size w w'

set_option maxRecDepth 100000 in
set_option maxHeartbeats 1500000 in
theorem occ_any (s : Int) (ac : Option Addr) (nc cc : Nat) (an : Option Addr) (nn cn : Nat) (aa : Option Addr) (na ca : Nat) (cls : List Int) (next : List (List Int)) (acc : List Bool) (w : World)
    (hm : RdM w ac nc an nn aa na cls next acc) (hv : Valid s cls next acc) :
    Calls Try.prog 44 #[.agg #[.int .i64 s, .slice ac nc cc, .slice an nn cn, .slice aa na ca]] w (OccPost (dd (nats cls)) w) := by
  obtain ⟨w1, hw1⟩ : ∃ w1, w1 = w.alloc (.cells #[.int .i64 s, .slice ac nc cc, .slice an nn cn, .slice aa na ca] 26) := ⟨_, rfl⟩
  have HW1 := Lib.hid hw1
  have hb1 : Below w.heap.size w w1 := by rw [hw1]; exact below_alloc _ _
  have x1 : w1.cell? ⟨w.heap.size, 1, none⟩ = some (.slice ac nc cc) := by rw [hw1]; simp
  have x2 : w1.cell? ⟨w.heap.size, 2, none⟩ = some (.slice an nn cn) := by rw [hw1]; simp
  have hnn : nn = next.length := hm.n.len.symm
  have hnc : nc = 256 := by rw [← hm.c.len, hv.clsL]
  have hn0 : 0 < nn := by have := hv.s0; have := hv.s1; omega
  obtain ⟨b0, o0, a0, n0, c0, ha0, hc0, hr0, hcap0⟩ := (hm.n.below hb1).cell 0 hn0
  have hn0l : n0 = ncls next := hr0.len.symm
  subst ha0
  obtain ⟨K, hK⟩ : ∃ K, K = ncls next := ⟨_, rfl⟩
  have hc0' : w1.cell? ⟨b0, o0, none⟩ = some (.slice a0 n0 c0) := by simpa using hc0
  rw [← hK] at hn0l
  subst hn0l
  have hK9 : n0 ≤ 256 := by rw [hK]; exact hv.c1
  have HK9 := Lib.hid hK9
  have hKi : (n0 : Int) ≤ 256 := by omega
  have HBOX := Lib.hid (And.intro x1 x2)
  have HCLS := Lib.hid (fun (wx : World) (hb : Below w1.heap.size w1 wx) => (hm.c.below hb1).below hb)
  have HLET : Hid (∀ i, i < 256 → ∃ c : Nat, cls.getD i 0 = (c : Int) ∧ c < n0 ∧ (nats cls)[i]? = some c) := Lib.hid (fun i hi => by
    have hl : i < cls.length := by rw [hv.clsL]; exact hi
    have h := hv.let_ (cls.getD i 0) (by simp [List.getD, hl])
    obtain ⟨c, hc⟩ := Int.eq_ofNat_of_zero_le h.1
    refine ⟨c, hc, by rw [hK]; omega, ?_⟩
    simp only [nats, List.getElem?_map]
    rw [List.getElem?_eq_getElem hl]
    have : cls[i] = (c : Int) := by rw [← hc]; simp [List.getD, hl]
    simp [this])
  have HNL : Hid ((nats cls).length = 256) := Lib.hid (by simp [nats, hv.clsL])
  have HRF1 : Hid (RF w1.heap.size (fun _ => False) w1 [some (3, .slice none 0 0, [])]) := Lib.hid (RF.one (Own.nil w1 w1.heap.size 3 .i64) (fun g hg => by cases hg) (fun b hb => hb.elim) (Nat.le_refl _))
  have HB1 := Lib.hid hb1
  clear hm hv hw1 hb1 hc0 hr0 hcap0 hK hK9 hnn
  subst hnc
  obtain ⟨L, hL⟩ : ∃ L, L = nats cls := ⟨_, rfl⟩
  rw [← hL] at HLET HNL ⊢
  clear hL
  have hn0i : (0 : Int) < (nn : Int) := by omega
  go_enter Try.func44, Try.ntmps44
  go_upto_region 1 with fail
  rw [← HW1.out]
  go_wp2_with (at_make; refine RF.make HRF1.out EBG rfl rfl _ _ rfl _ _ _ _ n0 rfl rfl rfl rfl (by have := HK9.out; omega) (by have := HK9.out; omega) ?_; intro w2 hrf2 hb2 hsz2; have z1 := below_cell hb2 HBOX.out.1; have HRF2 := Lib.hid hrf2; have HB2 := Lib.hid hb2; clear hrf2 hb2 hsz2)
  obtain ⟨g, hg⟩ : ∃ g, g = w1.heap.size := ⟨_, rfl⟩
  rw [← hg] at HRF2 ⊢
  have HG := Lib.hid hg
  clear hg x1 x2 hc0'
  go_loopw [4, 16] (fun ov jv wr => ∃ (i : Nat) (us : List Nat) (a : Option Addr) (c : Nat), jv = .int .i64 i ∧ i ≤ 256 ∧ us = dd (L.take i) ∧ ov = .slice a us.length c ∧ RF g (fun _ => False) wr [some (3, .slice a us.length c, iv us), some (4, .slice (some ⟨g, 0, none⟩) n0 n0, bits n0 us)] ∧ Below w1.heap.size w1 wr) (fun _ jv _ => 256 - (intOf jv).toNat)
  case atStart => exact ⟨0, [], none, 0, rfl, by omega, by simp [dd], rfl, by rw [bits_nil]; exact HRF2.out, HB2.out⟩
  case round =>
    obtain ⟨i, us, a, c, rfl, hi, hus, rfl, hrf, hb⟩ := hrel
    have HRF := Lib.hid hrf
    have HB := Lib.hid hb
    have HUS := Lib.hid hus
    by_cases hlt : i < 256
    · obtain ⟨b, off, rfl, hc⟩ := (HCLS.out wr hb).cell i hlt
      obtain ⟨x, hx, hxn, hxl⟩ := HLET.out i hlt
      rw [hx] at hc
      have HXL : Hid (us.length ≤ 256) := Lib.hid (by rw [hus]; have := dd_len (L.take i); rw [List.length_take] at this; omega)
      have HTK : Hid (dd (L.take (i + 1)) = ddStep us x) := Lib.hid (by
        have h1 : i < L.length := (List.getElem?_eq_some_iff.1 hxl).1
        have h2 : L[i] = x := (List.getElem?_eq_some_iff.1 hxl).2
        rw [← List.take_append_getElem h1, dd_snoc, h2, ← hus])
      have HLT := Lib.hid hlt
      have HXN := Lib.hid hxn
      have hxi : (x : Int) < (n0 : Int) := by omega
      have hx9 : (x : Int) ≤ 256 := by omega
      have hlt2 : (i : Int) < 256 := by omega
      have hbit := hrf.cell (i := 1) rfl (bits_get us hxn)
      by_cases hmem : x ∈ us
      · have HM := Lib.hid hmem
        rw [decide_eq_true hmem] at hbit
        generalize hlen : us.length = m at *
        have HLEN := Lib.hid hlen
        clear hlen hmem hrf hb hus hxl hx hxn hi
        go_wp2
        go_roundw
        case rel => exact ⟨i + 1, us, a, c, by go_num, HLT.out, by rw [HTK.out, ddStep_in HM.out], by rw [HLEN.out], by rw [HLEN.out]; exact HRF.out, HB.out⟩
        case measure => have := HLT.out; simp [intOf]; omega
      · have HM := Lib.hid hmem
        rw [decide_eq_false hmem] at hbit
        generalize hlen : us.length = m at *
        have HLEN := Lib.hid hlen
        clear hlen hmem hrf hb hus hxl hx hxn hi
        go_wp2_with (first
          | (refine guard_op (.store 4 (.tmp 27) (.const (.bool true))) rfl ?_; refine RF.store HRF.out (i := 1) rfl rfl 4 (.tmp 27) (.const (.bool true)) rfl x rfl (.bool true) rfl rfl rfl (by kernel_rfl) (by rw [bits_len]; exact HXN.out) ?_; intro w7 hrf7 hg7 hbl7 hfr7; have HRF7 := Lib.hid hrf7; have HB7 := Lib.hid (HB.out.trans (hbl7.mono (Nat.le_of_eq HG.out.symm))); clear hrf7 hg7 hbl7 hfr7)
          | (at_builtin; refine RF.append HRF7.out (i := 0) rfl m (by rw [List.length_map, HLEN.out]) (below_alloc w7 _) (.tmp 28) (.tmp 30) EIG rfl rfl rfl _ 1 _ [.int .i64 (x : Int)] rfl (RdG.lits w7 1 3 1 [.int .i64 (x : Int)] rfl) (by simp [Value.oneCell']) (by have := HXL.out; omega) (by decide) ?_; intro a8 c8 w8 hrf8 hg8 hbl8 hfr8; have HRF8 := Lib.hid hrf8; have HB8 := Lib.hid (HB7.out.trans (hbl8.mono (Nat.le_of_eq HG.out.symm))); clear hrf8 hg8 hbl8 hfr8))
        go_roundw
        case rel => exact ⟨i + 1, us ++ [x], a8, c8, by go_num, HLT.out, by rw [HTK.out, ddStep_out HM.out], by simp [HLEN.out], by
          have h := HRF8.out
          rw [List.length_append, HLEN.out, ← bits_push us HXN.out, iv_snoc]
          exact h, HB8.out⟩
        case measure => have := HLT.out; simp [intOf]; omega
    · obtain rfl : i = 256 := by omega
      have HOWN := Lib.hid (hrf.own 0 _ _ _ rfl)
      generalize hlen : us.length = m at *
      have HLEN := Lib.hid hlen
      clear hlen hrf hb hus hlt hi
      go_wp2
      go_ret
      have hu : us = dd L := by rw [HUS.out, List.take_of_length_le (by rw [HNL.out]; exact Nat.le_refl _)]
      have hs := HB1.out.size
      rw [← hu]
      refine ⟨a, c, ret_eq (by rw [HLEN.out]; simp), ?_, bthen HB1.out HB.out⟩
      have h := HOWN.out
      rw [List.length_map, HLEN.out] at h
      rw [HLEN.out]
      exact h.mono (by rw [HG.out]; exact hs)

end Go.Proofs.Ytajajkganamfiaa
