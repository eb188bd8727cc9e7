/-
  literal.Ends: the walk.
-/
import Derived.Test.YtfhoaehoccfadaaLOf
import Derived.Deep.QuietTactic
import Derived.BigQuiet
namespace Go.Proofs.Ytfhoaehoccfadaa
open Go.RowKit Go.Maps
set_option linter.unusedVariables false
set_option linter.unusedSimpArgs false

def ecode (ps : List (List Int)) (t : List Int) : Int := if ocode ps ≠ 0 then ocode ps else if 65536 < t.length then 9 else 0
/-- how many patterns end behind each letter -/
def endsL (ps : List (List Int)) (t : List Int) : List Int := (List.range t.length).map fun i => (cnt ps (t.take (i + 1)) : Int)
theorem endsL_len (ps t) : (endsL ps t).length = t.length := by simp [endsL]
/-- .. up to k, zeros behind -/
def endsTo (ps : List (List Int)) (t : List Int) (k : Nat) : List Int := ((List.range k).map fun i => (cnt ps (t.take (i + 1)) : Int)) ++ List.replicate (t.length - k) 0
theorem endsTo_len {ps t k} (hk : k ≤ t.length) : (endsTo ps t k).length = t.length := by simp [endsTo]; omega
theorem endsTo_end (ps t) : endsTo ps t t.length = endsL ps t := by simp [endsTo, endsL]
theorem endsTo_step {ps : List (List Int)} {t : List Int} {k : Nat} (hk : k < t.length) : (endsTo ps t k).set k (cnt ps (t.take (k + 1)) : Int) = endsTo ps t (k + 1) := by
  unfold endsTo
  rw [List.set_append, if_neg (by simp), List.length_map, List.length_range, Nat.sub_self, List.range_succ, List.map_append]
  rw [show t.length - k = (t.length - (k + 1)) + 1 by omega, List.replicate_succ, List.set_cons_zero]
  simp

def EndsPost (ps : List (List Int)) (t : List Int) (w : World) (e : Ending) (w' : World) : Prop :=
  Below w.heap.size w w' ∧ ((ecode ps t ≠ 0 ∧ e = .returned (.tuple #[.slice none 0 0, errV (ecode ps t)])) ∨
    (ecode ps t = 0 ∧ ∃ a c, e = .returned (.tuple #[.slice a t.length c, .nilIface]) ∧ t.length ≤ c ∧ Rd w' .i64 a t.length (endsL ps t)))

theorem ocode_cases (ps : List (List Int)) : ocode ps = 0 ∨ ocode ps = 4 ∨ ocode ps = 9 := by
  unfold ocode; split; exact .inr (.inl rfl); split; exact .inr (.inr rfl); exact .inl rfl
theorem ocode_small {ps : List (List Int)} (h : ocode ps = 0) : (prefs ps).length ≤ 256 := by
  unfold ocode at h
  split at h
  · cases h
  · split at h
    · cases h
    · rw [← trie_len]; omega

set_option maxRecDepth 100000 in
set_option maxHeartbeats 8000000 in
theorem ends_any (a : Option Addr) (n c : Nat) (ps : List (List Int)) (ta : Option Addr) (tn tc : Nat) (t : List Int) (w : World) (hr : RdRows w .u8 a n ps) (hps : ps.length < 4294967296) (ht : Rd w .u8 ta tn t) :
    Calls Try.prog 20 #[.slice a n c, .slice ta tn tc] w (EndsPost ps t w) := by
  have HC := Lib.hid (of_any a n c ps w hr hps)
  have HT := Lib.hid ht
  have HTL := Lib.hid ht.len
  have hmax := ht.max
  have HPS := Lib.hid hps
  have hne0 : ∀ w, (binOp .neq 30 .nilIface .nilIface).run Try.prog w = .ok (.bool false) w := fun w => by kernel_rfl
  have hne4 : ∀ w, (binOp .neq 30 (.iface 56 (.int .i64 4)) .nilIface).run Try.prog w = .ok (.bool true) w := fun w => by kernel_rfl
  have hne9 : ∀ w, (binOp .neq 30 (.iface 56 (.int .i64 9)) .nilIface).run Try.prog w = .ok (.bool true) w := fun w => by kernel_rfl
  clear hr hps ht
  go_enter Try.func20, Try.ntmps20
  go_wp2_with fail
  refine HC.out.mono ?_
  rintro e w2 ⟨hb2, ⟨h0, rfl⟩ | ⟨h0, ac, an, cn, aa, ca, ah, ch, rfl, hm, hh⟩⟩
  · have HB2 := Lib.hid hb2
    have HE : Hid (ecode ps t = ocode ps) := Lib.hid (by unfold ecode; rw [if_pos h0])
    have hoc := (ocode_cases ps).resolve_left h0
    have HN := Lib.hid h0
    clear hb2 h0
    rcases hoc with hoc | hoc
    · rw [hoc, show errV 4 = Value.iface 56 (.int .i64 4) from rfl]
      have HO := Lib.hid hoc
      clear hoc
      go_wp2
      go_ret2
      refine ⟨HB2.out.trans (below_alloc _ _ |>.mono HB2.out.size), .inl ⟨by rw [HE.out]; exact HN.out, ?_⟩⟩
      rw [HE.out, HO.out]; rfl
    · rw [hoc, show errV 9 = Value.iface 56 (.int .i64 9) from rfl]
      have HO := Lib.hid hoc
      clear hoc
      go_wp2
      go_ret2
      refine ⟨HB2.out.trans (below_alloc _ _ |>.mono HB2.out.size), .inl ⟨by rw [HE.out]; exact HN.out, ?_⟩⟩
      rw [HE.out, HO.out]; rfl
  · obtain ⟨w3, hw3⟩ : ∃ w3, w3 = w2.alloc (.cells #[.int .i64 0, .slice ac 256 256, .slice an (prefs ps).length cn, .slice aa (prefs ps).length ca] 28) := ⟨_, rfl⟩
    have HB3 := Lib.hid (show Below w2.heap.size w2 w3 by rw [hw3]; exact below_alloc _ _)
    have HBW3 := Lib.hid (bthen hb2 HB3.out)
    have HM := Lib.hid (hm.below HB3.out)
    have HH := Lib.hid (hh.below HB3.out)
    have HT3 := Lib.hid (HT.out.below HBW3.out)
    have HX0 : Hid (w3.cell? ⟨w2.heap.size, 0, none⟩ = some (.int .i64 0)) := Lib.hid (by rw [hw3]; simp)
    have HX1 : Hid (w3.cell? ⟨w2.heap.size, 1, none⟩ = some (.slice ac 256 256)) := Lib.hid (by rw [hw3]; simp)
    have HX2 : Hid (w3.cell? ⟨w2.heap.size, 2, none⟩ = some (.slice an (prefs ps).length cn)) := Lib.hid (by rw [hw3]; simp)
    have HW3 := Lib.hid hw3
    have HO := Lib.hid h0
    have HPL := Lib.hid (ocode_small h0)
    have hpl := ocode_small h0
    clear hb2 hm hh hw3 h0
    by_cases hbig : 65536 < tn
    · have hbz : decide ((65536 : Int) < (tn : Int)) = true := by simp; omega
      have HE : Hid (ecode ps t = 9) := Lib.hid (by unfold ecode; rw [if_neg (by rw [HO.out]; decide), if_pos (by rw [HTL.out]; exact hbig)])
      go_wp2
      go_ret2
      rw [← HW3.out]
      refine ⟨HBW3.out, .inl ⟨by rw [HE.out]; decide, ?_⟩⟩
      rw [HE.out]; rfl
    · have hbz : decide ((65536 : Int) < (tn : Int)) = false := by simp; omega
      have HE : Hid (ecode ps t = 0) := Lib.hid (by unfold ecode; rw [if_neg (by rw [HO.out]; decide), if_neg (by rw [HTL.out]; exact hbig)])
      have htn : tn ≤ 65536 := by omega
      go_wp2_with (at_make; rw [← HW3.out]; refine make_full EI rfl _ _ rfl w3.heap.size _ _ _ _ tn rfl rfl rfl rfl (by omega) (by omega) (Nat.le_refl _) ?_; intro w4 ho4 hg4; have HO4 := Lib.hid ho4; have HB4 := Lib.hid (grown_below' hg4 (Nat.le_refl w3.heap.size)); have hx0 := below_cell HB4.out HX0.out; clear ho4 hg4)
      obtain ⟨g, hg⟩ : ∃ g, g = w3.heap.size := ⟨_, rfl⟩
      rw [← hg] at HO4 HB4 ⊢
      have HG := Lib.hid hg
      clear hg hx0
      go_loopg [10, 33] tn (fun gg sv iv wr => ∃ k : Nat, k ≤ tn ∧ gg = tn - k ∧ iv = .int .i64 k ∧ sv = .int .i64 (litAt ps (t.take k) : Nat) ∧ Own wr g 3 .i64 (.slice (some ⟨g, 0, none⟩) tn tn) (endsTo ps t k) ∧ Below g w3 wr)
      case atStart =>
        refine ⟨0, by omega, rfl, rfl, by rw [List.take_zero, litAt_nil]; rfl, ?_, HB4.out⟩
        have h := HO4.out
        unfold endsTo
        simp only [List.range_zero, List.map_nil, List.nil_append, Nat.sub_zero, HTL.out]
        exact h
      case round =>
        obtain ⟨k, hk, rfl, rfl, rfl, ho, hbl⟩ := hrel
        have HOW := Lib.hid ho
        have HBL : Hid (Below w3.heap.size w3 wr) := Lib.hid (by rw [← HG.out]; exact hbl)
        clear ho hbl HO4
        by_cases hlt : k < tn
        · obtain ⟨b1, o1, rfl, hcb⟩ := (HT3.out.below HBL.out).cell k hlt
          have hkl : k < t.length := by rw [HTL.out]; exact hlt
          have hby := bd_u8 (HT.out.wf _ (getD_mem (d := 0) hkl))
          obtain ⟨b, hbe⟩ := Int.eq_ofNat_of_zero_le hby.1
          have hb256 : b < 256 := by omega
          rw [hbe] at hcb
          obtain ⟨q, hq⟩ : ∃ q, q = litAt ps (t.take k) := ⟨_, rfl⟩
          have hqn : q < (prefs ps).length := by rw [hq]; exact litAt_lt _ _
          have hgo := litAt_snoc (ps := ps) (t.take k) hb256
          rw [← hq, ← hbe, ← getD_take_snoc hkl] at hgo
          obtain ⟨r, hr⟩ : ∃ r, r = litAt ps (t.take (k + 1)) := ⟨_, rfl⟩
          have hrn : r < (prefs ps).length := by rw [hr]; exact litAt_lt _ _
          have hhit := litH_at ps (t.take (k + 1))
          rw [← hr] at hgo hhit
          have hm4 := HM.out.below HBL.out
          obtain ⟨b2, o2, a2, n2, c2, rfl, hrow, hr2, _⟩ := hm4.n.cell q hqn
          obtain ⟨b3, o3, rfl, hcl⟩ := hm4.c.cell b hb256
          obtain ⟨C, hC⟩ : ∃ C : Nat, (litC ps).getD b 0 = C := by
            have := (cls_bd (usedB ps) 256 _ (getD_mem' (l := litC ps) (d := 0) (i := b) (by rw [litC_len]; exact hb256))).1
            exact ⟨_, (Int.toNat_of_nonneg this).symm⟩
          have hCn : C < n2 := by
            have h1 := (cls_bd (usedB ps) 256 _ (getD_mem' (l := litC ps) (d := 0) (i := b) (by rw [litC_len]; exact hb256))).2
            have h2 := (litN_row (ps := ps) _ (getD_mem' (l := litN ps) (d := []) (i := q) (by rw [litN_len]; exact hqn))).1
            have h3 := hr2.len
            rw [hC] at h1
            unfold litL at h2
            omega
          rw [hC] at hcl
          obtain ⟨b4, o4, rfl, hent⟩ := hr2.cell C hCn
          have hge : ((litN ps).getD q []).getD C 0 = (r : Int) := by
            unfold litGo at hgo
            rw [Int.toNat_natCast, hC, Int.toNat_natCast] at hgo
            exact hgo
          rw [hge] at hent
          obtain ⟨b5, o5, rfl, hht⟩ := (HH.out.below HBL.out).cell r hrn
          rw [hhit] at hht
          obtain ⟨v, hv⟩ : ∃ v : Nat, v = cnt ps (t.take (k + 1)) := ⟨_, rfl⟩
          rw [← hv] at hht
          have HV := Lib.hid hv
          have HRE := Lib.hid hr
          have hx1 := below_cell HBL.out HX1.out
          have hx2 := below_cell HBL.out HX2.out
          have hCz : (C : Int) < (n2 : Int) := by omega
          have hqz : (q : Int) < ((prefs ps).length : Int) := by omega
          have hrz : (r : Int) < ((prefs ps).length : Int) := by omega
          have hbz2 : (b : Int) < 256 := by omega
          have hkz : (k : Int) < (tn : Int) := by omega
          have HQ := Lib.hid hq
          rw [← HQ.out]
          clear hq hv hr hby hbe hgo hhit hm4 hr2 hC hge
          go_wp2
          go_quiet (fail)
          obtain ⟨wq, hwq⟩ : ∃ wq, wq = wr.drewN nq := ⟨_, rfl⟩
          have hbq : Below wr.heap.size wr wq := by rw [hwq]; exact bdrewN (Below.refl _ _) _
          rw [← hwq]
          have HOQ := Lib.hid (Own.below HOW.out hbq)
          have hht2 := below_cell hbq hht
          have HBQ := Lib.hid hbq
          clear hwq hbq hht hx1 hx2 hrow hcl hent hcb
          go_wp2_with (refine store_int rfl 3 .i64 (.tmp 56) (.tmp 55) rfl g k rfl (v : Int) rfl (by kernel_rfl) g _ _ _ _ HOQ.out (by rw [endsTo_len (by rw [HTL.out]; omega), HTL.out]) (by rw [endsTo_len (by rw [HTL.out]; omega), HTL.out]; exact hlt) ?_; intro w7 ho7 hg7; have HO7 := Lib.hid ho7; have HG7 := Lib.hid hg7; clear ho7 hg7)
          go_roundg (tn - (k + 1))
          case measure => omega
          case rel =>
            refine ⟨k + 1, by omega, rfl, by go_num, by rw [← HRE.out], ?_, ?_⟩
            · rw [← endsTo_step hkl, ← HV.out]; exact HO7.out
            · have h1 : Below g w3 wq := by rw [HG.out]; exact HBL.out.trans (HBQ.out.mono HBL.out.size)
              exact h1.grown HG7.out (by rw [HG.out]; exact Nat.le_trans HBL.out.size HBQ.out.size) (fun x hx => by cases hx; exact Nat.le_refl _)
        · have hkn : k = tn := by omega
          subst hkn
          have HEND : Hid (endsTo ps t k = endsL ps t) := Lib.hid (by rw [← HTL.out]; exact endsTo_end ps t)
          go_wp2
          go_ret2
          refine ⟨HBW3.out.trans (HBL.out.mono HBW3.out.size), .inr ⟨HE.out, some ⟨g, 0, none⟩, k, by rw [HTL.out]; rfl, by rw [HTL.out]; exact Nat.le_refl _, ?_⟩⟩
          have h := HOW.out
          rw [HEND.out] at h
          rw [HTL.out]
          refine Own.rd h fun x hx => ?_
          unfold endsL at hx
          obtain ⟨y, _, rfl⟩ := List.mem_map.1 hx
          exact wf_nat (by have := cnt_le ps (t.take (y + 1)); have := HPS.out; omega)

end Go.Proofs.Ytfhoaehoccfadaa
