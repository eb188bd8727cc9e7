/-
  Graph.Heads and the reference's Heads: the commits that are nobody's parent.
-/
import Derived.Test.YtoakelgjofdmpaaHGet
import Derived.Deep.LoopGhost
import Derived.Deep.Cut
import Derived.Deep.DeepCutAuto
import Derived.Test.YtoakelgjofdmpaaHHeadP
namespace Go.Proofs.Ytoakelgjofdmpaa
open Go.RowKit
set_option linter.unusedVariables false
set_option linter.unusedSimpArgs false

theorem RdC.parsN {w : World} {T a n L} (h : RdC w T a n L) {i : Nat} (hi : i < n) : ∃ b off pa pn pc x, L[i]? = some x ∧ x.1 = parsOf L i ∧ a = some ⟨b, off, none⟩ ∧ w.cell? ⟨b, off + i * 3, none⟩ = some (.slice pa pn pc) ∧ w.cell? ⟨b, off + i * 3 + 1, none⟩ = some (.int .i64 x.2.1) ∧ w.cell? ⟨b, off + i * 3 + 2, none⟩ = some (.string x.2.2) ∧ Rd w .i64 pa pn (parsOf L i) ∧ pn = (parsOf L i).length := by
  have hil : i < L.length := by rw [h.len]; exact hi
  obtain ⟨b, off, v, ha, _, h1, h2, h3, pa, pn, pc, rfl, _, hr⟩ := h.cell i _ (List.getElem?_eq_getElem hil)
  have e : L[i].1 = parsOf L i := by unfold parsOf; simp [List.getD, hil]
  exact ⟨b, off, pa, pn, pc, L[i], List.getElem?_eq_getElem hil, e, ha, h1, h2, h3, by rw [← e]; exact hr.rd, by rw [← e]; exact hr.rd.len.symm⟩

set_option maxRecDepth 100000 in
set_option maxHeartbeats 2000000 in
theorem heads_any (T : Nat → Prop) (bg : Nat) (L : List Cm) (w : World) (hg : RG w T bg L) (hL : GoodL L) :
    Calls Try.prog 23 #[.pointer (some ⟨bg, 0, none⟩)] w (ListPost1 (headsTo L L.length) w) := by
  have hne : ∀ (a : Addr) (w : World), (binOp .eql 28 (.pointer (some a)) (.pointer none)).run Try.prog w = .ok (.bool false) w := fun a w => by kernel_rfl
  obtain ⟨ga, gc, hgc, hgl⟩ := hg.ex
  have HGC := Lib.hid hgc
  have HGL0 := Lib.hid hgl
  have HGL := Lib.hid hL
  have hn1 := hg.n1
  obtain ⟨N, hN⟩ : ∃ N, N = L.length := ⟨_, rfl⟩
  have HN := Lib.hid hN
  rw [← hN] at hgc hn1 HGC HGL0 ⊢
  obtain ⟨g, hgg⟩ : ∃ g, g = w.heap.size := ⟨_, rfl⟩
  have HGG := Lib.hid hgg
  clear hg hL hN hgl hgg
  go_enter Try.func23, Try.ntmps23
  go_wp2_with (at_make; refine make_bools EB rfl _ _ rfl w.heap.size _ _ _ _ N rfl rfl rfl rfl (by omega) (Nat.le_refl _) ?_; intro w1 ho1 hg1; have hb1 := grown_below' hg1 (base := w.heap.size) (Nat.le_refl _); have hgc1 := below_cell hb1 HGC.out; have HO1 := Lib.hid ho1; have HB1 := Lib.hid hb1; clear ho1 hg1 hb1 hgc)
  clear hgc1
  rw [← HGG.out] at HO1 HB1 ⊢
  go_loopg [24] N (fun gg iv wr => ∃ i : Nat, i ≤ N ∧ gg = N - i ∧ iv = .int .i64 i ∧ OwnB wr g (.slice (some ⟨g, 0, none⟩) N N) (parM L i) ∧ Below g w wr)
  case atStart => exact ⟨0, by omega, rfl, rfl, by rw [parM_zero, ← HN.out]; exact HO1.out, HB1.out⟩
  case round =>
    obtain ⟨i, hi, rfl, rfl, ho, hb⟩ := hrel
    have HO := Lib.hid ho
    have HB := Lib.hid hb
    have HBW : Hid (Below w.heap.size w wr) := Lib.hid (by rw [← HGG.out]; exact hb)
    have HGS : Hid (g < wr.heap.size) := Lib.hid (Row.block_lt ho (g := g) rfl).1
    clear ho hb
    by_cases hlt : i < N
    · have hiz : (i : Int) < (N : Int) := by omega
      obtain ⟨b, off, pa, pn, pc, x, hx, hxp, rfl, h1, h2, h3, hpr, hpn⟩ := HGL0.out.parsN hlt
      have k1 := below_cell HBW.out h1
      obtain ⟨ps, t, s⟩ := x
      simp only at hxp h2 h3
      subst hxp
      have k2 := below_cell HBW.out h2
      have k3 := below_cell HBW.out h3
      have HSU := Lib.hid (parM_succ hx)
      have HPL : Hid (∀ p ∈ parsOf L i, 0 ≤ p ∧ p < (N : Int)) := Lib.hid fun p hp => by have := pars_lt HGL.out hp; omega
      have HPR := Lib.hid hpr
      have HPN := Lib.hid hpn
      have hpm := hpr.max
      clear hx hpr hpn h1 h2 h3
      obtain ⟨w2, hw2⟩ : ∃ w2, w2 = wr.alloc (.cells #[.slice pa pn pc, .int .i64 t, .string s] 27) := ⟨_, rfl⟩
      have HB2 := Lib.hid (show Below wr.heap.size wr w2 by rw [hw2]; exact below_alloc _ _)
      have HW2 := Lib.hid hw2
      clear hw2
      go_wp2
      rw [← HW2.out]
      obtain ⟨wo, hwo⟩ : ∃ wo : World, wo = wr := ⟨_, rfl⟩
      subst hwo
      go_loopg [31] pn (fun gg jv w3 => ∃ j : Nat, j ≤ pn ∧ gg = pn - j ∧ jv = .int .i64 j ∧ OwnB w3 g (.slice (some ⟨g, 0, none⟩) N N) (markP (parM L i) ((parsOf L i).take j)) ∧ Below g w w3)
      case atStart => exact ⟨0, by omega, rfl, rfl, Row.below HO.out HB2.out, HB.out.trans (HB2.out.mono (Nat.le_of_lt HGS.out))⟩
      case round =>
        obtain ⟨j, hj, rfl, rfl, hoj, hbj⟩ := hrel
        have HOJ := Lib.hid hoj
        have HBJ := Lib.hid hbj
        clear hoj hbj
        by_cases hjl : j < pn
        · have hjz : (j : Int) < (pn : Int) := by omega
          have hjl2 : j < (parsOf L i).length := by rw [← HPN.out]; exact hjl
          have hbj2 : Below w.heap.size w wr := by rw [← HGG.out]; exact HBJ.out
          obtain ⟨pb, po, rfl, hc⟩ := (HPR.out.below hbj2).cell j hjl
          have hp := HPL.out _ (getD_mem (d := 0) hjl2)
          have HTK := Lib.hid (markP_take (parM L i) (parsOf L i) hjl2)
          clear hbj2 hjl2
          generalize (parsOf L i).getD j 0 = p at *
          obtain ⟨p, rfl⟩ := Int.eq_ofNat_of_zero_le hp.1
          rw [Int.toNat_natCast] at HTK
          have hpk : (p : Int) < (N : Int) := by omega
          have HML : Hid ((markP (parM L i) ((parsOf L i).take j)).length = N) := Lib.hid (by rw [markP_len, parM_len, HN.out])
          go_wp2_with (refine store_bool rfl _ _ rfl g p rfl true rfl (by kernel_rfl) g N N _ HOJ.out HML.out.symm (by rw [HML.out]; omega) ?_; intro w5 ho5 hg5; have HO5 := Lib.hid ho5; have HB5 := Lib.hid (Row.grown HOJ.out hg5 (by have := HGS.out; have := HBJ.out.size; have := HGG.out; omega)); clear ho5 hg5)
          go_roundg (pn - (j + 1))
          case measure => omega
          case rel => exact ⟨j + 1, by omega, rfl, by go_num, by rw [HTK.out]; exact HO5.out, HBJ.out.trans HB5.out⟩
        · have hjn : j = pn := by omega
          have hjz : ¬ ((j : Int) < (pn : Int)) := by omega
          have HTK : Hid (markP (parM L i) ((parsOf L i).take j) = parM L (i + 1)) := Lib.hid (by rw [hjn, HPN.out, List.take_length, HSU.out])
          clear hjn
          go_wp2
          go_roundg (N - (i + 1))
          case measure => omega
          case rel => exact ⟨i + 1, by omega, rfl, by go_num, by rw [← HTK.out]; exact HOJ.out, HBJ.out⟩
    · have hin : i = N := by omega
      subst hin
      have HLN : Hid ((parM L i).length = i) := Lib.hid (by rw [parM_len, HN.out])
      obtain ⟨wo, hwo⟩ : ∃ wo : World, wo = wr := ⟨_, rfl⟩
      subst hwo
      go_wp2
      go_loopg [8, 42] i (fun gg lv jv wr => ∃ j la lc, j ≤ i ∧ gg = i - j ∧ jv = .int .i64 (j : Nat) ∧ lv = .slice la (headsTo L j).length lc ∧ Own wr wo.heap.size 3 .i64 (.slice la (headsTo L j).length lc) (headsTo L j) ∧ Below wo.heap.size wo wr)
      case atStart => exact ⟨0, none, 0, by omega, rfl, rfl, rfl, Own.nil _ _ _ _, Below.refl _ _⟩
      case round =>
        obtain ⟨j, la, lc, hj, rfl, rfl, rfl, hol, hbw⟩ := hrel
        have HOL := Lib.hid hol
        have HBW2 := Lib.hid hbw
        clear hol hbw
        by_cases hlt2 : j < i
        · have hc := OwnB.cell (Row.below HO.out HBW2.out) (j := j) (by rw [HLN.out]; exact hlt2)
          rw [show (parM L i).getD j false = !headB L j by have h := parM_head HGL.out (j := j) (by rw [← HN.out]; exact hlt2); rw [← HN.out] at h; exact h] at hc
          have HSU := Lib.hid (headsTo_succ L j)
          have HLE := Lib.hid (headsTo_len L j)
          have hjz : (j : Int) < (i : Int) := by omega
          cases hz : headB L j with
          | false =>
            rw [hz] at hc HSU
            clear hz
            go_wp2
            go_roundg (i - (j + 1))
            case measure => omega
            case rel => exact ⟨j + 1, la, lc, by omega, rfl, by go_num, by rw [HSU.out]; rfl, by rw [HSU.out]; exact HOL.out, HBW2.out⟩
          | true =>
            rw [hz] at hc HSU
            clear hz
            have HK := Lib.hid (Rd.one wr .i64 3 (j : Int) (WalkArith.wf_i64 (by omega)))
            go_wp2_with (at_builtin; refine app_rd (.tmp 49) (.tmp 51) EI rfl rfl wo.heap.size _ _ rfl (HOL.out.alloc _) _ _ _ [(j : Int)] rfl HK.out (by have := HLE.out; simp; omega) (by omega) (by simp; have := HBW2.out.size; omega) ?_; intro a7 c7 w7 ho7 hg7; have HO7 := Lib.hid ho7; have HB7 := Lib.hid (HBW2.out.trans ((Below.alloc (Below.refl wo.heap.size wr) HBW2.out.size (.cells #[.int .i64 (j : Int)] 3)).trans (grown_below (HOL.out.alloc _) hg7 (by simp; have := HBW2.out.size; omega)))); clear ho7 hg7 hc)
            go_roundg (i - (j + 1))
            case measure => omega
            case rel => exact ⟨j + 1, a7, c7, by omega, rfl, by go_num, by rw [HSU.out]; simp, by rw [HSU.out]; exact HO7.out, HB7.out⟩
        · have hji : j = i := by omega
          subst hji
          go_wp2
          go_ret
          exact ⟨la, lc, rfl, HOL.out.mono (by have := HBW.out.size; omega), HBW.out.trans (HBW2.out.mono HBW.out.size)⟩

set_option maxRecDepth 100000 in
set_option maxHeartbeats 2000000 in
theorem refHeads_any (T : Nat → Prop) (al : Option Addr) (cl : Nat) (L : List Cm) (w : World) (hl : RdC w T al L.length L) (hn1 : L.length ≤ 65536) :
    Calls Try.prog 24 #[.slice al L.length cl] w (ListPost1 (headsTo L L.length) w) := by
  have HL := Lib.hid hl
  obtain ⟨N, hN⟩ : ∃ N, N = L.length := ⟨_, rfl⟩
  have HN := Lib.hid hN
  rw [← hN] at hn1 HL ⊢
  clear hl hN
  go_enter Try.func24, Try.ntmps24
  go_wp2
  go_loopg [3, 4] N (fun gg lv nv wr => ∃ n la lc, n ≤ N ∧ gg = N - n ∧ nv = .int .i64 (n : Nat) ∧ lv = .slice la (headsTo L n).length lc ∧ Own wr w.heap.size 3 .i64 (.slice la (headsTo L n).length lc) (headsTo L n) ∧ Below w.heap.size w wr)
  case atStart => exact ⟨0, none, 0, by omega, rfl, rfl, rfl, Own.nil _ _ _ _, Below.refl _ _⟩
  case round =>
    obtain ⟨n, la, lc, hn, rfl, rfl, rfl, hol, hbw⟩ := hrel
    have HOL := Lib.hid hol
    have HBW := Lib.hid hbw
    clear hol hbw
    by_cases hlt : n < N
    · have hnz : (n : Int) < (N : Int) := by omega
      go_wp2
      go_loopg [5, 6] N (fun gg uv kv w2 => ∃ k : Nat, k ≤ N ∧ gg = N - k ∧ kv = .int .i64 k ∧ uv = .bool (!kidB L n k) ∧ wr = w2)
      case atStart => exact ⟨0, by omega, rfl, rfl, by simp [kidB], rfl⟩
      case round =>
        obtain ⟨k, hk, rfl, rfl, rfl, hw⟩ := hrel
        subst hw
        by_cases hkl : k < N
        · have hkz : (k : Int) < (N : Int) := by omega
          obtain ⟨b, off, pa, pn, pc, hal, h1, hpr, hpn⟩ := (HL.out.below HBW.out).pars hkl
          subst hal
          have HPR := Lib.hid hpr
          have HPN := Lib.hid hpn
          have hpm := hpr.max
          clear hpr hpn
          go_wp2
          go_loopg [5, 7] pn (fun gg uv iv w2 => ∃ i : Nat, i ≤ pn ∧ gg = pn - i ∧ iv = .int .i64 i ∧ uv = .bool (isTo L n k i) ∧ wr = w2)
          case atStart => exact ⟨0, by omega, rfl, rfl, by rw [isTo_zero], rfl⟩
          case round =>
            obtain ⟨i, hi, rfl, rfl, rfl, hw⟩ := hrel
            subst hw
            by_cases hil : i < pn
            · have hiz : (i : Int) < (pn : Int) := by omega
              obtain ⟨pb, po, rfl, hc⟩ := HPR.out.cell i hil
              have HST := Lib.hid (isTo_step L n k (i := i) (by rw [← HPN.out]; exact hil))
              generalize (parsOf L k).getD i 0 = p at *
              by_cases hp : p = (n : Int)
              · have hpb : (p == (n : Int)) = true := by rw [hp]; exact beq_self_eq_true _
                have HE : Hid (isTo L n k (i + 1) = false) := Lib.hid (by rw [HST.out, hp]; simp)
                subst hp
                clear hpb
                go_wp2
                go_roundg (pn - (i + 1))
                case measure => omega
                case rel => exact ⟨i + 1, by omega, rfl, by go_num, by rw [HE.out], rfl⟩
              · have hpb : (p == (n : Int)) = false := by rw [beq_eq_false_iff_ne]; exact hp
                have HE : Hid (isTo L n k (i + 1) = isTo L n k i) := Lib.hid (by rw [HST.out]; simp [hp])
                go_wp2
                go_roundg (pn - (i + 1))
                case measure => omega
                case rel => exact ⟨i + 1, by omega, rfl, by go_num, by rw [HE.out], rfl⟩
            · have hin : i = pn := by omega
              have hiz : ¬ ((i : Int) < (pn : Int)) := by omega
              have HE : Hid (isTo L n k i = !kidB L n (k + 1)) := Lib.hid (by rw [hin, HPN.out, isTo_all L n (by rw [← HN.out]; exact hkl)])
              clear hin
              rw [HE.out]
              go_wp2
              go_roundg (N - (k + 1))
              case measure => omega
              case rel => exact ⟨k + 1, by omega, rfl, by go_num, rfl, rfl⟩
        · have hkn : k = N := by omega
          have hkz : ¬ ((k : Int) < (N : Int)) := by omega
          have HE : Hid ((!kidB L n k) = headB L n) := Lib.hid (by rw [hkn, HN.out]; rfl)
          rw [HE.out]
          have HSU := Lib.hid (headsTo_succ L n)
          have HLE := Lib.hid (headsTo_len L n)
          clear hkn
          cases hz : headB L n with
          | false =>
            rw [hz] at HSU
            clear hz
            go_wp2
            go_roundg (N - (n + 1))
            case measure => omega
            case rel => exact ⟨n + 1, la, lc, by omega, rfl, by go_num, by rw [HSU.out]; rfl, by rw [HSU.out]; exact HOL.out, HBW.out⟩
          | true =>
            rw [hz] at HSU
            clear hz
            have HK := Lib.hid (Rd.one wr .i64 3 (n : Int) (WalkArith.wf_i64 (by omega)))
            go_wp2_with (at_builtin; refine app_rd (.tmp 41) (.tmp 43) EI rfl rfl w.heap.size _ _ rfl (HOL.out.alloc _) _ _ _ [(n : Int)] rfl HK.out (by have := HLE.out; simp; omega) (by omega) (by simp; have := HBW.out.size; omega) ?_; intro a7 c7 w7 ho7 hg7; have HO7 := Lib.hid ho7; have HB7 := Lib.hid (HBW.out.trans ((Below.alloc (Below.refl w.heap.size wr) HBW.out.size (.cells #[.int .i64 (n : Int)] 3)).trans (grown_below (HOL.out.alloc _) hg7 (by simp; have := HBW.out.size; omega)))); clear ho7 hg7)
            go_roundg (N - (n + 1))
            case measure => omega
            case rel => exact ⟨n + 1, a7, c7, by omega, rfl, by go_num, by rw [HSU.out]; simp, by rw [HSU.out]; exact HO7.out, HB7.out⟩
    · have hin : n = N := by omega
      subst hin
      go_wp2
      go_ret
      exact ⟨la, lc, rfl, HOL.out, HBW.out⟩

end Go.Proofs.Ytoakelgjofdmpaa
