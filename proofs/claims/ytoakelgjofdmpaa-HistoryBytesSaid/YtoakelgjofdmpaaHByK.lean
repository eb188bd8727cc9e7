/-
  history.Take: the graph with these bytes, or the error.
-/
import Derived.Test.YtoakelgjofdmpaaHByC
namespace Go.Proofs.Ytoakelgjofdmpaa
open Go.RowKit
set_option linter.unusedVariables false
set_option linter.unusedSimpArgs false

def TkPost (l : List Int) (w : World) (e : Ending) (w' : World) : Prop :=
  Below w.heap.size w w' ∧ ((∃ L bg, takeR l = some L ∧ e = .returned (.tuple #[.pointer (some ⟨bg, 0, none⟩), .nilIface]) ∧ GI w' (fun b => w.heap.size ≤ b) bg L) ∨
    (takeR l = none ∧ e = .returned (.tuple #[.pointer none, .iface 63 (.int .i64 4)])))

theorem u8_bd {w : World} {a : Option Addr} {n : Nat} {l : List Int} (h : Rd w .u8 a n l) : ∀ x ∈ l, 0 ≤ x ∧ x ≤ 255 := fun x hx => by
  have := h.wf x hx
  simp [Lit.wf, IntKind.min, IntKind.max, IntKind.signed, IntKind.bits] at this
  omega

set_option maxRecDepth 100000 in
set_option maxHeartbeats 2000000 in
theorem takeH_any (a : Option Addr) (n c : Nat) (l : List Int) (w : World) (hr : Rd w .u8 a n l) (hc : n ≤ c) (hn : n ≤ 140737488355328) :
    Calls Try.prog 36 #[.slice a n c] w (TkPost l w) := by
  have hne0 : ∀ w, (binOp .neq 33 .nilIface .nilIface).run Try.prog w = .ok (.bool false) w := fun w => by kernel_rfl
  have hneE : ∀ (k : Int) w, (binOp .neq 33 (.iface 63 (.int .i64 k)) .nilIface).run Try.prog w = .ok (.bool true) w := fun k w => by kernel_rfl
  have HBD := Lib.hid (u8_bd hr)
  obtain ⟨br, hbr⟩ : ∃ br, br = w.heap.size := ⟨_, rfl⟩
  obtain ⟨w1, hw1⟩ : ∃ w1, w1 = w.alloc (.cells #[.slice a n c, .bool false] 91) := ⟨_, rfl⟩
  have hb1 : Below w.heap.size w w1 := by rw [hw1]; exact below_alloc _ _
  have HRS1 : Hid (RS w1 br l false) := Lib.hid (by
    refine ⟨⟨a, n, c, by rw [hw1, hbr]; simp, ⟨hr.below hb1, fun x hx hn => by rw [hbr]; exact hr.lt x hx hn⟩, hc, hn⟩, by rw [hw1, hbr]; simp, fun j => by rw [hw1, hbr]; simp⟩)
  have HB1 := Lib.hid hb1
  have HBR := Lib.hid hbr
  have HW1 := Lib.hid hw1
  have HNUM := Lib.hid (rnum_any br l false w1 HRS1.out)
  clear hr hc hn hb1 hw1 hbr
  go_enter Try.func36, Try.ntmps36
  go_wp2_with fail
  rw [← HW1.out, ← HBR.out]
  refine HNUM.out.mono ?_
  rintro e w2 ⟨hf2, hor⟩
  have HB2 : Hid (Below w.heap.size w w2) := Lib.hid (HB1.out.trans (hf2.below (fun b hb => by have := HBR.out; omega) HB1.out.size))
  clear hf2 HNUM HRS1
  rcases hor with ⟨k, l1, hk, hkb, rfl, hrs⟩ | ⟨hk, rfl, hrs⟩
  · have hc1 := hrs.c1
    by_cases hk9 : 65536 < k
    · have HTR : Hid (takeR l = none) := Lib.hid (by unfold takeR; rw [hk]; simp only; rw [if_pos hk9])
      have hd : decide ((65536 : Int) < (k : Int)) = true := decide_eq_true (by omega)
      clear hk hrs
      go_wp2
      go_ret2
      exact ⟨HB2.out, .inr ⟨HTR.out, rfl⟩⟩
    · have hd : decide ((65536 : Int) < (k : Int)) = false := decide_eq_false (by omega)
      have HK := Lib.hid hk
      have HRS2 := Lib.hid hrs
      have hkk : k ≤ 65536 := by omega
      have HB1D : Hid (∀ x ∈ l1, 0 ≤ x ∧ x ≤ 255) := Lib.hid (fun x hx => HBD.out x (by rw [(numR_inv HBD.out hk).1]; exact List.mem_append_right _ hx))
      clear hk hrs hk9
      go_wp2_with fail
      refine (new_any w2).mono ?_
      rintro e w3 ⟨rfl, hw3⟩
      obtain ⟨bg, hbg⟩ : ∃ bg, bg = w2.heap.size := ⟨_, rfl⟩
      have hb3 : Below w2.heap.size w2 w3 := by rw [hw3]; exact below_alloc _ _
      have hcg : w3.cell? ⟨bg, 0, none⟩ = some (.slice none 0 0) := by rw [hw3, hbg]; simp
      have HGI : Hid (GI w3 (fun b => b = bg) bg []) := Lib.hid
        ⟨⟨fun _ => False, none, 0, hcg, ⟨⟨[], rfl, World.ownsRow_nil _ _ _ _, by simp⟩, fun g hg => (by cases hg), fun i hi => False.elim hi, fun x hx => (by simp at hx)⟩, fun h => h, by simp [Value.ownBlock]⟩, by rw [hw3, hbg]; simp, rfl, by simp⟩
      have HRS3 := Lib.hid (HRS2.out.below hb3)
      have HB3 := Lib.hid (bthen HB2.out hb3)
      have HBG : Hid (br < bg) := Lib.hid (by have := HRS2.out.lt; omega)
      rw [← hbg]
      clear hw3 hb3 hcg hbg hc1
      go_wp2
      go_loopg [26] k (fun gg jv wr => ∃ (j : Nat) (r : List Int) (L : List Cm) (S : Nat → Prop), j ≤ k ∧ gg = k - j ∧ jv = .int .i64 j ∧ RS wr br r false ∧ comsR j l1 = some (L, r) ∧ GI wr S bg L ∧ (∀ b, S b → br < b) ∧ Below w.heap.size w wr)
      case atStart => exact ⟨0, l1, [], _, by omega, rfl, rfl, HRS3.out, rfl, HGI.out, fun b hb => by have hb : b = bg := hb; have := HBG.out; omega, HB3.out⟩
      case round =>
        clear HRS3 HGI HB3
        obtain ⟨j, r, L, S, hj, rfl, rfl, hrs, hcr, hgi, hS, hb⟩ := hrel
        have HRS := Lib.hid hrs
        have HCR := Lib.hid hcr
        have HGI := Lib.hid hgi
        have HS := Lib.hid hS
        have HB := Lib.hid hb
        have HSB : Hid (w.heap.size ≤ br) := Lib.hid (by rw [HBR.out]; exact Nat.le_refl _)
        have HRB : Hid (∀ x ∈ r, 0 ≤ x ∧ x ≤ 255) := Lib.hid (fun x hx => HB1D.out x (by rw [(comsR_inv j l1 L r HB1D.out hcr).1]; exact List.mem_append_right _ hx))
        clear hcr hgi hS hb
        by_cases hjl : j < k
        · have hjz : (j : Int) < (k : Int) := by omega
          have HCOM := Lib.hid (rcom_any br r wr hrs)
          clear hrs
          go_wp2_with fail
          refine HCOM.out.mono ?_
          rintro e w5 ⟨ca, cn, cc, t, s, rfl, hf5, hor⟩
          obtain ⟨w6, hw6⟩ : ∃ w6, w6 = w5.alloc (.cells #[.slice ca cn cc, .int .i64 t, .string s] 27) := ⟨_, rfl⟩
          have hb6 : Below w5.heap.size w5 w6 := by rw [hw6]; exact below_alloc _ _
          have x0 : w6.cell? ⟨w5.heap.size, 0, none⟩ = some (.slice ca cn cc) := by rw [hw6]; simp
          have x1 : w6.cell? ⟨w5.heap.size, 1, none⟩ = some (.int .i64 t) := by rw [hw6]; simp
          have x2 : w6.cell? ⟨w5.heap.size, 2, none⟩ = some (.string s) := by rw [hw6]; simp
          have HB6 : Hid (Below w.heap.size w w6) := Lib.hid (bthen (HB.out.trans (hf5.below (fun b hb => by have := HSB.out; omega) HB.out.size)) hb6)
          have HG6 := Lib.hid ((HGI.out.fr hf5 fun b hb e => by have := HS.out b hb; omega).below hb6)
          have HW6 := Lib.hid hw6
          rcases hor with ⟨x, r2, hcx, hpar, rfl, rfl, hr2⟩ | ⟨hcx, r2, hr2⟩
          · have hrb := (hr2.below hb6).c1
            have hok := (comR_inv HRB.out hcx).2
            have HAD := Lib.hid (add_any S (fun b => wr.heap.size ≤ b) bg L (.slice ca cn cc) x.1 x.2.1 x.2.2 w6 HG6.out (hpar.below hb6) (WalkArith.wf_i64 (by have := hok.2.2.1; have := hok.2.2.2.1; omega)) (by have := hok.2.2.2.2; omega))
            have HR6 := Lib.hid (hr2.below hb6)
            have HCX := Lib.hid hcx
            obtain ⟨ps, t, s⟩ := x
            clear hcx hpar hr2 hf5 hb6 hw6 hok
            go_upto_region 9 with fail
            rw [← HW6.out]
            by_cases hbad : addBad L (ps, t, s) = 0
            · have HC1 : Hid (comsR (j + 1) l1 = some (L ++ [(ps, t, s)], r2)) := Lib.hid (by rw [comsR, HCR.out]; simp only; rw [HCX.out]; simp only; rw [if_pos hbad])
              have HAC : Hid (addC L (ps, t, s) = L ++ [(ps, t, s)]) := Lib.hid (by unfold addC; rw [if_pos hbad])
              go_wp2_with fail
              refine HAD.out.mono ?_
              rintro e w7 hp7
              obtain ⟨rfl, S', hg7, hf7, hs7⟩ := hp7.ok hbad
              have HG7 := Lib.hid hg7
              have HR7 := Lib.hid (HR6.out.fr hf7 (fun b hb e => by have := HS.out b e; omega))
              have HB7 : Hid (Below w.heap.size w w7) := Lib.hid (HB6.out.trans (hf7.below (fun b hb => by have := HS.out b hb; have := HSB.out; omega) HB6.out.size))
              have HS7 : Hid (∀ b, S' b → br < b) := Lib.hid (fun b hb => by
                rcases hs7 b hb with h | h
                · exact HS.out b h
                · have := HR6.out.lt; omega)
              clear hp7 hg7 hf7 hs7 x0 x1 x2 hrb hbad
              go_wp2
              go_roundg (k - (j + 1))
              case measure => omega
              case rel => exact ⟨j + 1, r2, L ++ [(ps, t, s)], S', by omega, rfl, by go_num, HR7.out, HC1.out, by rw [← HAC.out]; exact HG7.out, HS7.out, HB7.out⟩
            · have HTR : Hid (takeR l = none) := Lib.hid (by
                have h1 : comsR (j + 1) l1 = none := by rw [comsR, HCR.out]; simp only; rw [HCX.out]; simp only; rw [if_neg hbad]
                unfold takeR
                rw [HK.out]
                simp only
                rw [if_neg (by omega), comsR_none h1 (by omega)])
              obtain ⟨q, hq⟩ : ∃ q, q = addBad L (ps, t, s) := ⟨_, rfl⟩
              have hq0 : q ≠ 0 := by rw [hq]; exact hbad
              have hqe : errV q = .iface 63 (.int .i64 q) := by unfold errV; rw [if_neg hq0]
              go_wp2_with fail
              refine HAD.out.mono ?_
              rintro e w7 hp7
              obtain ⟨rfl, S', hg7, hf7, hs7⟩ := hp7.no hq.symm hq0
              have HB7 : Hid (Below w.heap.size w w7) := Lib.hid (HB6.out.trans (hf7.below (fun b hb => by have := HS.out b hb; have := HSB.out; omega) HB6.out.size))
              rw [hqe]
              clear hp7 hg7 hf7 hs7 x0 x1 x2 hrb hbad hq hqe
              go_wp2
              go_ret2
              exact ⟨HB7.out, .inr ⟨HTR.out, rfl⟩⟩
          · have hrb := (hr2.below hb6).c1
            have HTR : Hid (takeR l = none) := Lib.hid (by
              have h1 : comsR (j + 1) l1 = none := by rw [comsR, HCR.out]; simp only; rw [hcx]
              unfold takeR
              rw [HK.out]
              simp only
              rw [if_neg (by omega), comsR_none h1 (by omega)])
            clear hr2 hf5 hb6 hw6 hcx
            go_upto_region 9 with fail
            rw [← HW6.out]
            go_wp2
            go_ret2
            exact ⟨HB6.out, .inr ⟨HTR.out, rfl⟩⟩
        · have hjk := show j = k by omega
          subst hjk
          obtain ⟨qa, qn, qc, hq0, hqr, hqc, hqn⟩ := hrs.ex
          have hql := hqr.rd.len
          by_cases hr0 : qn = 0
          · have hre : r = [] := List.eq_nil_of_length_eq_zero (by omega)
            have HTR : Hid (takeR l = some L) := Lib.hid (by
              unfold takeR
              rw [HK.out]
              simp only
              rw [if_neg (by omega), HCR.out]
              simp only
              rw [if_pos hre])
            have HFG : Hid (GI wr (fun b => w.heap.size ≤ b) bg L) := Lib.hid (by
              obtain ⟨P, a0, c0, h1, h2, h3, h4⟩ := HGI.out.ex
              exact ⟨⟨P, a0, c0, h1, h2.mono (fun i hi => by have := HS.out i hi; have := HSB.out; omega), h3, h4⟩, HGI.out.fr0, by have := HS.out bg HGI.out.foot; have := HSB.out; omega, HGI.out.n1⟩)
            subst hr0
            clear hqr hql hre hrs
            go_wp2
            go_ret2
            exact ⟨HB.out, .inl ⟨L, bg, HTR.out, rfl, HFG.out⟩⟩
          · have HTR : Hid (takeR l = none) := Lib.hid (by
              unfold takeR
              rw [HK.out]
              simp only
              rw [if_neg (by omega), HCR.out]
              simp only
              rw [if_neg (fun e => hr0 (by rw [← hql, e]; rfl))])
            have hqz : ((qn : Int) != 0) = true := by rw [bne_iff_ne]; omega
            have hqz2 : (qn != 0) = true := by rw [bne_iff_ne]; exact hr0
            clear hqr hql hrs
            go_wp2
            go_ret2
            exact ⟨HB.out, .inr ⟨HTR.out, rfl⟩⟩
  · have HTR : Hid (takeR l = none) := Lib.hid (by unfold takeR; rw [hk])
    have hc1 := hrs.c1
    clear hk hrs
    go_wp2
    go_ret2
    exact ⟨HB2.out, .inr ⟨HTR.out, rfl⟩⟩

end Go.Proofs.Ytoakelgjofdmpaa
