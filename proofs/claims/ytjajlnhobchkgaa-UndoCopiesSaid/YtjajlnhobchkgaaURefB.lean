/-
  the reference of chapter 39: New, Between.
-/
import Derived.Test.YtjajlnhobchkgaaURefM
import Derived.Deep.RegionHeld3
namespace Go.Proofs.Ytjajlnhobchkgaa
open Go.RowKit
set_option linter.unusedVariables false
set_option linter.unusedSimpArgs false

theorem ints_has (ws : List Nat) (u : Nat) : (ints ws).contains (u : Int) = ws.contains u := by
  rw [Bool.eq_iff_iff, List.contains_iff_mem, List.contains_iff_mem]
  constructor
  · intro h
    obtain ⟨x, hx, e⟩ := List.mem_map.1 h
    have : x = u := by have e2 : (x : Int) = u := e; omega
    rw [← this]; exact hx
  · intro h
    exact List.mem_map.2 ⟨u, h, rfl⟩
theorem offP_cons (u : Nat) (us ws : List Nat) : offP (u :: us) ws = if ws.contains u then offP us ws else u :: offP us ws := by
  unfold offP
  cases h : ws.contains u <;> simp only [List.filter_cons, h, Bool.not_false, Bool.not_true, if_true, if_false, Bool.false_eq_true]

/-- a new tree of the reference -/
theorem rnew_any (id : Int) (w : World) (hid : (Lit.int .i64 id).wf = true) : Calls Try.prog 14 #[.int .i64 id] w fun e w' => ∃ v', e = .returned v' ∧ RT w' (fun b => w.heap.size ≤ b) v' [⟨id, -1, -1, 0, []⟩] 0 ∧ Below w.heap.size w w' := by
  have HID := Lib.hid hid
  clear hid
  go_enter Try.func14, Try.ntmps14
  go_wp2
  refine bodyPost_ret (v := .agg #[.slice (some ⟨w.heap.size + 1, 0, none⟩) 1 1, .slice (some ⟨w.heap.size + 1 + 1, 0, none⟩) 1 1, .slice (some ⟨w.heap.size + 1 + 1 + 1, 0, none⟩) 1 1, .int .i64 0]) (by simp [results, Try.results14, go_sem]) rfl ⟨_, rfl, ⟨⟨_, 1, _, 1, _, 1, rfl, ?_, ?_, ?_⟩⟩, ?_⟩
  · refine ⟨⟨rfl, by simp, fun i hi => ⟨_, 0, rfl, ?_⟩, fun x hx => ?_⟩, fun x hx _ => ?_⟩
    · obtain rfl : i = 0 := by simp at hi; omega
      exact below_cell (below_alloc _ _) (below_cell (below_alloc _ _) (acell (by simp) rfl))
    · simp at hx; rw [hx]; exact HID.out
    · cases hx; show w.heap.size ≤ w.heap.size + 1; omega
  · refine ⟨⟨rfl, by simp, fun i hi => ⟨_, 0, rfl, ?_⟩, fun x hx => ?_⟩, fun x hx _ => ?_⟩
    · obtain rfl : i = 0 := by simp at hi; omega
      exact below_cell (below_alloc _ _) (acell (by simp) rfl)
    · simp at hx; rw [hx]; decide
    · cases hx; show w.heap.size ≤ w.heap.size + 1 + 1; omega
  · refine ⟨⟨rfl, by simp, fun i hi => ⟨_, 0, rfl, ?_⟩, fun x hx => ?_⟩, fun x hx _ => ?_⟩
    · obtain rfl : i = 0 := by simp at hi; omega
      exact acell (by simp) rfl
    · simp at hx; rw [hx]; decide
    · cases hx; show w.heap.size ≤ w.heap.size + 1 + 1 + 1; omega
  · exact bthen (bthen (bthen (below_alloc _ _) (below_alloc _ _)) (below_alloc _ _)) (below_alloc _ _)

/-- the nodes that are left, counted down to the j-th of the path -/
def upL (us ws : List Nat) (j : Nat) : List Nat := (offP (us.drop j) ws).reverse
theorem upL_top (us ws : List Nat) : upL us ws us.length = [] := by unfold upL; rw [List.drop_length]; rfl
theorem upL_zero (us ws : List Nat) : upL us ws 0 = (offP us ws).reverse := rfl
theorem upL_in {us ws : List Nat} {j : Nat} (hj : j < us.length) (h : ws.contains (us.getD j 0) = true) : upL us ws j = upL us ws (j + 1) := by
  unfold upL
  rw [drop_cons_d (d := 0) hj, offP_cons, if_pos h]
theorem upL_out {us ws : List Nat} {j : Nat} (hj : j < us.length) (h : ws.contains (us.getD j 0) = false) : upL us ws j = upL us ws (j + 1) ++ [us.getD j 0] := by
  unfold upL
  rw [drop_cons_d (d := 0) hj, offP_cons, h, if_neg (by simp), List.reverse_cons]
theorem upL_len (us ws : List Nat) (j : Nat) : (upL us ws j).length ≤ us.length := by
  unfold upL
  rw [List.length_reverse]
  exact Nat.le_trans (offP_len _ _) (by rw [List.length_drop]; omega)
/-- the nodes that are entered, up to the j-th of the path -/
def dnL (us ws : List Nat) (j : Nat) : List Nat := offP (ws.take j) us
theorem dnL_zero (us ws : List Nat) : dnL us ws 0 = [] := rfl
theorem dnL_top (us ws : List Nat) : dnL us ws ws.length = offP ws us := by unfold dnL; rw [List.take_length]
theorem dnL_in {us ws : List Nat} {j : Nat} (hj : j < ws.length) (h : us.contains (ws.getD j 0) = true) : dnL us ws (j + 1) = dnL us ws j := by
  unfold dnL
  rw [offP_take ws us hj, if_pos h]
theorem dnL_out {us ws : List Nat} {j : Nat} (hj : j < ws.length) (h : us.contains (ws.getD j 0) = false) : dnL us ws (j + 1) = dnL us ws j ++ [ws.getD j 0] := by
  unfold dnL
  rw [offP_take ws us hj, h, if_neg (by simp)]
theorem dnL_len (us ws : List Nat) (j : Nat) : (dnL us ws j).length ≤ ws.length :=
  Nat.le_trans (offP_len _ _) (by rw [List.length_take]; omega)

/-- two lists of nodes -/
def BtwPost (U D : List Nat) (w : World) (e : Ending) (w' : World) : Prop :=
  ∃ a1 c1 a2 c2, e = .returned (.tuple #[.slice a1 U.length c1, .slice a2 D.length c2]) ∧ Rd w' .i64 a1 U.length (ints U) ∧ Rd w' .i64 a2 D.length (ints D) ∧ Below w.heap.size w w'

set_option maxRecDepth 100000 in
set_option maxHeartbeats 4000000 in
theorem rbetween_any (T : Nat → Prop) (v : Value) (l : List Nd) (now : Int) (x y : Nat) (us ws : List Nat) (w : World) (h : RT w T v l now) (hw : WfT l) (hx : x < l.length) (hy : y < l.length) (hp : IsPath l x us) (hq : IsPath l y ws) (hlen : l.length ≤ 1000) :
    Calls Try.prog 19 #[v, .int .i64 x, .int .i64 y] w (BtwPost (offP us ws).reverse (offP ws us) w) := by
  obtain ⟨ta, tc, pa, pc, fa, fc, rfl, h1, h2, h3⟩ := h.ex
  obtain ⟨w1, hw1⟩ : ∃ w1, w1 = w.alloc (.cells #[.slice ta l.length tc, .slice pa l.length pc, .slice fa l.length fc, .int .i64 now] 36) := ⟨_, rfl⟩
  have HW1 := Lib.hid hw1
  have hb1 : Below w.heap.size w w1 := by rw [hw1]; exact below_alloc _ _
  have hct : CT w1 w.heap.size (.slice ta l.length tc) (.slice pa l.length pc) (.slice fa l.length fc) now := by rw [hw1]; exact ⟨by simp, by simp, by simp, by simp, fun j => by simp⟩
  have HCT := Lib.hid hct
  obtain ⟨d0, d1, d2, d3, df⟩ := hct.below ((Below.refl _ w1).drew)
  have hbw : Below w.heap.size w w1.drew := hb1.drew
  have HCC := Lib.hid (hct.below ((Below.refl _ w1).drew))
  have HPX := Lib.hid (fun (wx : World) (hb : Below w.heap.size w wx) => rpath_any ta pa fa l.length tc pc l.length fc now l x us wx hp hw hx hlen (h2.rd.below hb))
  have HPY := Lib.hid (fun (wx : World) (hb : Below w.heap.size w wx) => rpath_any ta pa fa l.length tc pc l.length fc now l y ws wx hq hw hy hlen (h2.rd.below hb))
  have HU : Hid (us.length ≤ 1000 ∧ (∀ u ∈ us, u ≤ 1000) ∧ ws.length ≤ 1000 ∧ (∀ u ∈ ws, u ≤ 1000)) := Lib.hid (by
    have k1 := (hp.facts hw).2.2.2.2 _ (List.getElem?_eq_getElem hx)
    have k2 := (hq.facts hw).2.2.2.2 _ (List.getElem?_eq_getElem hy)
    have k3 := hw.dep x _ (List.getElem?_eq_getElem hx)
    have k4 := hw.dep y _ (List.getElem?_eq_getElem hy)
    exact ⟨by omega, fun u hu => by have := hp.le u hu; omega, by omega, fun u hu => by have := hq.le u hu; omega⟩)
  clear h h1 h2 h3 hw1 hb1 df hct hw hx hy hp hq hlen
  go_enter Try.func19, Try.ntmps19
  go_upto_region 1 with fail
  rw [← HW1.out]
  go_region_held3 (fun w' => w'.cell? ⟨w.heap.size, 0, none⟩ = some (.slice ta l.length tc) ∧ w'.cell? ⟨w.heap.size, 1, none⟩ = some (.slice pa l.length pc) ∧ w'.cell? ⟨w.heap.size, 2, none⟩ = some (.slice fa l.length fc) ∧ w'.cell? ⟨w.heap.size, 3, none⟩ = some (.int .i64 now)) (go_keep) (first
    | (go_at_call_of 43 (Value.int .i64 (x : Int)); refine (HPX.out _ hbw).mono ?_; rintro e w5 ⟨up, uc, rfl, ho5, hb5⟩; have HOP := Lib.hid (ho5.mono (Nat.zero_le _)); (try (have HOQ := Lib.hid (HOQ.out.below hb5))); have HCC := Lib.hid (HCC.out.below hb5); obtain ⟨x0, x1, x2, x3, _⟩ := HCC.out; have hbw := hbw.trans (hb5.mono hbw.size); clear ho5 hb5)
    | (go_at_call_of 43 (Value.int .i64 (y : Int)); refine (HPY.out _ hbw).mono ?_; rintro e w5 ⟨vp, vc, rfl, ho5, hb5⟩; have HOQ := Lib.hid (ho5.mono (Nat.zero_le _)); (try (have HOP := Lib.hid (HOP.out.below hb5))); have HCC := Lib.hid (HCC.out.below hb5); obtain ⟨x0, x1, x2, x3, _⟩ := HCC.out; have hbw := hbw.trans (hb5.mono hbw.size); clear ho5 hb5))
  all_goals
    have HRP := Lib.hid (Own.rd' HOP.out (ints_wf (v := 1000) HU.out.2.1 (Nat.le_refl _)))
    have HRQ := Lib.hid (Own.rd' HOQ.out (ints_wf (v := 1000) HU.out.2.2.2 (Nat.le_refl _)))
    have HBW := Lib.hid hbw
    obtain ⟨wA, hwA⟩ : ∃ wA : World, wA = w5 := ⟨_, rfl⟩
    subst hwA
    clear d0 d1 d2 d3 x0 x1 x2 x3 hbw
    have hul := HU.out.1
    have hwl := HU.out.2.2.1
    go_wp2
    go_loopg [10, 12] us.length (fun gg ov iv wr => ∃ (j : Nat) (a : Option Addr) (c : Nat), j ≤ us.length ∧ j = gg ∧ iv = .int .i64 ((j : Int) - 1) ∧ ov = .slice a (upL us ws j).length c ∧ Own wr wA.heap.size 3 .i64 (.slice a (upL us ws j).length c) (ints (upL us ws j)) ∧ Below wA.heap.size wA wr)
    case atStart => exact ⟨us.length, none, 0, Nat.le_refl _, rfl, by go_num, by rw [upL_top]; rfl, by rw [upL_top]; exact Own.nil _ _ _ _, Below.refl _ _⟩
    case round =>
      obtain ⟨j, a, c, hj, rfl, rfl, rfl, ho, hb⟩ := hrel
      have HO := Lib.hid ho
      have HB := Lib.hid hb
      rcases Nat.eq_zero_or_pos j with e | e
      · subst e
        rw [show ((0 : Nat) : Int) - 1 = -1 by omega]
        clear ho hb hj
        obtain ⟨wB, hwB⟩ : ∃ wB : World, wB = wr := ⟨_, rfl⟩
        subst hwB
        obtain ⟨M, hM⟩ : ∃ M, M = (upL us ws 0).length := ⟨_, rfl⟩
        have HM := Lib.hid hM
        rw [← hM] at HO ⊢
        clear hM
        go_wp2
        go_loopg [11, 13] ws.length (fun gg ov iv wr => ∃ (i : Nat) (a2 : Option Addr) (c2 : Nat), i ≤ ws.length ∧ gg = ws.length - i ∧ iv = .int .i64 (i : Int) ∧ ov = .slice a2 (dnL us ws i).length c2 ∧ Own wr wB.heap.size 3 .i64 (.slice a2 (dnL us ws i).length c2) (ints (dnL us ws i)) ∧ Below wB.heap.size wB wr)
        case atStart => exact ⟨0, none, 0, Nat.zero_le _, rfl, rfl, rfl, Own.nil _ _ _ _, Below.refl _ _⟩
        case round =>
          obtain ⟨i, a2, c2, hi, rfl, rfl, rfl, ho2, hb2⟩ := hrel
          have HO2 := Lib.hid ho2
          have HB2 := Lib.hid hb2
          have HBA : Hid (Below wA.heap.size wA wr) := Lib.hid (HB.out.trans (hb2.mono HB.out.size))
          by_cases hlt : i < ws.length
          · have hkz : (i : Int) < (ws.length : Int) := by omega
            obtain ⟨b, off, rfl, hc⟩ := (HRQ.out.below HBA.out).cell i hlt
            rw [ints_getD] at hc
            have HIN := Lib.hid (in_any ((ws.getD i 0 : Nat) : Int) up us.length uc (ints us) wr (HRP.out.below HBA.out))
            rw [ints_has] at HIN
            have HLN := Lib.hid (dnL_len us ws i)
            have HUK : Hid (ws.getD i 0 ≤ 1000) := Lib.hid (HU.out.2.2.2 _ (getD_mem hlt))
            have HLT := Lib.hid hlt
            cases hm : us.contains (ws.getD i 0) with
            | true =>
              rw [hm] at HIN
              have HST := Lib.hid (dnL_in hlt hm)
              generalize ws.getD i 0 = u at *
              clear ho2 hb2 hm hi
              go_wp2_with fail
              refine HIN.out.mono ?_
              rintro e w6 ⟨rfl, rfl⟩
              go_wp2
              go_roundg (ws.length - (i + 1))
              case measure => have := HLT.out; omega
              case rel => exact ⟨i + 1, a2, c2, HLT.out, rfl, by go_num, by rw [HST.out], by rw [HST.out]; exact HO2.out, HB2.out⟩
            | false =>
              rw [hm] at HIN
              have HST := Lib.hid (dnL_out hlt hm)
              generalize ws.getD i 0 = u at *
              obtain ⟨L1, hL1⟩ : ∃ L1, L1 = dnL us ws i := ⟨_, rfl⟩
              rw [← hL1] at HO2 HLN HST ⊢
              have HL1 := Lib.hid (ints_len L1)
              have hL9 : L1.length ≤ 1000 := by have := HLN.out; omega
              clear ho2 hb2 hm hi hL1
              go_wp2_with fail
              refine HIN.out.mono ?_
              rintro e w6 ⟨rfl, rfl⟩
              go_wp2_with (at_builtin; refine app_rd (.tmp 54) (.tmp 59) EI rfl rfl wB.heap.size (.slice a2 L1.length c2) (ints L1) rfl (HO2.out.alloc _) _ 1 _ [(u : Int)] rfl (Rd.one wr .i64 3 u (WalkArith.wf_i64 (by have := HUK.out; omega))) (by rw [HL1.out]; simp; omega) (by decide) (by have := HB2.out.size; simp; omega) ?_; intro a7 c7 w7 ho7 hg7; have HB7 := Lib.hid ((HB2.out.alloc HB2.out.size _).trans (grown_below (HO2.out.alloc _) hg7 (by have := HB2.out.size; simp; omega))); have HO7 := Lib.hid ho7; clear ho7 hg7)
              go_roundg (ws.length - (i + 1))
              case measure => have := HLT.out; omega
              case rel =>
                have e9 : ints L1 ++ [(u : Int)] = ints (L1 ++ [u]) := by simp [ints]
                have e8 : (ints L1 ++ [(u : Int)]).length = (L1 ++ [u]).length := by rw [e9, ints_len]
                have ho7 := HO7.out
                rw [e8, e9] at ho7
                exact ⟨i + 1, a7, c7, HLT.out, rfl, by go_num, by rw [HST.out]; simp [ints_len], by rw [HST.out]; exact ho7, HB7.out⟩
          · have hin : i = ws.length := by omega
            obtain ⟨M2, hM2⟩ : ∃ M2, M2 = (dnL us ws i).length := ⟨_, rfl⟩
            have HM2 := Lib.hid hM2
            have HIN := Lib.hid hin
            rw [← hM2] at HO2 ⊢
            have hid : decide (i < ws.length) = false := decide_eq_false hlt
            clear ho2 hb2 hM2 hin
            go_wp2
            go_ret2
            refine ⟨a, c, a2, c2, ret_eq (by rw [HM.out, HM2.out, HIN.out, dnL_top, upL_zero]; rfl), ?_, ?_, HBW.out.trans (HBA.out.mono HBW.out.size)⟩
            · have h := HO.out.below HB2.out
              rw [HM.out] at h
              exact Own.rd' h (ints_wf (v := 1000) (fun u hu => HU.out.2.1 u (offP_mem (List.mem_reverse.1 hu))) (Nat.le_refl _))
            · have h := HO2.out
              rw [HM2.out, HIN.out, dnL_top] at h
              exact Own.rd' h (ints_wf (v := 1000) (fun u hu => HU.out.2.2.2 u (offP_mem hu)) (Nat.le_refl _))
      · obtain ⟨k, rfl⟩ : ∃ k, j = k + 1 := ⟨j - 1, by omega⟩
        rw [show ((k + 1 : Nat) : Int) - 1 = (k : Int) by omega]
        have hk : k < us.length := by omega
        have hkz : (k : Int) < (us.length : Int) := by omega
        have hk0 : (0 : Int) ≤ (k : Int) := by omega
        have hwk : IntKind.i64.wrap ((k : Int) - 1) = (k : Int) - 1 := IntWalk.i64_in _ (by omega)
        obtain ⟨b, off, rfl, hc⟩ := (HRP.out.below hb).cell k hk
        rw [ints_getD] at hc
        have HIN := Lib.hid (in_any ((us.getD k 0 : Nat) : Int) vp ws.length vc (ints ws) wr (HRQ.out.below hb))
        rw [ints_has] at HIN
        have HLN := Lib.hid (upL_len us ws (k + 1))
        have HUK : Hid (us.getD k 0 ≤ 1000) := Lib.hid (HU.out.2.1 _ (getD_mem hk))
        cases hm : ws.contains (us.getD k 0) with
        | true =>
          rw [hm] at HIN
          have HST := Lib.hid (upL_in hk hm)
          generalize us.getD k 0 = u at *
          clear ho hb hm hj
          go_wp2_with fail
          refine HIN.out.mono ?_
          rintro e w6 ⟨rfl, rfl⟩
          go_wp2
          go_roundg k
          case measure => omega
          case rel => exact ⟨k, a, c, by omega, rfl, rfl, by rw [HST.out], by rw [HST.out]; exact HO.out, HB.out⟩
        | false =>
          rw [hm] at HIN
          have HST := Lib.hid (upL_out hk hm)
          generalize us.getD k 0 = u at *
          obtain ⟨L1, hL1⟩ : ∃ L1, L1 = upL us ws (k + 1) := ⟨_, rfl⟩
          rw [← hL1] at HO HLN HST ⊢
          have HL1 := Lib.hid (ints_len L1)
          have hL9 : L1.length ≤ 1000 := by have := HLN.out; omega
          clear ho hb hm hj hL1
          go_wp2_with fail
          refine HIN.out.mono ?_
          rintro e w6 ⟨rfl, rfl⟩
          go_wp2_with (at_builtin; refine app_rd (.tmp 34) (.tmp 39) EI rfl rfl wA.heap.size (.slice a L1.length c) (ints L1) rfl (HO.out.alloc _) _ 1 _ [(u : Int)] rfl (Rd.one wr .i64 3 u (WalkArith.wf_i64 (by have := HUK.out; omega))) (by rw [HL1.out]; simp; omega) (by decide) (by have := HB.out.size; simp; omega) ?_; intro a7 c7 w7 ho7 hg7; have HB7 := Lib.hid ((HB.out.alloc HB.out.size _).trans (grown_below (HO.out.alloc _) hg7 (by have := HB.out.size; simp; omega))); have HO7 := Lib.hid ho7; clear ho7 hg7)
          go_roundg k
          case measure => omega
          case rel =>
            have e9 : ints L1 ++ [(u : Int)] = ints (L1 ++ [u]) := by simp [ints]
            have e8 : (ints L1 ++ [(u : Int)]).length = (L1 ++ [u]).length := by rw [e9, ints_len]
            have ho7 := HO7.out
            rw [e8, e9] at ho7
            exact ⟨k, a7, c7, by omega, rfl, rfl, by rw [HST.out]; simp [ints_len], by rw [HST.out]; exact ho7, HB7.out⟩

end Go.Proofs.Ytjajlnhobchkgaa
