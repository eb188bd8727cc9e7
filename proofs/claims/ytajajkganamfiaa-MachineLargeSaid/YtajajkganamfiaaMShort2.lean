/-
  machine.Shortest on a valid machine: the walk.
-/
import Derived.Test.YtajajkganamfiaaMShort
import Derived.Deep.RegionHeld3
namespace Go.Proofs.Ytajajkganamfiaa
open Go.RowKit

set_option maxRecDepth 100000 in
set_option maxHeartbeats 4000000 in
theorem short_any (s : Int) (ac : Option Addr) (nc cc : Nat) (an : Option Addr) (nn cn : Nat) (aa : Option Addr) (na ca : Nat) (cls : List Int) (next : List (List Int)) (acc : List Bool) (w : World)
    (hm : RdM w ac nc an nn aa na cls next acc) (hv : Valid s cls next acc) :
    Calls Try.prog 10 #[.agg #[.int .i64 s, .slice ac nc cc, .slice an nn cn, .slice aa na ca]] w (ShortPost3 (shortest s cls next acc) w) := by
  obtain ⟨S, rfl⟩ := Int.eq_ofNat_of_zero_le hv.s0
  obtain ⟨w0, hw0⟩ : ∃ w0, w0 = w.alloc (.cells #[.int .i64 S, .slice ac nc cc, .slice an nn cn, .slice aa na ca] 26) := ⟨_, rfl⟩
  have HB0 := Lib.hid (show Below w.heap.size w w0 by rw [hw0]; exact below_alloc _ _)
  have HM0 := Lib.hid (hm.below HB0.out)
  have HV := Lib.hid hv
  have HX0 : Hid (w0.cell? ⟨w.heap.size, 0, none⟩ = some (.int .i64 S)) := Lib.hid (by rw [hw0]; simp)
  have HX1 : Hid (w0.cell? ⟨w.heap.size, 1, none⟩ = some (.slice ac nc cc)) := Lib.hid (by rw [hw0]; simp)
  have HX2 : Hid (w0.cell? ⟨w.heap.size, 2, none⟩ = some (.slice an nn cn)) := Lib.hid (by rw [hw0]; simp)
  have HX3 : Hid (w0.cell? ⟨w.heap.size, 3, none⟩ = some (.slice aa na ca)) := Lib.hid (by rw [hw0]; simp)
  have HW0 := Lib.hid hw0
  have HLn := Lib.hid hm.n.len
  have HLa := Lib.hid hm.a.len
  have HLc := Lib.hid hm.c.len
  have hnn : nn ≤ 256 := by rw [← HLn.out]; exact hv.n1
  have hSn : S < nn := by have h := hv.s1; rw [HLn.out] at h; omega
  have hna : na ≤ nn ∧ nn ≤ na := by have h := hv.accL; rw [HLn.out, HLa.out] at h; omega
  have hnc : nc ≤ 256 ∧ 256 ≤ nc := by have h := hv.clsL; rw [HLc.out] at h; omega
  have hne : ∀ w, (binOp .neq 30 .nilIface .nilIface).run Try.prog w = .ok (.bool false) w := fun w => by kernel_rfl
  clear hm hv hw0
  go_enter Try.func10, Try.ntmps10
  go_wp2_with fail
  rw [← HW0.out]
  refine (check_ok _ _ _ _ _ _ _ _ _ _ _ _ _ _ HM0.out HV.out).mono ?_
  rintro e w1 ⟨rfl, hb1⟩
  have HB : Hid (Below w.heap.size w w1) := Lib.hid (bthen HB0.out hb1)
  have HM := Lib.hid (HM0.out.below hb1)
  have HX0 := Lib.hid (below_cell hb1 HX0.out)
  have HX1 := Lib.hid (below_cell hb1 HX1.out)
  have HX2 := Lib.hid (below_cell hb1 HX2.out)
  have HX3 := Lib.hid (below_cell hb1 HX3.out)
  clear hb1 HM0 HB0 HW0
  obtain ⟨B, hB⟩ : ∃ B, B = w1.heap.size := ⟨_, rfl⟩
  have HBB := Lib.hid hB
  clear hB
  have hx2 := HX2.out
  have hx0 := HX0.out
  go_wp2_with (at_make; refine make_row EB rfl _ _ rfl B _ _ _ _ nn rfl rfl rfl rfl (by omega) (by omega) (by rw [HBB.out]; exact Nat.le_refl _) ?_)
  intro w3 hS hg3
  have HB3 := Lib.hid (grown_below' hg3 (base := w1.heap.size) (Nat.le_refl _))
  have HS3 := Lib.hid hS
  clear hS hg3 hx2 hx0
  obtain ⟨gS, hgS⟩ : ∃ gS, gS = w1.heap.size := ⟨_, rfl⟩
  rw [← hgS] at HS3 ⊢
  have HgS := Lib.hid hgS
  clear hgS
  have hx0 := below_cell HB3.out HX0.out
  have HO3 : Hid (OwnB w3 B (.slice (some ⟨gS, 0, none⟩) nn nn) (List.replicate nn false)) := Lib.hid (by
    have h := HS3.out
    rw [toList_madeCells_one, ← List.map_replicate] at h
    unfold OwnB; rw [List.length_replicate]; exact h)
  have hsz3 := HB3.out.size
  go_wp2_with (refine store_bool rfl _ _ rfl gS S rfl true rfl (by kernel_rfl) B nn nn _ HO3.out (by simp) (by simp; omega) ?_)
  intro w4 hO4 hg4
  have efb := fbits_start (n := nn) (s := (S : Int)) (by omega) (by omega)
  rw [Int.toNat_natCast] at efb
  rw [efb] at hO4
  clear efb
  have HB4 := Lib.hid (Row.grown HO3.out hg4 (by rw [HBB.out]; exact hsz3))
  have HO4 := Lib.hid hO4
  clear hO4 hg4 hx0
  have HBw4 : Hid (Below B w1 w4) := Lib.hid (by rw [HBB.out] at *; exact HB3.out.trans HB4.out)
  have hx0 := below_cell (by rw [← HBB.out]; exact HBw4.out) HX0.out
  go_wp2
  clear hx0
  have hsz4 : B ≤ w4.heap.size := by have := HBw4.out.size; rw [HBB.out]; exact this
  go_loopw [7, 8] (fun rv iv wr => ∃ (i g q c : Nat) (T : List Stp), iv = .int .i64 i ∧ rv = .slice (some ⟨g, 0, none⟩) q c ∧ i ≤ q ∧ StepInv B nn w1 wr gS g q c T ∧ shortest (S : Int) cls next acc = bfs cls next acc (nn + 1 - i) i (fnd T)) (fun _ iv _ => nn + 1 - (intOf iv).toNat)
  case atStart =>
    refine ⟨0, w4.heap.size, 1, 1, [((S : Int), -1, 0, [])], rfl, rfl, by omega, ⟨rfl, ?_, ?_, ?_, good_start (by omega) (by omega), ?_, by simp⟩, ?_⟩
    · exact World.ownsRow_lit w4 #[.int .i64 (S : Int), .int .i64 (-1), .int .u8 0] 1 hsz4 (by decide) rfl
    · exact World.ownsRow.alloc HO4.out _
    · exact HBw4.out.alloc hsz4 _
    · intro i x hx
      cases i with
      | zero => simp at hx; subst hx; exact ⟨by simp, .inl ⟨by simp, rfl⟩⟩
      | succ i => simp at hx
    · unfold shortest; rw [HLn.out]; rfl
  case round =>
    obtain ⟨i, g, q, c, T, rfl, rfl, hi, hinv, hsh⟩ := hrel
    have HI := Lib.hid hinv
    have HSH := Lib.hid hsh
    have hqn : q ≤ nn := by rw [hinv.ql]; have := hinv.good.len; rw [fnd, List.length_map] at this; exact this
    clear hinv hsh HO3 HS3 HO4 HB4 HB3 HBw4
    by_cases hlt : i < q
    · obtain ⟨⟨q0, p0, l0, t⟩, hTi⟩ : ∃ x, T[i]? = some x := ⟨_, List.getElem?_eq_getElem (show i < T.length by rw [← HI.out.ql]; exact hlt)⟩
      have hRi : (fnd T)[i]? = some (q0, t) := fnd_get hTi
      have hq0 := HI.out.good.bd _ (List.mem_of_getElem? hRi)
      obtain ⟨Q, rfl⟩ := Int.eq_ofNat_of_zero_le hq0.1
      have hQ : Q < nn := by have := hq0.2; simp only at this; omega
      have HBl : Hid (Below w1.heap.size w1 wr) := Lib.hid (by rw [← HBB.out]; exact HI.out.bel)
      have hx0 := below_cell HBl.out HX0.out
      have hx1 := below_cell HBl.out HX1.out
      have hx2 := below_cell HBl.out HX2.out
      have hx3 := below_cell HBl.out HX3.out
      have hrow := (HI.out.cells hTi).1
      have hQa : Q < na := by omega
      obtain ⟨ba, oa, rfl, hacc⟩ := (HM.out.a.below HBl.out).cell Q hQa
      have HTI := Lib.hid hTi
      have HRI := Lib.hid hRi
      have HSH2 : Hid (shortest (S : Int) cls next acc = if acc.getD Q false then some t else bfs cls next acc (nn + 1 - (i + 1)) (i + 1) (expTo cls next Q t (fnd T) 256)) := Lib.hid (by
        rw [HSH.out, show nn + 1 - i = (nn + 1 - (i + 1)) + 1 by omega, bfs, hRi]; rfl)
      have hin : (i : Int) < (q : Int) := by omega
      have hQn : (Q : Int) < (na : Int) := by omega
      have hQnn : (Q : Int) < (nn : Int) := by omega
      clear hRi hTi hq0 HSH
      generalize acc.getD Q false = z at *
      cases z with
      | true =>
        go_wp2
        go_quiet (fail)
        go_wp2
        obtain ⟨wo, hwo⟩ : ∃ wo : World, wo = wr.drewN nq := ⟨_, rfl⟩
        rw [← hwo]
        have HD := Lib.hid (show Below wr.heap.size wr wo by rw [hwo]; exact bdrewN (Below.refl _ _) _)
        have hwsz : wo.heap.size = wr.heap.size := by rw [hwo]; simp
        have hBsz : B ≤ wr.heap.size := by rw [HBB.out]; exact HBl.out.size
        have HI2 : Hid (StepInv B nn w1 wo gS g q c T) := Lib.hid (HI.out.below HD.out hBsz)
        have htl : t.length < q := by rw [HI.out.ql]; exact HI.out.tl _ (List.mem_of_getElem? HTI.out)
        have HE : Hid (shortest (S : Int) cls next acc = some t) := Lib.hid (by simpa using HSH2.out)
        obtain ⟨X, hX⟩ : ∃ X, X = wr.heap.size := ⟨_, rfl⟩
        rw [← hX] at hwsz hBsz
        clear hwo hx0 hx1 hx2 hx3 hrow hacc HSH2
        go_loopw [8, 9] (fun iv tv wr2 => ∃ (j : Nat) (y : Stp) (a : List Int) (x c2 : Nat), iv = .int .i64 j ∧ T[j]? = some y ∧ y.2.2.2 ++ a.reverse = t ∧ tv = .slice (some ⟨x, 0, none⟩) a.length c2 ∧ Own wr2 X 5 .u8 (.slice (some ⟨x, 0, none⟩) a.length c2) a ∧ (∀ z ∈ a, (Lit.int .u8 z).wf = true) ∧ StepInv B nn w1 wr2 gS g q c T ∧ X ≤ wr2.heap.size) (fun iv _ _ => (intOf iv).toNat)
        case atStart =>
          refine ⟨i, _, [], X, 0, rfl, HTI.out, by simp, by rw [hX]; rfl, ?_, by simp, HI2.out.below (below_alloc _ _) (by omega), by simp; omega⟩
          rw [← hwsz]
          exact Own.lits wo .u8 _ [] _ (by omega) (by simp)
        case round =>
          clear HI2 HD HI
          obtain ⟨j, ⟨q1, b1, l1, t1⟩, a, x, c2, rfl, hTj, hta, rfl, hown, hwf, hinv, hsz⟩ := hrel
          have HI := Lib.hid hinv
          have HO := Lib.hid hown
          have HTA := Lib.hid hta
          have HWF := Lib.hid hwf
          have HTJ := Lib.hid hTj
          have hjq : (j : Int) < (q : Int) := by have := (List.getElem?_eq_some_iff.1 hTj).1; rw [hinv.ql]; omega
          obtain ⟨hc0, hc1, hc2⟩ := hinv.cells hTj
          obtain ⟨hlb, hlink⟩ := hinv.wf _ _ hTj
          have hal : a.length ≤ t.length := by rw [← hta]; simp
          clear hinv hown hta hTj hc0
          simp only at hc1 hc2 hlb hlink
          by_cases hb : b1 < 0
          · have ht1 : t1 = [] := by
              rcases hlink with ⟨_, h⟩ | ⟨j2, y2, h, _⟩
              · exact h
              · omega
            have hb2 : ¬ (0 ≤ b1) := by omega
            have HT1 := Lib.hid ht1
            have HREV := Lib.hid (fun w h => rev8_any X x a.length c2 a w h rfl (by omega))
            clear hlink ht1
            go_wp2_with fail
            refine (HREV.out _ HO.out).mono ?_
            rintro e w5 ⟨rfl, ho5, hg5⟩
            have HO5 := Lib.hid ho5
            have HG5 := Lib.hid hg5
            clear ho5 hg5
            go_wp2
            go_ret3
            have hb5 := grown_below HO.out HG5.out hsz
            have hbI := HI.out.bel
            refine ⟨HB.out.trans ((hbI.mono (by rw [HBB.out]; exact HB.out.size)).trans (hb5.mono (by have h := HB.out.size; have h2 := HBB.out; omega))), ?_⟩
            rw [HE.out]
            have hta := HTA.out
            simp only [HT1.out, List.nil_append] at hta
            subst hta
            refine ⟨some ⟨x, 0, none⟩, c2, ret_eq (by rw [List.length_reverse]; rfl), ?_⟩
            have h5 := HO5.out
            have e5 : a.length = a.reverse.length := by simp
            rw [e5] at h5
            exact Own.rd h5 (fun z hz => HWF.out z (List.mem_reverse.1 hz))
          · obtain ⟨j2, ⟨q2, b2, l2, t2⟩, hb2, hj2, hT2, ht1⟩ : ∃ (j2 : Nat) (y : Stp), b1 = (j2 : Int) ∧ j2 < j ∧ T[j2]? = some y ∧ t1 = y.2.2.2 ++ [l1] := by
              rcases hlink with ⟨h, _⟩ | h
              · omega
              · exact h
            subst hb2
            simp only at ht1
            have HT1 := Lib.hid ht1
            have HT2 := Lib.hid hT2
            have HK := Lib.hid (Rd.one wr .u8 5 l1 (WalkArith.wf_u8 hlb))
            have HIA := Lib.hid (HI.out.below (below_alloc wr (.cells #[.int .u8 l1] 5)) (by omega))
            have hBsz2 : B ≤ wr.heap.size := by omega
            clear ht1 hT2 hlink hb
            go_wp2_with (at_builtin; refine app_rd (.tmp 57) (.tmp 63) E8 rfl rfl X _ a rfl (HO.out.alloc _) _ _ _ [l1] rfl HK.out (by simp; omega) (by omega) (by simp; omega) ?_; intro a7 c7 w7 ho7 hg7; have hn7 := HIA.out.keep (HO.out.alloc _) hg7 hBsz (by simp; omega); have hc7 := (hn7.cells HTJ.out).2.1; have HN7 := Lib.hid hn7; have HO7 := Lib.hid ho7; have HG7 := Lib.hid hg7; clear ho7 hg7 hn7 hc1)
            go_roundw
            case rel =>
              obtain ⟨x7, rfl, _⟩ := HO7.out.addr (by simp)
              have hta := HTA.out
              simp only [HT1.out, List.append_assoc] at hta
              refine ⟨j2, _, a ++ [l1], x7, c7, rfl, HT2.out, by simpa using hta, by simp, HO7.out, ?_, HN7.out, ?_⟩
              · intro z hz
                rcases List.mem_append.1 hz with hz | hz
                · exact HWF.out z hz
                · rw [List.mem_singleton] at hz; subst hz; exact WalkArith.wf_u8 hlb
              · have h := HG7.out.size
                simp at h; omega
            case measure => simp [intOf]; omega
      | false =>
        go_wp2
        go_quiet (fail)
        go_wp2
        obtain ⟨wo, hwo⟩ : ∃ wo : World, wo = wr.drewN nq := ⟨_, rfl⟩
        rw [← hwo]
        have HD := Lib.hid (show Below wr.heap.size wr wo by rw [hwo]; exact bdrewN (Below.refl _ _) _)
        have hBsz : B ≤ wr.heap.size := by rw [HBB.out]; exact HBl.out.size
        have HI2 : Hid (StepInv B nn w1 wo gS g q c T) := Lib.hid (HI.out.below HD.out hBsz)
        clear hwo hx0 hx1 hx2 hx3 hrow hacc
        go_loopw [7, 71] (fun rv bv wr => ∃ (k g q c : Nat) (T' : List Stp), k ≤ 256 ∧ bv = .int .i64 k ∧ rv = .slice (some ⟨g, 0, none⟩) q c ∧ i + 1 ≤ q ∧ T'[i]? = some ((Q : Int), p0, l0, t) ∧ fnd T' = expTo cls next (Q : Int) t (fnd T) k ∧ StepInv B nn w1 wr gS g q c T') (fun _ bv _ => 256 - (intOf bv).toNat)
        case atStart => exact ⟨0, g, q, c, T, by omega, rfl, rfl, by omega, HTI.out, rfl, HI2.out⟩
        case round =>
          clear HI2 HD HI hqn hin hi
          obtain ⟨k, g, q, c, T', hk, rfl, rfl, hiq, hget, hfnd, hinv⟩ := hrel
          have HI := Lib.hid hinv
          have HGET := Lib.hid hget
          have HF := Lib.hid hfnd
          have hqn : q ≤ nn := by rw [hinv.ql]; have := hinv.good.len; rw [fnd, List.length_map] at this; exact this
          have hin : (i : Int) < (q : Int) := by omega
          by_cases hk2 : k < 256
          · have hbl : Below w1.heap.size w1 wr := by rw [← HBB.out]; exact hinv.bel
            have HBl := Lib.hid hbl
            have hx0 := below_cell hbl HX0.out
            have hx1 := below_cell hbl HX1.out
            have hx2 := below_cell hbl HX2.out
            have hx3 := below_cell hbl HX3.out
            have hrow := (hinv.cells hget).1
            have hk3 : (k : Int) < (nc : Int) := by omega
            obtain ⟨bc, oc, rfl, hcls⟩ := (HM.out.c.below hbl).cell k (by omega)
            obtain ⟨bn, on, an2, nn2, cn2, rfl, hnx, hnr, _⟩ := (HM.out.n.below hbl).cell Q hQ
            have hb := mgo_bd HV.out (q := (Q : Int)) (b := k) (by omega) (by rw [HLn.out]; omega) hk2
            obtain ⟨hb0, hb1, hg0, hg1⟩ := hb
            have hl2 := (HV.out.row (next.getD Q []) (getD_mem (by rw [HLn.out]; omega))).1
            rw [hnr.len] at hl2
            obtain ⟨C, hC⟩ := Int.eq_ofNat_of_zero_le hb0
            rw [hC] at hcls hb1
            obtain ⟨bx, ox, rfl, hxc⟩ := hnr.cell C (by omega)
            have hP0 : mgo cls next (Q : Int) k = (next.getD Q []).getD C 0 := by unfold mgo; rw [hC]; rfl
            rw [← hP0] at hxc
            obtain ⟨P, hP⟩ := Int.eq_ofNat_of_zero_le hg0
            rw [hP] at hg1 hxc
            have hPn : (P : Int) < (nn : Int) := by rw [HLn.out] at hg1; exact hg1
            have hCn : (C : Int) < (nn2 : Int) := by omega
            have hseen := hinv.seen.cell (by rw [fbits_len]) (fbits_get (fnd T') (i := P) (by omega))
            have HEX : Hid (expTo cls next (Q : Int) t (fnd T) (k + 1) = if has (fnd T') (P : Int) then fnd T' else fnd T' ++ [((P : Int), t ++ [(k : Int)])]) := Lib.hid (by rw [expTo_succ, ← hfnd, sstep, hP])
            clear hg0 hg1 hP hP0 hget hinv hbl hb0 hb1 hC hl2 hnr hfnd
            have hwk : IntKind.u8.wrap (k : Int) = k := by rw [IntKind.wrap_u8]; omega
            cases hh : has (fnd T') (P : Int) with
            | true =>
              rw [hh] at hseen
              have HHH := Lib.hid hh
              clear hh
              go_wp2
              go_quiet (fail)
              go_wp2
              go_roundw
              case rel =>
                refine ⟨k + 1, g, q, c, T', by omega, by go_num, rfl, hiq, HGET.out, ?_, ?_⟩
                · rw [HEX.out, if_pos HHH.out]
                · exact HI.out.below (bdrewN (Below.refl _ _) _) (by rw [HBB.out]; exact HBl.out.size)
              case measure => simp [intOf]; omega
            | false =>
              rw [hh] at hseen
              have HHH := Lib.hid hh
              clear hh
              go_wp2
              go_quiet (fail)
              have hBs : B ≤ wr.heap.size := by rw [HBB.out]; exact HBl.out.size
              have HI5 : Hid (StepInv B nn w1 (wr.drewN nq) gS g q c T') := Lib.hid (HI.out.below (bdrewN (Below.refl _ _) _) hBs)
              clear hx0 hx1 hx2 hx3 hrow hcls hnx hxc
              go_wp2_with (refine store_bool rfl _ _ rfl gS P rfl true rfl (by kernel_rfl) B nn nn _ HI5.out.seen (by rw [fbits_len]) (by rw [fbits_len]; omega) ?_)
              intro w6 hO6 hg6
              have efb := fbits_push (n := nn) (fnd T') (q := (P : Int)) (t ++ [(k : Int)]) (by omega) (by omega)
              rw [Int.toNat_natCast] at efb
              rw [efb] at hO6
              have hsz5 : B ≤ (wr.drewN nq).heap.size := by have h := HI5.out.bel.size; have h2 := HBB.out; omega
              have HO6 := Lib.hid hO6
              have HR6 := Lib.hid (Row.keep HI5.out.row HI5.out.seen (by decide) hg6)
              have HB56 := Lib.hid (Row.grown HI5.out.seen hg6 hsz5)
              have hsz6 := HB56.out.size
              have hg1 : (P : Int) < 256 := by omega
              have HK : Hid (RdG (w6.alloc (.cells #[.int .i64 (P : Int), .int .i64 (i : Int), .int .u8 (k : Int)] 61)) 3 (some ⟨w6.heap.size, 0, none⟩) 1 [.int .i64 (P : Int), .int .i64 (i : Int), .int .u8 (k : Int)]) := Lib.hid (RdG.lits w6 3 61 1 [.int .i64 (P : Int), .int .i64 (i : Int), .int .u8 (k : Int)] rfl)
              clear efb hO6 hg6 hseen
              go_wp2_with (at_builtin; refine app_row (.tmp 96) (.tmp 102) ES rfl rfl B _ q _ rfl (World.ownsRow.alloc HR6.out _) _ 1 _ _ rfl HK.out (by simp [Value.oneCell']) (by omega) (by decide) (by simp; omega) ?_; intro a7 c7 w7 hr7 hg7)
              obtain ⟨g7, rfl, _⟩ := Row.addr hr7 (by omega)
              have eF : fnd (T' ++ [((P : Int), (i : Int), (k : Int), t ++ [(k : Int)])]) = fnd T' ++ [((P : Int), t ++ [(k : Int)])] := by simp [fnd]
              refine ⟨⟨k + 1, g7, q + 1, c7, T' ++ [((P : Int), (i : Int), (k : Int), t ++ [(k : Int)])], by omega, by go_num, rfl, by omega, ?_, ?_, ⟨?_, ?_, ?_, ?_, ?_, ?_, ?_⟩⟩, ?_⟩
              · rw [List.getElem?_append_left (by rw [← HI.out.ql]; omega)]; exact HGET.out
              · rw [HEX.out, HHH.out, eF]; rfl
              · rw [List.length_append, ← HI.out.ql]; rfl
              · rw [cells3_append]; exact hr7
              · rw [eF]
                exact Row.keep (World.ownsRow.alloc HO6.out _) (World.ownsRow.alloc HR6.out _) (by decide) hg7
              · have h8 := Row.grown (World.ownsRow.alloc HR6.out (.cells #[.int .i64 (P : Int), .int .i64 (i : Int), .int .u8 (k : Int)] 61)) hg7 (by simp; omega)
                exact (HI5.out.bel.trans HB56.out).trans ((Below.alloc (Below.refl _ w6) (by omega) _).trans h8)
              · rw [eF]; exact HI.out.good.push (by omega) (by omega) HHH.out
              · exact Wf3.push HI.out.wf HGET.out (P : Int) (k : Int) (by omega)
              · intro x hx
                rw [List.length_append, ← HI.out.ql]
                rcases List.mem_append.1 hx with hx | hx
                · have := HI.out.tl x hx; rw [← HI.out.ql] at this; simp; omega
                · rw [List.mem_singleton] at hx
                  have := HI.out.tl _ (List.mem_of_getElem? HGET.out)
                  rw [← HI.out.ql] at this
                  subst hx; simp at this ⊢; omega
              · simp [intOf]; omega
          · have hk3 : k = 256 := by omega
            have HK3 := Lib.hid hk3
            clear hget hinv hfnd
            subst hk3
            have hk4 : ¬ ((256 : Int) < (nc : Int)) := by omega
            go_wp2
            go_roundw
            case rel =>
              refine ⟨i + 1, g, q, c, T', by go_num, rfl, hiq, HI.out, ?_⟩
              rw [HF.out]
              simpa using HSH2.out
            case measure => simp [intOf]; omega
    · have hiq : i = q := by omega
      have HE : Hid (shortest (S : Int) cls next acc = none) := Lib.hid (by
        rw [HSH.out, show nn + 1 - i = (nn - i) + 1 by omega, bfs, List.getElem?_eq_none (by rw [hiq, HI.out.ql]; simp [fnd])])
      have HBl := Lib.hid HI.out.bel
      go_wp2
      go_ret3
      refine ⟨HB.out.trans ((HBl.out.mono (by rw [HBB.out]; exact HB.out.size))), ?_⟩
      rw [HE.out]
      rfl

end Go.Proofs.Ytajajkganamfiaa
