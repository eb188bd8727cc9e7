/-
  evergreenref29.Shortest on a valid machine: the walk.
-/
import Derived.Test.YtajajkganamfiaaMRefShort
import Derived.Deep.RegionHeld3
namespace Go.Proofs.Ytajajkganamfiaa
open Go.RowKit

set_option maxRecDepth 100000 in
set_option maxHeartbeats 4000000 in
theorem refShort_any (s : Int) (ac : Option Addr) (nc cc : Nat) (an : Option Addr) (nn cn : Nat) (aa : Option Addr) (na ca : Nat) (cls : List Int) (next : List (List Int)) (acc : List Bool) (w : World)
    (hm : RdM w ac nc an nn aa na cls next acc) (hv : Valid s cls next acc) :
    Calls Try.prog 11 #[.agg #[.int .i64 s, .slice ac nc cc, .slice an nn cn, .slice aa na ca]] w (ShortPost (shortest s cls next acc) w) := by
  obtain ⟨S, rfl⟩ := Int.eq_ofNat_of_zero_le hv.s0
  obtain ⟨w1, hw1⟩ : ∃ w1, w1 = w.alloc (.cells #[.int .i64 S, .slice ac nc cc, .slice an nn cn, .slice aa na ca] 26) := ⟨_, rfl⟩
  have HB := Lib.hid (show Below w.heap.size w w1 by rw [hw1]; exact below_alloc _ _)
  have HM := Lib.hid (hm.below HB.out)
  have HV := Lib.hid hv
  have HX0 : Hid (w1.cell? ⟨w.heap.size, 0, none⟩ = some (.int .i64 S)) := Lib.hid (by rw [hw1]; simp)
  have HX1 : Hid (w1.cell? ⟨w.heap.size, 1, none⟩ = some (.slice ac nc cc)) := Lib.hid (by rw [hw1]; simp)
  have HX2 : Hid (w1.cell? ⟨w.heap.size, 2, none⟩ = some (.slice an nn cn)) := Lib.hid (by rw [hw1]; simp)
  have HX3 : Hid (w1.cell? ⟨w.heap.size, 3, none⟩ = some (.slice aa na ca)) := Lib.hid (by rw [hw1]; simp)
  have HW1 := Lib.hid hw1
  have HLn := Lib.hid hm.n.len
  have HLa := Lib.hid hm.a.len
  have hnn : nn ≤ 256 := by rw [← HLn.out]; exact hv.n1
  have hSn : S < nn := by have h := hv.s1; rw [HLn.out] at h; omega
  have hna : na ≤ nn ∧ nn ≤ na := by have h := hv.accL; rw [HLn.out, HLa.out] at h; omega
  obtain ⟨B, hB⟩ : ∃ B, B = w1.heap.size := ⟨_, rfl⟩
  have HBB := Lib.hid hB
  clear hm hv hw1 hB
  go_enter Try.func11, Try.ntmps11
  go_wp2_with (at_make; rw [← HW1.out]; refine make_row ET rfl _ _ rfl B _ _ _ _ nn rfl rfl rfl rfl (by omega) (by omega) (by rw [HBB.out]; exact Nat.le_refl _) ?_)
  intro w2 hT hg2
  have HB2 := Lib.hid (grown_below' hg2 (base := w1.heap.size) (Nat.le_refl _))
  have HT2 := Lib.hid hT
  have hx2 := below_cell HB2.out HX2.out
  have hsz2 := HB2.out.size
  clear hT hg2
  obtain ⟨gT, hgT⟩ : ∃ gT, gT = w1.heap.size := ⟨_, rfl⟩
  rw [← hgT] at HT2 ⊢
  have HgT := Lib.hid hgT
  clear hgT
  go_wp2_with (at_make; refine make_row EB rfl _ _ rfl B _ _ _ _ nn rfl rfl rfl rfl (by omega) (by omega) (by rw [HBB.out]; exact hsz2) ?_)
  intro w3 hS hg3
  have HB3 := Lib.hid (grown_below' hg3 (base := w2.heap.size) (Nat.le_refl _))
  have HS3 := Lib.hid hS
  have HT3 := Lib.hid (Row.below HT2.out HB3.out)
  clear hS hg3 hx2
  obtain ⟨gS, hgS⟩ : ∃ gS, gS = w2.heap.size := ⟨_, rfl⟩
  rw [← hgS] at HS3 ⊢
  have HgS := Lib.hid hgS
  clear hgS
  have HBw3 := Lib.hid (bthen HB2.out HB3.out)
  have hx0 := below_cell HBw3.out HX0.out
  have HO3 : Hid (OwnB w3 B (.slice (some ⟨gS, 0, none⟩) nn nn) (List.replicate nn false)) := Lib.hid (by
    have h := HS3.out
    rw [toList_madeCells_one, ← List.map_replicate] at h
    unfold OwnB; rw [List.length_replicate]; exact h)
  have hsz3 := HBw3.out.size
  go_wp2_with (refine store_bool rfl _ _ rfl gS S rfl true rfl (by kernel_rfl) B nn nn _ HO3.out (by simp) (by simp; omega) ?_)
  intro w4 hO4 hg4
  have efb := fbits_start (n := nn) (s := (S : Int)) (by omega) (by omega)
  rw [Int.toNat_natCast] at efb
  rw [efb] at hO4
  clear efb
  have HB4 := Lib.hid (Row.grown HO3.out hg4 (by rw [HBB.out]; exact hsz3))
  have HT4 := Lib.hid (Row.keep HT3.out HO3.out (by decide) hg4)
  have HO4 := Lib.hid hO4
  clear hO4 hg4 hx0
  have HBw4 : Hid (Below B w1 w4) := Lib.hid (by rw [HBB.out] at *; exact HBw3.out.trans HB4.out)
  have hx0 := below_cell (by rw [← HBB.out]; exact HBw4.out) HX0.out
  go_wp2
  clear hx0
  have hsz4 : B ≤ w4.heap.size := by have := HBw4.out.size; rw [HBB.out]; exact this
  go_loopw [6, 7] (fun rv iv wr => ∃ (i g q c : Nat) (xs : List Value) (R : Fnd), iv = .int .i64 i ∧ rv = .slice (some ⟨g, 0, none⟩) q c ∧ i ≤ q ∧ RefInv B nn w1 wr gT gS g q c xs R ∧ shortest (S : Int) cls next acc = bfs cls next acc (nn + 1 - i) i R) (fun _ iv _ => nn + 1 - (intOf iv).toNat)
  case atStart =>
    refine ⟨0, w4.heap.size, 1, 1, List.replicate nn (.slice none 0 0), [((S : Int), [])], rfl, rfl, by omega, ⟨rfl, ?_, ?_, ?_, ?_, ?_, good_start (by omega) (by omega), by simp⟩, ?_⟩
    · exact Own.lits w4 .i64 _ [(S : Int)] _ hsz4 (by simp)
    · exact World.ownsRow.alloc HO4.out _
    · have h := HT4.out
      rw [toList_madeCells_one] at h
      exact World.ownsRow.alloc h _
    · intro x hx
      rw [List.mem_singleton] at hx
      subst hx
      exact ⟨none, 0, 0, by simp [hSn], rfl, Own.nil _ _ _ _, by simp⟩
    · exact HBw4.out.alloc hsz4 _
    · unfold shortest; rw [HLn.out]; rfl
  case round =>
    obtain ⟨i, g, q, c, xs, R, rfl, rfl, hi, hinv, hsh⟩ := hrel
    have HI := Lib.hid hinv
    have HSH := Lib.hid hsh
    have hqn : q ≤ nn := by rw [hinv.ql]; exact hinv.good.len
    clear hinv hsh HO3 HS3 HT3 HT2 HO4 HT4 HB4 HB3 HB2 HBw3 HBw4
    by_cases hlt : i < q
    · obtain ⟨⟨q0, t⟩, hRi⟩ : ∃ x, R[i]? = some x := ⟨_, List.getElem?_eq_getElem (show i < R.length by rw [← HI.out.ql]; exact hlt)⟩
      have hq0 := HI.out.good.bd _ (List.mem_of_getElem? hRi)
      obtain ⟨Q, rfl⟩ := Int.eq_ofNat_of_zero_le hq0.1
      have hQ : Q < nn := by have := hq0.2; simp only at this; omega
      have HBl : Hid (Below w1.heap.size w1 wr) := Lib.hid (by rw [← HBB.out]; exact HI.out.bel)
      have hx0 := below_cell HBl.out HX0.out
      have hx1 := below_cell HBl.out HX1.out
      have hx2 := below_cell HBl.out HX2.out
      have hx3 := below_cell HBl.out HX3.out
      have hrow := HI.out.row.cellAt (i := i) (x := (Q : Int)) (by rw [List.length_map]; exact HI.out.ql) (by rw [List.getElem?_map, hRi]; rfl)
      have hQa : Q < na := by omega
      obtain ⟨ba, oa, rfl, hacc⟩ := (HM.out.a.below HBl.out).cell Q hQa
      obtain ⟨xa, xn, xc, hxs, hxn, hxo, hxw⟩ := HI.out.txts _ (List.mem_of_getElem? hRi)
      rw [Int.toNat_natCast] at hxs
      have htx : wr.cell? ⟨gT, Q, none⟩ = some (.slice xa xn xc) := by
        rw [World.ownsRow.cellAt HI.out.txt Q (by omega)]; exact hxs
      have HXO := Lib.hid hxo
      have HXN := Lib.hid hxn
      have HXW := Lib.hid hxw
      have HXS := Lib.hid hxs
      have HRI := Lib.hid hRi
      have HSH2 : Hid (shortest (S : Int) cls next acc = if acc.getD Q false then some t else bfs cls next acc (nn + 1 - (i + 1)) (i + 1) (expTo cls next Q t R 256)) := Lib.hid (by
        rw [HSH.out, show nn + 1 - i = (nn + 1 - (i + 1)) + 1 by omega, bfs, hRi]; rfl)
      have hin : (i : Int) < (q : Int) := by omega
      have hQn : (Q : Int) < (na : Int) := by omega
      have hQnn : (Q : Int) < (nn : Int) := by omega
      clear hRi hxo hxn hxw hxs hq0 HSH
      generalize acc.getD Q false = z at *
      cases z with
      | true =>
        go_wp2
        go_quiet (fail)
        go_wp2
        go_ret2
        refine ⟨HB.out.trans (((bdrewN HBl.out _).mono HB.out.size)), ?_⟩
        rw [show shortest (S : Int) cls next acc = some t by simpa using HSH2.out]
        refine ⟨xa, xc, ret_eq ?_, ?_⟩
        · rw [← HXN.out]; rfl
        · rw [← HXN.out]
          have hr := HXO.out.rd HXW.out
          exact hr.below (bdrewN (Below.refl _ _) _)
      | false =>
        go_wp2
        go_quiet (fail)
        go_wp2
        obtain ⟨wo, hwo⟩ : ∃ wo : World, wo = wr.drewN nq := ⟨_, rfl⟩
        rw [← hwo]
        have HD := Lib.hid (show Below wr.heap.size wr wo by rw [hwo]; exact bdrewN (Below.refl _ _) _)
        have HI2 : Hid (RefInv B nn w1 wo gT gS g q c xs R) := Lib.hid ⟨HI.out.ql, HI.out.row.below HD.out, Row.below HI.out.seen HD.out, Row.below HI.out.txt HD.out, HI.out.txts.below HD.out, HI.out.bel.trans (HD.out.mono (by rw [HBB.out]; exact HBl.out.size)), HI.out.good, HI.out.tl⟩
        have HRB : Hid (expTo cls next (Q : Int) t R 0 = R) := Lib.hid rfl
        clear hwo hx0 hx1 hx2 hx3 hrow hacc htx
        go_loopw [6, 8] (fun rv bv wr => ∃ (k g q c : Nat) (xs : List Value), k ≤ 256 ∧ bv = .int .i64 k ∧ rv = .slice (some ⟨g, 0, none⟩) q c ∧ i + 1 ≤ q ∧ (expTo cls next (Q : Int) t R k)[i]? = some ((Q : Int), t) ∧ RefInv B nn w1 wr gT gS g q c xs (expTo cls next (Q : Int) t R k)) (fun _ bv _ => 256 - (intOf bv).toNat)
        case atStart => exact ⟨0, g, q, c, xs, by omega, rfl, rfl, by omega, HRI.out, HI2.out⟩
        case round =>
          clear HRB HI2 HD HI hqn hin hi
          obtain ⟨k, g, q, c, xs, hk, rfl, rfl, hiq, hget, hinv⟩ := hrel
          have HI := Lib.hid hinv
          have HGET := Lib.hid hget
          have hqn : q ≤ nn := by rw [hinv.ql]; exact hinv.good.len
          have hin : (i : Int) < (q : Int) := by omega
          by_cases hk2 : k < 256
          · have hbl : Below w1.heap.size w1 wr := by rw [← HBB.out]; exact hinv.bel
            have HBl := Lib.hid hbl
            have hx0 := below_cell hbl HX0.out
            have hx1 := below_cell hbl HX1.out
            have hx2 := below_cell hbl HX2.out
            have hx3 := below_cell hbl HX3.out
            have hrow := hinv.row.cellAt (i := i) (x := (Q : Int)) (by rw [List.length_map]; exact hinv.ql) (by rw [List.getElem?_map, hget]; rfl)
            have hk3 : (k : Int) < 256 := by omega
            have HC := Lib.hid (fun w2 (hb2 : Below w1.heap.size w1 w2) => refGo_any (S : Int) ac nc cc an nn cn (some ⟨ba, oa, none⟩) na ca cls next acc w2 (HM.out.below hb2) HV.out (Q : Int) k (by omega) (by rw [HLn.out]; omega) hk2)
            obtain ⟨_, _, hg0, hg1⟩ := mgo_bd HV.out (q := (Q : Int)) (b := k) (by omega) (by rw [HLn.out]; omega) hk2
            obtain ⟨P, hP⟩ := Int.eq_ofNat_of_zero_le hg0
            rw [hP] at hg1 HC
            have hPn : (P : Int) < (nn : Int) := by rw [HLn.out] at hg1; exact hg1
            have HEX : Hid (expTo cls next (Q : Int) t R (k + 1) = if has (expTo cls next (Q : Int) t R k) (P : Int) then expTo cls next (Q : Int) t R k else expTo cls next (Q : Int) t R k ++ [((P : Int), t ++ [(k : Int)])]) := Lib.hid (by rw [expTo_succ, sstep, hP])
            have HKP : Hid ((expTo cls next (Q : Int) t R (k + 1))[i]? = some ((Q : Int), t)) := Lib.hid (by rw [expTo_succ]; exact sstep_keep hget)
            clear hg0 hg1 hP hget hinv hbl
            generalize expTo cls next (Q : Int) t R k = R' at *
            have hwk : IntKind.u8.wrap (k : Int) = k := by rw [IntKind.wrap_u8]; omega
            go_wp2
            go_region_held3 (fun w' => w'.cell? ⟨g, i, none⟩ = some (.int .i64 Q) ∧ w'.cell? ⟨w.heap.size, 0, none⟩ = some (.int .i64 S) ∧ w'.cell? ⟨w.heap.size, 1, none⟩ = some (.slice ac nc cc) ∧ w'.cell? ⟨w.heap.size, 2, none⟩ = some (.slice an nn cn) ∧ w'.cell? ⟨w.heap.size, 3, none⟩ = some (.slice (some ⟨ba, oa, none⟩) na ca)) (go_keep) (first
              | (go_at_call 31; refine (HC.out _ HBl.out.drew).mono ?_; rintro e w5 ⟨rfl, hb5⟩; have y1 := below_cell (W := wr.drew) hb5 hrow; have y2 := below_cell (W := wr.drew) hb5 hx0; have y3 := below_cell (W := wr.drew) hb5 hx1; have y4 := below_cell (W := wr.drew) hb5 hx2; have y5 := below_cell (W := wr.drew) hb5 hx3; have hb5 := Lib.hid hb5))
            clear hx0 hx1 hx2 hx3 y1 y2 y3 y4 y5 hrow hwk
            have HD5 : Hid (Below wr.heap.size wr w5) := Lib.hid ((Below.drew (Below.refl _ _)).trans hb5.out)
            have HI5 : Hid (RefInv B nn w1 w5 gT gS g q c xs R') := Lib.hid ⟨HI.out.ql, HI.out.row.below HD5.out, Row.below HI.out.seen HD5.out, Row.below HI.out.txt HD5.out, HI.out.txts.below HD5.out, HI.out.bel.trans (HD5.out.mono (by rw [HBB.out]; exact HBl.out.size)), HI.out.good, HI.out.tl⟩
            have hseen := HI5.out.seen.cell (by rw [fbits_len]) (fbits_get R' (i := P) (by omega))
            cases hh : has R' (P : Int) with
            | true =>
              rw [hh] at hseen
              have HHH := Lib.hid hh
              clear hh
              go_wp2
              go_roundw
              case rel =>
                have e : expTo cls next (Q : Int) t R (k + 1) = R' := by rw [HEX.out, if_pos HHH.out]
                exact ⟨k + 1, g, q, c, xs, by omega, by go_num, rfl, hiq, HKP.out, by rw [e]; exact HI5.out⟩
              case measure => simp [intOf]; omega
            | false =>
              rw [hh] at hseen
              have HHH := Lib.hid hh
              clear hh
              go_wp2_with (refine store_bool rfl _ _ rfl gS P rfl true rfl (by kernel_rfl) B nn nn _ HI5.out.seen (by rw [fbits_len]) (by rw [fbits_len]; omega) ?_)
              intro w6 hO6 hg6
              have efb := fbits_push (n := nn) R' (q := (P : Int)) (t ++ [(k : Int)]) (by omega) (by omega)
              rw [Int.toNat_natCast] at efb
              rw [efb] at hO6
              have hsz5 : B ≤ w5.heap.size := by have h := HI5.out.bel.size; have h2 := HBB.out; omega
              have HO6 := Lib.hid hO6
              have HR6 : Hid (Own w6 B 3 .i64 (.slice (some ⟨g, 0, none⟩) q c) (R'.map (·.1))) := Lib.hid (Row.keep HI5.out.row HI5.out.seen (by decide) hg6)
              have HT6 := Lib.hid (Row.keep HI5.out.txt HI5.out.seen (by decide) hg6)
              have HX6 := Lib.hid (HI5.out.txts.keep HI5.out.seen (by decide) hg6)
              have HB56 := Lib.hid (Row.grown HI5.out.seen hg6 hsz5)
              have hsz6 := HB56.out.size
              clear efb hO6 hg6 hseen
              obtain ⟨xa', xn', xc', hxs, hxn, hxo, hxw⟩ := HX6.out _ (List.mem_of_getElem? HGET.out)
              rw [Int.toNat_natCast] at hxs
              have htl := HI5.out.tl _ (List.mem_of_getElem? HGET.out)
              rw [← HI5.out.ql] at htl
              have htl2 : t.length < q := htl
              have hA1 := below_cell (below_alloc w6 (.cells #[] 5)) (HR6.out.cellAt (i := i) (x := (Q : Int)) (by rw [List.length_map]; exact HI5.out.ql) (by rw [List.getElem?_map, HGET.out]; rfl))
              have hA2 := below_cell (below_alloc w6 (.cells #[] 5)) (show w6.cell? ⟨gT, Q, none⟩ = some (.slice xa' xn' xc') by
                rw [World.ownsRow.cellAt HT6.out Q (by omega)]; exact hxs)
              have HXR := Lib.hid ((hxo.rd hxw).below (below_alloc w6 (.cells #[] 5)))
              have HXN2 := Lib.hid hxn
              have HXW2 := Lib.hid hxw
              clear hxs hxn hxo hxw htl
              have tokA : True := trivial
              go_wp2_with (first
                | (at_builtin; clear tokA; refine app_rd (.tmp 68) (.tmp 75) E8 rfl rfl w6.heap.size _ [] rfl (Own.lits w6 .u8 _ [] _ (Nat.le_refl _) (by simp)) _ _ _ t rfl HXR.out (by simp; omega) (by omega) (by simp) ?_; intro a7 c7 w7 ho7 hg7; have HB7 := Lib.hid ((Below.alloc (Below.refl w6.heap.size w6) (Nat.le_refl _) _).trans (grown_below (Own.lits w6 .u8 5 [] w6.heap.size (Nat.le_refl _) (by simp)) hg7 (by simp))); have HO7 := Lib.hid ho7; have hsz7 := HB7.out.size; clear ho7 hg7 hA1 hA2; have HK8 := Lib.hid (Rd.one w7 .u8 5 (k : Int) (WalkArith.wf_u8 (by omega))))
                | (at_builtin; refine app_rd (.tmp 76) (.tmp 79) E8 rfl rfl w6.heap.size _ _ rfl (HO7.out.alloc _) _ _ _ _ rfl HK8.out (by simp; omega) (by omega) (by simp; omega) ?_; intro a8 c8 w8 ho8 hg8; have HB8 := Lib.hid (HB7.out.trans ((Below.alloc (Below.refl _ w7) hsz7 _).trans (grown_below (HO7.out.alloc _) hg8 (by simp; omega)))); have HO8 := Lib.hid ho8; have hsz8 := HB8.out.size; clear ho8 hg8)
                | (refine store_row rfl 28 (.tmp 81) (.tmp 80) rfl gT P rfl (.slice a8 (t.length + 1) c8) rfl [.slice a8 (t.length + 1) c8] rfl (by kernel_rfl) (by simp [Value.oneCell']) B _ 1 nn nn _ (Row.below HT6.out HB8.out) (by simp [(Row.below HT6.out HB8.out).1]; omega) ?_; intro w9 hT9 hg9; have HR9 : Hid (Own w9 B 3 .i64 (.slice (some ⟨g, 0, none⟩) q c) (R'.map (·.1))) := Lib.hid (Row.keep (HR6.out.below HB8.out) (Row.below HT6.out HB8.out) (by decide) hg9); have HO9 : Hid (OwnB w9 B _ _) := Lib.hid (Row.keep (Row.below HO6.out HB8.out) (Row.below HT6.out HB8.out) (by decide) hg9); have HX9 := Lib.hid ((HX6.out.below HB8.out).keep (Row.below HT6.out HB8.out) (by decide) hg9); have HN9 : Hid (Own w9 w6.heap.size 5 .u8 (.slice a8 (t.length + 1) c8) (t ++ [(k : Int)])) := Lib.hid (Row.keep (by simpa [Own] using HO8.out) (Row.below HT6.out HB8.out) (by decide) hg9); have HB9 := Lib.hid (Row.grown (Row.below HT6.out HB8.out) hg9 (by omega)); have HT9 := Lib.hid hT9; have hsz9 := HB9.out.size; clear hT9 hg9; have HP9 := Lib.hid (Rd.one w9 .i64 3 (P : Int) (WalkArith.wf_i64 (by omega))))
                | (at_builtin; refine app_rd (.tmp 82) (.tmp 84) EI rfl rfl B _ _ rfl (HR9.out.alloc _) _ _ _ _ rfl HP9.out (by rw [List.length_map, ← HI5.out.ql]; simp; omega) (by omega) (by simp; omega) ?_; intro a10 c10 w10 ho10 hg10))
              have HE2 : Hid (expTo cls next (Q : Int) t R (k + 1) = R' ++ [((P : Int), t ++ [(k : Int)])]) := Lib.hid (by rw [HEX.out, HHH.out]; rfl)
              have hxl : xs.length = nn := by have := HT6.out.1; omega
              have HB10 := Lib.hid (grown_below (HR9.out.alloc _) hg10 (by simp; omega))
              have HX6' := Lib.hid (HX9.out.push HI5.out.good (p := (P : Int)) (t := t ++ [(k : Int)]) (a := a8) (n := t.length + 1) (c := c8) (by omega) HHH.out (by rw [Int.toNat_natCast]; omega) (by simp) (HN9.out.mono (by omega)) (fun y hy => by
                rcases List.mem_append.1 hy with hy | hy
                · exact HXW2.out y hy
                · rw [List.mem_singleton] at hy; subst hy; exact WalkArith.wf_u8 (by omega)))
              obtain ⟨g10, ha10, _⟩ := ho10.addr (by simp)
              subst ha10
              have HN10 : Hid (RefInv B nn w1 w10 gT gS g10 (q + 1) c10 (xs.set P (.slice a8 (t.length + 1) c8)) (R' ++ [((P : Int), t ++ [(k : Int)])])) := Lib.hid (by
                refine ⟨by rw [List.length_append, ← HI5.out.ql]; rfl, ?_, Row.keep (World.ownsRow.alloc HO9.out _) (HR9.out.alloc _) (by decide) hg10, ?_, ?_, ?_, HI5.out.good.push (by omega) (by omega) HHH.out, ?_⟩
                · have h := ho10
                  rw [show (R' ++ [((P : Int), t ++ [(k : Int)])]).map (·.1) = R'.map (·.1) ++ [(P : Int)] by simp]
                  rw [show (R'.map (·.1) ++ [(P : Int)]).length = q + 1 by rw [List.length_append, List.length_map, ← HI5.out.ql]; rfl] at h
                  exact h
                · have h := Row.keep (World.ownsRow.alloc HT9.out (.cells #[.int .i64 (P : Int)] 3)) (HR9.out.alloc _) (by decide) hg10
                  rw [List.length_singleton, set_cat (by omega)] at h
                  exact h
                · have h := (HX6'.out.below (below_alloc w9 (.cells #[.int .i64 (P : Int)] 3))).keep (HR9.out.alloc _) (by decide) hg10
                  rw [Int.toNat_natCast] at h
                  exact h
                · refine (HI5.out.bel.trans HB56.out).trans (((HB8.out.mono (by omega)).trans HB9.out).trans ((Below.alloc (Below.refl _ w9) (by omega) _).trans HB10.out))
                · intro x hx
                  rw [List.length_append, ← HI5.out.ql]
                  rcases List.mem_append.1 hx with hx | hx
                  · have := HI5.out.tl x hx; rw [← HI5.out.ql] at this; simp; omega
                  · rw [List.mem_singleton] at hx; subst hx; simp; omega)
              clear ho10 hg10
              go_roundw
              case rel =>
                refine ⟨k + 1, g10, q + 1, c10, xs.set P (.slice a8 (t.length + 1) c8), by omega, by go_num, by rw [← HI5.out.ql], by omega, HKP.out, ?_⟩
                rw [HE2.out]; exact HN10.out
              case measure => simp [intOf]; omega
          · have hk3 : k = 256 := by omega
            have HK3 := Lib.hid hk3
            clear hget hinv hk3
            go_wp2
            go_roundw
            case rel =>
              refine ⟨i + 1, g, q, c, xs, expTo cls next (Q : Int) t R k, by go_num, rfl, hiq, HI.out, ?_⟩
              have h := HSH2.out
              rw [HK3.out]
              simpa using h
            case measure => simp [intOf]; omega
    · have hiq : i = q := by omega
      have HE : Hid (shortest (S : Int) cls next acc = none) := Lib.hid (by
        rw [HSH.out, show nn + 1 - i = (nn - i) + 1 by omega, bfs, List.getElem?_eq_none (by rw [hiq, HI.out.ql]; omega)])
      have HBl := Lib.hid HI.out.bel
      go_wp2
      go_ret2
      refine ⟨HB.out.trans ((HBl.out.mono (by rw [HBB.out]; exact HB.out.size))), ?_⟩
      rw [HE.out]
      rfl

end Go.Proofs.Ytajajkganamfiaa
