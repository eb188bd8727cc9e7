/-
  evergreenref32.Of of few short patterns: the machine and the hits of the plain law.
-/
import Derived.Test.YtfhoaehoccfadaaLErr
import Derived.Test.YtfhoaehoccfadaaLRefP
import Derived.Test.YtfhoaehoccfadaaLMBase
import Derived.Deep.RegionWith
import Derived.Laws.BytesArg
namespace Go.Proofs.Ytfhoaehoccfadaa
open Go.RowKit Go.Maps
set_option linter.unusedVariables false
set_option linter.unusedSimpArgs false

/-- append of one new cell's block at a step of a region that draws -/
theorem RF.stepAppend {P : Program} {w : World} {ops : Array Oper} {o : Oper} {a : Act} {K : Act → World → Prop} {Q : Exit → Act → World → Prop} {G : Prop} {B N w1 l} (h : RF B N w1 l) {i e v xs} (hi : AtR l i e v xs) (n : Nat) (hn : n = xs.length) (hw : Below w1.heap.size w1 w) (s x : Operand) {t : TypeId} {z : Value} {bytes : Nat} (E : EltG P t e z 1 bytes)
    (hgd : o.guard = none) (ho : o.op = .call { callee := .builtin .append, args := #[s, x], argTypes := #[t, t] }) (hs : a.eval s = v) (ad : Option Addr) (m c : Nat) (news : List Value) (hx : a.eval x = .slice ad m c) (hr : RdG w 1 ad m news) (h1 : ∀ u ∈ news, u.oneCell' = true)
    (hlen : (n + m) * bytes ≤ 140737488355328) (hpos : 0 < bytes)
    (hK : ∀ a' c' w', RF B N w' (l.set i (some (e, .slice a' (n + m) c', xs ++ news))) → w.grownBy w' v.ownBlock → Below B w1 w' → Fr (fun b => ¬ N b) w1 w' → K (a.put o.dst (.slice a' (n + m) c')) w') : if Region.wanted o (yielded ops a.tmps) = true then Oper.wp P o a w K Q else G := by
  subst hn
  have hm : news.length = m := by have := hr.len; omega
  have h2 := h.below hw
  refine step_app_row_at s x E hgd ho B v xs.length xs hs (h2.own i _ _ _ hi) ad m c news hx hr h1 hlen hpos h2.bw ?_
  intro a' c' w' hr' hg hat
  refine hK a' c' w' ?_ hg ((hw.mono h.bw).trans (h2.grown hi hg)) ((Fr.of_below hw).trans (h2.frN hi hg))
  refine h2.turn hi (by rw [List.length_append, hm]; exact hr') hg ?_
  rcases hat with e | e
  · exact .inl e
  · exact .inr (.inl e)

theorem nums_at (s : ByteArray) {i : Nat} (hi : i < s.size) : (numsOf s).getD i 0 = ((s[i]'hi).toNat : Int) := by
  have hi2 : i < s.data.toList.length := hi
  unfold numsOf
  simp only [List.getD, List.getElem?_map, List.getElem?_eq_getElem hi2, Option.map_some, Option.getD_some]
  rfl

set_option maxRecDepth 100000 in
set_option maxHeartbeats 4000000 in
theorem refof_any (a : Option Addr) (n cp : Nat) (ss : List ByteArray) (W : World) (hr : RdS W a n ss) (hs : Small ss) :
    Calls Try.prog 17 #[.slice a n cp] W fun e w' => ∃ ac an cn aa ca ah ch, e = .returned (.tuple #[.agg #[.int .i64 0, .slice ac 256 256, .slice an (prefs (pats ss)).length cn, .slice aa (prefs (pats ss)).length ca], .slice ah (prefs (pats ss)).length ch]) ∧
      RdM w' ac 256 an (prefs (pats ss)).length aa (prefs (pats ss)).length (litC (pats ss)) (litN (pats ss)) (litA (pats ss)) ∧ Rd w' .i64 ah (prefs (pats ss)).length (litH (pats ss)) ∧ Below W.heap.size W w' := by
  have HR := Lib.hid hr
  have HS := Lib.hid hs
  have hmax := hr.max
  have HL := Lib.hid hr.len
  have HPL : Hid ((prefs (pats ss)).length ≤ 121) := Lib.hid (by rw [← trie_len]; exact hs.trie)
  obtain ⟨W1, hW1⟩ : ∃ W1, W1 = W.alloc (.cells #[.int .i64 0, .slice none 0 0, .slice none 0 0, .slice none 0 0] 28) := ⟨_, rfl⟩
  have HB1 := Lib.hid (show Below W.heap.size W W1 by rw [hW1]; exact below_alloc _ _)
  have HW1 := Lib.hid hW1
  have HX : Hid (QN (fun b => b = W.heap.size) W1 W.heap.size (.slice none 0 0) (.slice none 0 0) (.slice none 0 0)) := Lib.hid (by
    rw [hW1]; exact ⟨by simp, by simp, by simp, by simp, fun j => by simp, rfl⟩)
  have HPX := Lib.hid (prefixes_any a n cp ss W1 (hr.below HB1.out) hs)
  clear hr hs hW1
  go_enter Try.func17, Try.ntmps17
  go_wp2_with fail
  rw [← HW1.out]
  refine HPX.out.mono ?_
  rintro e w2 ⟨g, m, c, outs, rfl, hpf⟩
  have HPF := Lib.hid hpf
  have HM : Hid (m = (prefs (pats ss)).length) := Lib.hid (by rw [← hpf.len, ← hpf.words, List.length_map])
  clear hpf
  obtain ⟨N0, hN0⟩ : ∃ N0 : Nat → Prop, N0 = fun b => b = W.heap.size := ⟨_, rfl⟩
  have hws : W1.heap.size = W.heap.size + 1 := by rw [HW1.out]; simp
  have hbl2 : Below W.heap.size W1 w2 := HPF.out.bel.mono (by omega)
  have hrf : RF W.heap.size N0 w2 [some (9, .slice (some ⟨g, 0, none⟩) m c, outs.map Value.string)] := by
    have hrow := HPF.out.row
    have hlt := Row.block_lt hrow (g := g) rfl
    have hsz := HPF.out.bel.size
    refine RF.one (by rw [List.length_map, HPF.out.len]; exact Row.mono hrow (base' := W.heap.size) (by omega)) (fun g' hg => ?_) (fun b hb => ?_) (by omega)
    · cases hg; rw [hN0]; intro e; have : g = W.heap.size := e; omega
    · rw [hN0] at hb; have : b = W.heap.size := hb; omega
  have HRF := Lib.hid hrf
  have HX2 : Hid (QN N0 w2 W.heap.size (.slice none 0 0) (.slice none 0 0) (.slice none 0 0)) := Lib.hid (by rw [hN0]; exact HX.out.below HPF.out.bel)
  have HN0 := Lib.hid hN0
  have HWS := Lib.hid hws
  have HBL2 := Lib.hid hbl2
  clear hrf hN0 hws hbl2
  go_wp2_with (at_make; refine RF.make HRF.out EIG rfl rfl _ _ rfl _ _ _ _ 256 rfl rfl rfl rfl (by decide) (by decide) ?_; intro w3 hrf3 hb3 hsz3; have HR3 := Lib.hid hrf3; have HB3 := Lib.hid hb3; have HSZ3 := Lib.hid hsz3; clear hrf3 hb3 hsz3)
  obtain ⟨w4, hw4⟩ : ∃ w4, w4 = w3.alloc (.cells #[.int .i64 0, .slice (some ⟨w2.heap.size, 0, none⟩) 256 256, .slice none 0 0, .slice none 0 0] 28) := ⟨_, rfl⟩
  obtain ⟨w5, hw5⟩ : ∃ w5, w5 = w4.alloc (.cells #[.int .u8 0] 5) := ⟨_, rfl⟩
  obtain ⟨bq, hbq⟩ : ∃ bq, bq = w3.heap.size := ⟨_, rfl⟩
  obtain ⟨gc, hgc⟩ : ∃ gc, gc = w2.heap.size := ⟨_, rfl⟩
  obtain ⟨N, hN⟩ : ∃ N : Nat → Prop, N = fun b => N0 b ∨ b = bq := ⟨_, rfl⟩
  have hb4 : Below w3.heap.size w3 w4 := by rw [hw4]; exact below_alloc _ _
  have hb5 : Below w4.heap.size w4 w5 := by rw [hw5]; exact below_alloc _ _
  have hs3 := HSZ3.out
  have hs4 : w4.heap.size = w3.heap.size + 1 := by rw [hw4]; simp
  have hbl5 : Below W.heap.size W1 w5 := by
    have h1 := HBL2.out.size
    have h2 := HWS.out
    have h3 := HB3.out.mono (B' := W.heap.size) (by omega)
    exact ((HBL2.out.trans h3).trans (hb4.mono (by omega))).trans (hb5.mono (by omega))
  have hq4 : QN N w4 bq (.slice (some ⟨gc, 0, none⟩) 256 256) (.slice none 0 0) (.slice none 0 0) := by
    rw [hw4, hbq, hgc]
    exact ⟨by simp, by simp, by simp, by simp, fun j => by simp, by rw [hN]; exact .inr hbq.symm⟩
  have hx4 : QN N w4 W.heap.size (.slice none 0 0) (.slice none 0 0) (.slice none 0 0) := by
    have h := (HX2.out.below HB3.out).below hb4
    rw [hN]
    exact ⟨h.q0, h.q1, h.q2, h.q3, h.fz, .inl h.nq⟩
  obtain ⟨D, hD⟩ : ∃ D : Option Rw, D = some (3, .slice none 0 0, []) := ⟨_, rfl⟩
  obtain ⟨gl, hgl⟩ : ∃ gl, gl = w3.heap.size + 1 := ⟨_, rfl⟩
  have hrf5 : RF W.heap.size N w5 [some (9, .slice (some ⟨g, 0, none⟩) m c, outs.map Value.string), some (3, .slice (some ⟨gc, 0, none⟩) 256 256, vi (clsPad (usedB (pats ss)) 0)), some (5, .slice (some ⟨gl, 0, none⟩) 1 1, vu (0 :: letsTo (usedB (pats ss)) 0)), some (24, .slice none 0 0, []), some (4, .slice none 0 0, []), some (3, .slice none 0 0, []), D, D] := by
    have h4 := HR3.out.addN (.cells #[.int .i64 0, .slice (some ⟨w2.heap.size, 0, none⟩) 256 256, .slice none 0 0, .slice none 0 0] 28)
    rw [← hw4, ← hbq] at h4
    have h5 := h4.new (w' := w5) (e := 5) (v := .slice (some ⟨w4.heap.size, 0, none⟩) 1 1) (xs := [.int .u8 0]) (by rw [hw5]; exact World.ownsRow_lit w4 _ 1 h4.bw (by decide) rfl) hb5 (.inl rfl)
    have h := ((((h5.new (e := 24) (v := .slice none 0 0) (xs := []) (World.ownsRow_nil _ _ _ _) (Below.refl _ _) (.inr rfl)).new (e := 4) (v := .slice none 0 0) (xs := []) (World.ownsRow_nil _ _ _ _) (Below.refl _ _) (.inr rfl)).new (e := 3) (v := .slice none 0 0) (xs := []) (World.ownsRow_nil _ _ _ _) (Below.refl _ _) (.inr rfl)).new (e := 3) (v := .slice none 0 0) (xs := []) (World.ownsRow_nil _ _ _ _) (Below.refl _ _) (.inr rfl)).new (e := 3) (v := .slice none 0 0) (xs := []) (World.ownsRow_nil _ _ _ _) (Below.refl _ _) (.inr rfl)
    rw [hN, hD, hgl, ← hs4, hgc]
    simp only [List.append_assoc, List.cons_append, List.nil_append] at h
    rw [clsPad_zero, show vi (List.replicate 256 0) = List.replicate 256 (.int .i64 0) from List.map_replicate]
    exact h
  have HR5 := Lib.hid hrf5
  have HQ5 := Lib.hid (hq4.below hb5)
  have HX5 := Lib.hid (hx4.below hb5)
  have HBL5 := Lib.hid hbl5
  have HNE : Hid (W.heap.size ≠ bq ∧ W.heap.size ≤ bq) := Lib.hid (by
    have h1 := HBL2.out.size
    have h2 := HWS.out
    have h3 := HSZ3.out
    rw [hbq]; omega)
  have HDD := Lib.hid hD
  have HN := Lib.hid hN
  rw [← hw4, ← hgl, ← hw5, ← hbq]
  clear hw4 hw5 hb4 hb5 hs3 hs4 hbl5 hq4 hx4 hrf5 hD hN HR3 HB3 HSZ3 HX2 HRF HX HPX hbq hgc hgl
  go_loopg [6, 7] 256 (fun gg lv iv wr => ∃ (k : Nat) (la : Option Addr) (ln lc : Nat), k ≤ 256 ∧ gg = 256 - k ∧ iv = .int .i64 k ∧ lv = .slice la ln lc ∧ RF W.heap.size N wr [some (9, .slice (some ⟨g, 0, none⟩) m c, outs.map Value.string), some (3, .slice (some ⟨gc, 0, none⟩) 256 256, vi (clsPad (usedB (pats ss)) k)), some (5, .slice la ln lc, vu (0 :: letsTo (usedB (pats ss)) k)), some (24, .slice none 0 0, []), some (4, .slice none 0 0, []), some (3, .slice none 0 0, []), D, D] ∧ QN N wr bq (.slice (some ⟨gc, 0, none⟩) 256 256) (.slice none 0 0) (.slice none 0 0) ∧ QN N wr W.heap.size (.slice none 0 0) (.slice none 0 0) (.slice none 0 0) ∧ Below W.heap.size W1 wr)
  case atStart =>
    exact ⟨0, some ⟨gl, 0, none⟩, 1, 1, by omega, rfl, rfl, rfl, HR5.out, HQ5.out, HX5.out, HBL5.out⟩
  case round =>
    clear HR5 HQ5 HX5 HBL5
    obtain ⟨k, la, ln, lc, hk, rfl, rfl, rfl, hrf, hqn, hx, hbl⟩ := hrel
    have HRG := Lib.hid hrf
    have HQ := Lib.hid hqn
    have HZ := Lib.hid hx
    have HBL := Lib.hid hbl
    have HRD := Lib.hid (HR.out.below (HB1.out.trans hbl))
    clear hrf hqn hx hbl
    by_cases hlt : k < 256
    · have hkz : (k : Int) < 256 := by omega
      go_wp2
      go_loopg [8, 9] n (fun gg uv iv w2 => ∃ i : Nat, i ≤ n ∧ gg = n - i ∧ iv = .int .i64 i ∧ uv = .bool (usedB ((pats ss).take i) k) ∧ wr = w2)
      case atStart => exact ⟨0, by omega, rfl, rfl, rfl, rfl⟩
      case round =>
        obtain ⟨i, hi, rfl, rfl, rfl, hw⟩ := hrel
        subst hw
        by_cases hin : i < n
        · obtain ⟨b, off, rfl, hc⟩ := HRD.out.cell i hin
          obtain ⟨s, hs⟩ : ∃ s, s = ss.getD i ByteArray.empty := ⟨_, rfl⟩
          have hsz : s.size ≤ 120 := by rw [hs]; exact HS.out.len i
          have HPI : Hid ((pats ss).getD i [] = numsOf s) := Lib.hid (by rw [pats_getD, hs])
          have HIP : Hid (i < (pats ss).length) := Lib.hid (by rw [pats_len, HL.out]; exact hin)
          have hiz : (i : Int) < (n : Int) := by omega
          rw [← hs] at hc
          clear hs
          go_wp2
          go_loopg [8, 10] s.size (fun gg uv jv w2 => ∃ j : Nat, j ≤ s.size ∧ gg = s.size - j ∧ jv = .int .i64 j ∧ uv = .bool (seen (pats ss) k i (numsOf s) j) ∧ wr = w2)
          case atStart => exact ⟨0, by omega, rfl, rfl, by rw [seen_zero], rfl⟩
          case round =>
            obtain ⟨j, hj, rfl, rfl, rfl, hw⟩ := hrel
            subst hw
            by_cases hjs : j < s.size
            · have hjz : (j : Int) < (s.size : Int) := by omega
              obtain ⟨x, hx⟩ : ∃ x : Nat, x = (s[j]'hjs).toNat := ⟨_, rfl⟩
              have hx256 : x < 256 := by rw [hx]; exact UInt8.toNat_lt _
              have hidx : ∀ w, (Instr.index 9 (.string s) (.int .i64 (j : Int))).run Try.prog w = .ok (.int .u8 (x : Int)) w := by
                intro w
                have h0 : (0 : Int) ≤ (j : Int) := by omega
                unfold Instr.index
                simp [asIntOf, run_underlying Try.underlying9, Result.andThen, hx, hjs]
              have hnk : (numsOf s).getD j 0 = (x : Int) := by rw [nums_at s hjs, hx]
              have HSU : Hid (seen (pats ss) k i (numsOf s) (j + 1) = (seen (pats ss) k i (numsOf s) j || decide ((x : Int) = (k : Int)))) := Lib.hid (by rw [seen_succ _ _ _ _ (by rw [numsOf_len]; exact hjs), hnk])
              have hwx : IntKind.i64.wrap (x : Int) = (x : Int) := IntWalk.i64_in _ (by omega)
              clear hx hnk
              obtain ⟨z, hz⟩ : ∃ z, z = seen (pats ss) k i (numsOf s) j := ⟨_, rfl⟩
              rw [← hz] at HSU ⊢
              clear hz
              cases z with
              | true =>
                go_wp2
                go_roundg (s.size - (j + 1))
                case measure => omega
                case rel => exact ⟨j + 1, by omega, rfl, by go_num, by rw [HSU.out]; rfl, rfl⟩
              | false =>
                go_wp2
                go_roundg (s.size - (j + 1))
                case measure => omega
                case rel => exact ⟨j + 1, by omega, rfl, by go_num, by rw [HSU.out]; first | rfl | simp, rfl⟩
            · have hjs2 : j = s.size := by omega
              have hjz : decide ((j : Int) < (s.size : Int)) = false := by simp; omega
              have HALL : Hid (seen (pats ss) k i (numsOf s) j = usedB ((pats ss).take (i + 1)) k) := Lib.hid (by
                have h := seen_all (pats ss) k HIP.out
                rw [HPI.out, numsOf_len] at h
                rw [hjs2]; exact h)
              go_wp2
              go_roundg (n - (i + 1))
              case measure => omega
              case rel => exact ⟨i + 1, by omega, rfl, by go_num, by rw [HALL.out], rfl⟩
        · have hin2 : i = n := by omega
          have hiz : decide ((i : Int) < (n : Int)) = false := by simp; omega
          have HALL : Hid (usedB ((pats ss).take i) k = usedB (pats ss) k) := Lib.hid (by
            rw [hin2, ← used_all (pats ss) k, pats_len, HL.out])
          rw [HALL.out]
          have hq1 := HQ.out.q1
          have HLN : Hid (ln = (vu (0 :: letsTo (usedB (pats ss)) k)).length) := Lib.hid (HRG.out.len (i := 2) rfl)
          have hln : ln ≤ 257 := by have h := HLN.out; have h2 := letsTo_len (usedB (pats ss)) k; simp only [List.length_map, List.length_cons] at h; omega
          obtain ⟨z, hz⟩ : ∃ z, z = usedB (pats ss) k := ⟨_, rfl⟩
          have HZU := Lib.hid hz
          rw [← hz]
          clear hz
          cases z with
          | false =>
            go_wp2
            go_roundg (256 - (k + 1))
            case measure => omega
            case rel =>
              refine ⟨k + 1, la, ln, lc, by omega, rfl, by go_num, rfl, ?_, HQ.out, HZ.out, HBL.out⟩
              rw [clsPad_unused hlt HZU.out.symm, letsTo_succ, ← HZU.out]
              exact HRG.out
          | true =>
            have hwk : IntKind.u8.wrap (k : Int) = k := by rw [IntKind.wrap_u8]; omega
            go_wp2_with (first
              | (refine RF.store HRG.out (i := 1) rfl rfl 3 (.tmp 59) (.tmp 58) rfl k rfl _ rfl rfl rfl (by kernel_rfl) (by simp [clsPad_len _ hk]; omega) ?_; intro w8 hrf8 hg8 hbl8 hfr8; have HR8 := Lib.hid hrf8; have HB8 := Lib.hid hbl8; have HF8 := Lib.hid hfr8; clear hrf8 hg8 hbl8 hfr8)
              | (at_builtin; refine RF.append HR8.out (i := 2) rfl ln HLN.out (below_alloc w8 _) (.tmp 60) (.tmp 63) EU8 rfl rfl rfl _ 1 _ [.int .u8 (k : Int)] rfl (RdG.lits w8 1 5 1 [.int .u8 (k : Int)] rfl) (by simp [Value.oneCell']) (by omega) (by decide) ?_; intro a7 c7 w7 hrf7 hg7 hbl7 hfr7; have HR7 := Lib.hid hrf7; have HB7 := Lib.hid hbl7; have HF7 := Lib.hid hfr7; clear hrf7 hg7 hbl7 hfr7))
            go_roundg (256 - (k + 1))
            case measure => omega
            case rel =>
              have e1 : letsTo (usedB (pats ss)) (k + 1) = letsTo (usedB (pats ss)) k ++ [(k : Int)] := by rw [letsTo_succ, if_pos HZU.out.symm]
              have e2 : (ln : Int) = ((letsTo (usedB (pats ss)) (k + 1)).length : Int) := by
                have h := HLN.out
                rw [List.length_map, List.length_cons] at h
                rw [e1, List.length_append, List.length_singleton]; omega
              refine ⟨k + 1, a7, ln + 1, c7, by omega, rfl, by go_num, rfl, ?_, (HQ.out.frN HF8.out).frN HF7.out, (HZ.out.frN HF8.out).frN HF7.out, (HBL.out.trans HB8.out).trans HB7.out⟩
              rw [← clsPad_used hlt HZU.out.symm, ← e2, e1]
              have h := HR7.out
              rw [show vi ((clsPad (usedB (pats ss)) k).set k (ln : Int)) = (vi (clsPad (usedB (pats ss)) k)).set k (.int .i64 (ln : Int)) from List.map_set, show vu (0 :: (letsTo (usedB (pats ss)) k ++ [(k : Int)])) = vu (0 :: letsTo (usedB (pats ss)) k) ++ [.int .u8 (k : Int)] by simp [vu]]
              exact h
    · have hk2 : k = 256 := by omega
      subst hk2
      have HR0 : Hid (RF W.heap.size N wr [some (9, .slice (some ⟨g, 0, none⟩) m c, outs.map Value.string), some (3, .slice (some ⟨gc, 0, none⟩) 256 256, vi (litC (pats ss))), some (5, .slice la ln lc, vu (0 :: litL (pats ss))), some (24, .slice none 0 0, []), some (4, .slice none 0 0, []), some (3, .slice none 0 0, []), D, D]) := Lib.hid (by
        have h := HRG.out
        rw [clsPad_end] at h; exact h)
      have HLN : Hid (ln = (litL (pats ss)).length + 1) := Lib.hid (by have h := HRG.out.len (i := 2) rfl; rw [List.length_map, List.length_cons] at h; exact h)
      have hln : ln ≤ 257 := by have h := HLN.out; have h2 := letsTo_len (usedB (pats ss)) 256; unfold litL at h; omega
      have hm121 : m ≤ 121 := by rw [HM.out]; exact HPL.out
      have hm1 : 0 < m := by rw [HM.out]; exact prefs_len_pos _
      have hln1 : 0 < ln := by have := HLN.out; omega
      obtain ⟨gl, rfl⟩ := HR0.out.addr (i := 2) rfl (by simp)
      clear HRG hlt hk
      go_wp2
      go_loopg [11, 12] m (fun gg hv iv wr => ∃ (i : Nat) (ax aa ah : Option Addr) (cx ca ch : Nat) (xs : List Value) (rs : List (Option Rw)), i ≤ m ∧ gg = m - i ∧ iv = .int .i64 i ∧ hv = .slice ah i ch ∧ Rows8 xs rs ((litN (pats ss)).take i) i ln ∧
        RF W.heap.size N wr (some (9, .slice (some ⟨g, 0, none⟩) m c, outs.map Value.string) :: some (3, .slice (some ⟨gc, 0, none⟩) 256 256, vi (litC (pats ss))) :: some (5, .slice (some ⟨gl, 0, none⟩) ln lc, vu (0 :: litL (pats ss))) :: some (24, .slice ax i cx, xs) :: some (4, .slice aa i ca, ((litH (pats ss)).take i).map fun h => .bool (decide (0 < h))) :: some (3, .slice ah i ch, vi ((litH (pats ss)).take i)) :: D :: D :: rs) ∧
        QN N wr bq (.slice (some ⟨gc, 0, none⟩) 256 256) (.slice ax i cx) (.slice aa i ca) ∧ QN N wr W.heap.size (.slice none 0 0) (.slice none 0 0) (.slice none 0 0) ∧ Below W.heap.size W1 wr)
      case atStart =>
        exact ⟨0, none, none, none, 0, 0, 0, [], [], by omega, rfl, rfl, rfl, ⟨rfl, rfl, fun i hi => by omega⟩, HR0.out, HQ.out, HZ.out, HBL.out⟩
      case round =>
        clear HR0 HQ HZ HBL HRD
        obtain ⟨i, ax, aa, ah, cx, ca, ch, xs, rs, hi, rfl, rfl, rfl, hrows, hrf, hqn, hzn, hbl⟩ := hrel
        have HRS := Lib.hid hrows
        have HRG := Lib.hid hrf
        have HQ := Lib.hid hqn
        have HZ := Lib.hid hzn
        have HBL := Lib.hid hbl
        have HRD := Lib.hid (HR.out.below (HB1.out.trans hbl))
        clear hrows hrf hqn hzn hbl
        by_cases hlt : i < m
        · have hiz : (i : Int) < (m : Int) := by omega
          have HIP : Hid (i < (prefs (pats ss)).length) := Lib.hid (by rw [← HM.out]; exact hlt)
          have hil : i < outs.length := by rw [HPF.out.len]; exact hlt
          obtain ⟨u, hu⟩ : ∃ u, u = outs.getD i ByteArray.empty := ⟨_, rfl⟩
          have HUN : Hid (numsOf u = (prefs (pats ss)).getD i []) := Lib.hid (by
            rw [← HPF.out.words, hu]; simp [List.getD, hil])
          have hus : u.size ≤ 120 := HPF.out.sz u (by rw [hu]; exact getD_mem hil)
          have HUC : Hid ((outs.map Value.string)[i]? = some (.string u)) := Lib.hid (by rw [hu]; simp [List.getD, hil])
          clear hu hil
          go_wp2
          obtain ⟨gr, hgr⟩ : ∃ gr, gr = wr.heap.size := ⟨_, rfl⟩
          obtain ⟨w6, hw6⟩ : ∃ w6, w6 = wr.alloc (.cells #[.int .i64 0] 3) := ⟨_, rfl⟩
          have hb6 : Below wr.heap.size wr w6 := by rw [hw6]; exact below_alloc _ _
          have HR6 := Lib.hid (HRG.out.new (w' := w6) (e := 3) (v := .slice (some ⟨gr, 0, none⟩) 1 1) (xs := [.int .i64 0]) (by rw [hw6, hgr]; exact World.ownsRow_lit wr _ 1 HRG.out.bw (by decide) rfl) hb6 (.inl (by rw [hgr]; rfl)))
          have HQ6 := Lib.hid (HQ.out.below hb6)
          have HZ6 := Lib.hid (HZ.out.below hb6)
          have HBL6 := Lib.hid (HBL.out.trans (hb6.mono HRG.out.bw))
          rw [← hw6, ← hgr]
          clear hw6 hb6 hgr
          go_loopg [13, 14] ln (fun gg rv cv wr => ∃ (j gr cr : Nat), j < ln ∧ gg = ln - j ∧ cv = .int .i64 ((j : Int) + 1) ∧ rv = .slice (some ⟨gr, 0, none⟩) (j + 1) cr ∧
            RF W.heap.size N wr (some (9, .slice (some ⟨g, 0, none⟩) m c, outs.map Value.string) :: some (3, .slice (some ⟨gc, 0, none⟩) 256 256, vi (litC (pats ss))) :: some (5, .slice (some ⟨gl, 0, none⟩) ln lc, vu (0 :: litL (pats ss))) :: some (24, .slice ax i cx, xs) :: some (4, .slice aa i ca, ((litH (pats ss)).take i).map fun h => .bool (decide (0 < h))) :: some (3, .slice ah i ch, vi ((litH (pats ss)).take i)) :: D :: D :: (rs ++ [some (3, .slice (some ⟨gr, 0, none⟩) (j + 1) cr, vi (refRow (pats ss) (numsOf u) j))])) ∧
            QN N wr bq (.slice (some ⟨gc, 0, none⟩) 256 256) (.slice ax i cx) (.slice aa i ca) ∧ QN N wr W.heap.size (.slice none 0 0) (.slice none 0 0) (.slice none 0 0) ∧ Below W.heap.size W1 wr)
          case atStart =>
            exact ⟨0, gr, 1, hln1, by omega, rfl, rfl, HR6.out, HQ6.out, HZ6.out, HBL6.out⟩
          case round =>
            clear HR6 HQ6 HZ6 HBL6 HRG HQ HZ HBL HRD
            obtain ⟨j, gr, cr, hj, rfl, rfl, rfl, hrf, hqn, hzn, hbl⟩ := hrel
            have HRG := Lib.hid hrf
            have HQ := Lib.hid hqn
            have HZ := Lib.hid hzn
            have HBL := Lib.hid hbl
            have HRD := Lib.hid (HR.out.below (HB1.out.trans hbl))
            clear hrf hqn hzn hbl
            obtain ⟨J1, hJ1⟩ : ∃ J1 : Nat, J1 = j + 1 := ⟨_, rfl⟩
            have hJc : ((j : Int) + 1) = (J1 : Int) := by omega
            rw [hJc]
            by_cases hjl : J1 < ln
            · have hjz : (J1 : Int) < (ln : Int) := by omega
              have HJL : Hid (j < (litL (pats ss)).length) := Lib.hid (by have := HLN.out; omega)
              obtain ⟨b, hbe, hb256⟩ : ∃ b : Nat, (litL (pats ss)).getD j 0 = (b : Int) ∧ b < 256 := by
                obtain ⟨m, h1, _, h3⟩ := mem_letsTo.1 (getD_mem' (l := letsTo (usedB (pats ss)) 256) (d := 0) HJL.out)
                exact ⟨m, h3, h1⟩
              have hcl : wr.cell? ⟨gl, J1, none⟩ = some (.int .u8 (b : Int)) := HRG.out.cell (i := 2) rfl (by
                rw [hJ1, List.getElem?_map, List.getElem?_cons_succ, List.getElem?_eq_getElem HJL.out]
                simp only [Option.map_some]
                have := HJL.out
                rw [← hbe]; simp [List.getD, this])
              have hcu : wr.cell? ⟨g, i, none⟩ = some (.string u) := HRG.out.cell (i := 0) rfl HUC.out
              obtain ⟨sb, hsb⟩ : ∃ sb, sb = Go.strOfNums [(b : Int)] := ⟨_, rfl⟩
              have hbig : ¬ (9223372036854775807 < u.size + 1) := by omega
              have hsb1 : sb.size = 1 := by rw [hsb, Go.strOfNums_size]; rfl
              obtain ⟨tx, htx⟩ : ∃ tx, tx = u ++ sb := ⟨_, rfl⟩
              have HTX : Hid (numsOf tx = numsOf u ++ [(b : Int)]) := Lib.hid (by
                rw [htx]
                unfold numsOf
                rw [ByteArray.data_append, Array.toList_append, List.map_append, hsb, Go.strOfNums_data]
                simp; omega)
              have HTS : Hid (tx.size ≤ 9223372036854775807) := Lib.hid (by rw [htx, ByteArray.size_append]; omega)
              have HBE := Lib.hid hbe
              have hcv : (convert 44 9 (.slice (some ⟨wr.heap.size, 0, none⟩) 1 1)).run Try.prog (wr.alloc (.cells #[.int .u8 (b : Int)] 5)).drew = .ok (.string sb) (wr.alloc (.cells #[.int .u8 (b : Int)] 5)).drew := by
                rw [hsb]
                exact Go.run_convert_bytes_arg _ 44 5 Try.underlying44 Try.underlying5 wr.heap.size 0 1 1 [(b : Int)] rfl (fun i hi => by
                obtain rfl : i = 0 := by omega
                rw [Nat.zero_add, World.cell?_drew, World.cell?_alloc_new]; rfl) 9 Try.underlying9
              have hcl2 : ∀ o, (wr.alloc o).drew.cell? ⟨gl, J1, none⟩ = some (.int .u8 (b : Int)) := fun o => below_cell ((below_alloc _ _).drew) hcl
              have hcu2 : ∀ o, (wr.alloc o).drew.cell? ⟨g, i, none⟩ = some (.string u) := fun o => below_cell ((below_alloc _ _).drew) hcu
              have HJ1 := Lib.hid hJ1
              have HTXD := Lib.hid htx
              clear hbe htx hJ1 hsb
              go_wp2
              go_cut [15] (fun s15 wc => s15 = Value.string tx ∧ wc = (wr.alloc (.cells #[.int .u8 (b : Int)] 5)).drew)
              case first =>
                go_region_law (fail)
                all_goals
                  go_wp2
                  go_meet
                  exact ⟨by rw [HTXD.out], rfl⟩
              case rest =>
                obtain ⟨hs15, hwc⟩ := hcut
                subst hs15
                obtain ⟨w7, hw7⟩ : ∃ w7, w7 = (wr.alloc (.cells #[.int .u8 (b : Int)] 5)).drew := ⟨_, rfl⟩
                rw [← hw7] at hwc
                subst hwc
                have hb7 : Below wr.heap.size wr wc := by rw [hw7]; exact (below_alloc _ _).drew
                have HR7 := Lib.hid (HRG.out.below hb7)
                have HQ7 := Lib.hid (HQ.out.below hb7)
                have HZ7 := Lib.hid (HZ.out.below hb7)
                have HBL7 := Lib.hid (HBL.out.trans (hb7.mono HRG.out.bw))
                clear hw7 hb7 hcv hcl2 hcu2 hcl hcu hbig hsb1 HTXD HRG HQ HZ HBL HRD
                obtain ⟨M1, hM1⟩ : ∃ M1 : Nat, M1 = m - 1 := ⟨_, rfl⟩
                have hMc : ((m : Int) - 1) = (M1 : Int) := by omega
                obtain ⟨va, hv⟩ : ∃ va, va = litAt (pats ss) (numsOf tx) := ⟨_, rfl⟩
                have hvm : va ≤ M1 := by have := litAt_lt (pats ss) (numsOf tx); rw [← HM.out, ← hv] at this; omega
                have HV := Lib.hid hv
                clear hv
                go_wp2
                (try rw [hMc])
                go_loopg [16] (M1 - va) (fun gg tv w9 => ∃ t : Nat, va ≤ t ∧ t ≤ M1 ∧ gg = t - va ∧ tv = .int .i64 t ∧ wc = w9)
                case atStart => exact ⟨M1, hvm, by omega, rfl, by first | rfl | rw [hM1], rfl⟩
                case round =>
                  obtain ⟨t, htv, htm, rfl, rfl, hw⟩ := hrel
                  subst hw
                  have htz : (t : Int) < (m : Int) := by omega
                  have htm2 : t < m := by omega
                  have htl : t < outs.length := by rw [HPF.out.len]; exact htm2
                  obtain ⟨y, hy⟩ : ∃ y, y = outs.getD t ByteArray.empty := ⟨_, rfl⟩
                  have HYN : Hid (numsOf y = (prefs (pats ss)).getD t []) := Lib.hid (by
                    rw [← HPF.out.words, hy]; simp [List.getD, htl])
                  have hys : y.size ≤ 120 := HPF.out.sz y (by rw [hy]; exact getD_mem htl)
                  have hcy : wc.cell? ⟨g, t, none⟩ = some (.string y) := HR7.out.cell (i := 0) rfl (by rw [hy]; simp [List.getD, htl])
                  have HSF := Lib.hid (suffix_any tx y wc HTS.out (by omega))
                  clear hy htl
                  by_cases htv2 : t = va
                  · rw [decide_eq_true (show numsOf y <:+ numsOf tx by rw [HYN.out, htv2, HV.out]; exact at_suffix _ _)] at HSF
                    have HRL : Hid (j + 1 = (vi (refRow (pats ss) (numsOf u) j)).length) := Lib.hid (by rw [List.length_map, refRow_len _ _ (Nat.le_of_lt HJL.out)])
                    have HTV := Lib.hid htv2
                    clear htv2
                    go_wp2_with fail
                    refine HSF.out.mono ?_
                    rintro e w9 ⟨rfl, rfl⟩
                    go_wp2_with (at_builtin; refine RF.append HR7.out (i := i + 8) (at8 HRS.out.2.1) (j + 1) HRL.out (below_alloc wc _) (.tmp 101) (.tmp 103) EIG rfl rfl rfl _ 1 _ [.int .i64 (t : Int)] rfl (RdG.lits wc 1 3 1 [.int .i64 (t : Int)] rfl) (by simp [Value.oneCell']) (by omega) (by decide) ?_; intro a8 c8 w8 hrf8 hg8 hbl8 hfr8; have HR8 := Lib.hid hrf8; have HB8 := Lib.hid hbl8; have HF8 := Lib.hid hfr8; clear hrf8 hg8 hbl8 hfr8)
                    have h8 := HR8.out
                    rw [set8 HRS.out.2.1] at h8
                    clear HR8
                    obtain ⟨gr8, rfl⟩ := h8.addr (i := i + 8) (at8 HRS.out.2.1) (by simp)
                    have H8 := Lib.hid h8
                    clear h8
                    go_roundg (ln - J1)
                    case measure => omega
                    case rel =>
                      have hrow : refRow (pats ss) (numsOf u) J1 = refRow (pats ss) (numsOf u) j ++ [(t : Int)] := by
                        rw [HJ1.out, refRow_succ _ _ HJL.out, HBE.out, ← HTX.out, ← HV.out, HTV.out]
                      refine ⟨J1, gr8, c8, hjl, rfl, rfl, by rw [HJ1.out], ?_, HQ7.out.frN HF8.out, HZ7.out.frN HF8.out, HBL7.out.trans HB8.out⟩
                      have h := H8.out
                      rw [hrow, HJ1.out, show vi (refRow (pats ss) (numsOf u) j ++ [(t : Int)]) = vi (refRow (pats ss) (numsOf u) j) ++ [.int .i64 (t : Int)] from List.map_append]
                      exact h
                  · rw [decide_eq_false (show ¬ numsOf y <:+ numsOf tx by rw [HYN.out]; exact past_suffix _ _ (by rw [← HV.out]; omega) (by rw [← HM.out]; exact htm2))] at HSF
                    obtain ⟨T1, hT1⟩ : ∃ T1 : Nat, T1 = t - 1 := ⟨_, rfl⟩
                    have hTc : ((t : Int) - 1) = (T1 : Int) := by omega
                    go_wp2_with fail
                    refine HSF.out.mono ?_
                    rintro e w9 ⟨rfl, rfl⟩
                    go_wp2
                    (try rw [hTc])
                    go_roundg (T1 - va)
                    case measure => omega
                    case rel => exact ⟨T1, by omega, by omega, rfl, by first | rfl | go_num, rfl⟩
            · have hjz : decide ((J1 : Int) < (ln : Int)) = false := by simp; omega
              have hj1 : J1 = ln := by have := HLN.out; omega
              have HXL : Hid (i = xs.length) := Lib.hid HRS.out.1.symm
              have HROW : Hid (refRow (pats ss) (numsOf u) j = (litN (pats ss)).getD i []) := Lib.hid (by
                have h := refRow_all (pats ss) HIP.out
                rw [← HUN.out] at h
                rw [← h]
                congr 1
                have := HLN.out; omega)
              have HJ2 := Lib.hid hj1
              have HJC := Lib.hid hJc
              have HJ1 := Lib.hid hJ1
              have hq2 := HQ.out.q2
              have hjz2 : ¬ ((J1 : Int) < (ln : Int)) := by omega
              clear hj1 hJc hJ1
              go_upto_region 32 with (at_builtin; refine RF.append HRG.out (i := 3) rfl i HXL.out (below_alloc wr _) (.tmp 106) (.tmp 108) ESI rfl rfl rfl _ 1 _ [.slice (some ⟨gr, 0, none⟩) (j + 1) cr] rfl (RdG.lits wr 1 24 1 [.slice (some ⟨gr, 0, none⟩) (j + 1) cr] rfl) (by simp [Value.oneCell']) (by omega) (by decide) ?_; intro a6 c6 w6 hrf6 hg6 hbl6 hfr6; have HR6 := Lib.hid hrf6; have HB6 := Lib.hid hbl6; have HF6 := Lib.hid hfr6; have hq62 := (HQ.out.frN hfr6).q2; have hqf6 := (HQ.out.frN hfr6).fz 2; clear hrf6 hg6 hbl6 hfr6)
              obtain ⟨w7, hw7⟩ : ∃ w7, w7 = w6.setCell ⟨bq, 2, none⟩ (.slice a6 (i + 1) c6) := ⟨_, rfl⟩
              have HR7 : Hid (RF W.heap.size N w7 _) := Lib.hid (by rw [hw7]; exact HR6.out.cells (fr_setN HQ.out.nq))
              have HQ7 : Hid (QN N w7 bq _ _ _) := Lib.hid (by rw [hw7]; exact (HQ.out.frN HF6.out).set2 (.slice a6 (i + 1) c6))
              have HZ7 : Hid (QN N w7 W.heap.size _ _ _) := Lib.hid (by rw [hw7]; exact (HZ.out.frN HF6.out).setq HNE.out.1 _ _)
              have HB7 : Hid (Below W.heap.size W1 w7) := Lib.hid (by rw [hw7]; exact (HBL.out.trans HB6.out).setCell HNE.out.2 _)
              rw [← hw7]
              clear hw7 HR6 HQ HZ HBL hq62 hqf6 hq2 HRD HRG
              have HH7 := Lib.hid (hits_any a n cp ss u w7 (HR.out.below (HB1.out.trans HB7.out)) (by omega))
              obtain ⟨ct, hct⟩ : ∃ ct : Int, ct = (cnt (pats ss) (numsOf u) : Nat) := ⟨_, rfl⟩
              rw [← hct] at HH7
              have HCT := Lib.hid hct
              have HHL : Hid (i = (vi ((litH (pats ss)).take i)).length) := Lib.hid (by rw [List.length_map, List.length_take, litH_len, Nat.min_eq_left (Nat.le_of_lt HIP.out)])
              have HAL : Hid (i = (((litH (pats ss)).take i).map fun h => Value.bool (decide (0 < h))).length) := Lib.hid (by rw [List.length_map, List.length_take, litH_len, Nat.min_eq_left (Nat.le_of_lt HIP.out)])
              have hcu : w7.cell? ⟨g, i, none⟩ = some (.string u) := HR7.out.cell (i := 0) rfl HUC.out
              clear hct
              go_wp2_with fail
              refine HH7.out.mono ?_
              rintro e w7' ⟨rfl, rfl⟩
              go_upto_region 33 with (at_builtin; refine RF.append HR7.out (i := 5) rfl i HHL.out (below_alloc w7 _) (.tmp 111) (.tmp 118) EIG rfl rfl rfl _ 1 _ [.int .i64 ct] rfl (RdG.lits w7 1 3 1 [.int .i64 ct] rfl) (by simp [Value.oneCell']) (by omega) (by decide) ?_; intro a8 c8 w8 hrf8 hg8 hbl8 hfr8; have HR8 := Lib.hid hrf8; have HB8 := Lib.hid hbl8; have HF8 := Lib.hid hfr8; clear hrf8 hg8 hbl8 hfr8)
              obtain ⟨gh8, rfl⟩ := HR8.out.addr (i := 5) rfl (by simp)
              have HQ8 := Lib.hid (HQ7.out.frN HF8.out)
              have hq3 : w8.drew.cell? ⟨bq, 3, none⟩ = some (.slice aa i ca) := HQ8.out.q3
              have hch0 : w8.cell? ⟨gh8, i, none⟩ = some (.int .i64 ct) := HR8.out.cell (i := 5) rfl (by
                have h := HHL.out
                rw [List.getElem?_append_right (by omega), ← h, Nat.sub_self]; rfl)
              have hch : w8.drew.cell? ⟨gh8, i, none⟩ = some (.int .i64 ct) := hch0
              have hq32 : ∀ o, (w8.alloc o).drew.cell? ⟨bq, 3, none⟩ = some (.slice aa i ca) := fun o => below_cell ((below_alloc _ _).drew) HQ8.out.q3
              have hii : (i : Int) < (i : Int) + 1 := by omega
              clear hcu
              go_region_law (refine RF.stepAppend HR8.out (i := 4) rfl i HAL.out ((below_alloc _ _).drew) (.tmp 121) (.tmp 127) EBG rfl rfl rfl _ 1 _ [.bool (decide (0 < ct))] rfl (RdG.lits w8 1 4 1 [.bool (decide (0 < ct))] rfl).drew (by simp [Value.oneCell']) (by omega) (by decide) ?_; intro a9 c9 w9 hrf9 hg9 hbl9 hfr9; have hq93 := (HQ8.out.frN hfr9).q3; have hqf9 := (HQ8.out.frN hfr9).fz 3)
              all_goals
                have HR9 := Lib.hid hrf9
                have HB9 := Lib.hid hbl9
                have HF9 := Lib.hid hfr9
                clear hrf9 hg9 hbl9 hfr9 hq3 hq32 hch hch0
                obtain ⟨w10, hw10⟩ : ∃ w10, w10 = w9.setCell ⟨bq, 3, none⟩ (.slice a9 (i + 1) c9) := ⟨_, rfl⟩
                have HR10 : Hid (RF W.heap.size N w10 _) := Lib.hid (by rw [hw10]; exact HR9.out.cells (fr_setN HQ7.out.nq))
                have HQ10 : Hid (QN N w10 bq _ _ _) := Lib.hid (by rw [hw10]; exact (HQ8.out.frN HF9.out).set3 (.slice a9 (i + 1) c9))
                have HZ10 : Hid (QN N w10 W.heap.size _ _ _) := Lib.hid (by rw [hw10]; exact ((HZ7.out.frN HF8.out).frN HF9.out).setq HNE.out.1 _ _)
                have HB10 : Hid (Below W.heap.size W1 w10) := Lib.hid (by rw [hw10]; exact ((HB7.out.trans HB8.out).trans HB9.out).setCell HNE.out.2 _)
                rw [← hw10]
                clear hw10 HR9 HR8 HR7 HQ7 HZ7 HB7 HQ8 hq93 hqf9
                go_wp2
                go_roundg (m - (i + 1))
                case measure => omega
                case rel =>
                  have hj3 : j + 1 = ln := by rw [← HJ1.out, HJ2.out]
                  refine ⟨i + 1, a6, a9, some ⟨gh8, 0, none⟩, c6, c9, c8, xs ++ [.slice (some ⟨gr, 0, none⟩) ln cr], rs ++ [some (3, .slice (some ⟨gr, 0, none⟩) ln cr, vi ((litN (pats ss)).getD i []))], by omega, rfl, by go_num, rfl, ?_, ?_, HQ10.out, HZ10.out, HB10.out⟩
                  · rw [litN_snoc _ HIP.out]
                    exact HRS.out.push (by rw [List.length_take, litN_len, Nat.min_eq_left (Nat.le_of_lt HIP.out)]) _ _ _
                  · have h := HR10.out
                    rw [HROW.out, hj3] at h
                    rw [litH_snoc _ HIP.out, ← HUN.out, ← HCT.out]
                    rw [show vi ((litH (pats ss)).take i ++ [ct]) = vi ((litH (pats ss)).take i) ++ [.int .i64 ct] from List.map_append, show (((litH (pats ss)).take i ++ [ct]).map fun h => Value.bool (decide (0 < h))) = (((litH (pats ss)).take i).map fun h => Value.bool (decide (0 < h))) ++ [.bool (decide (0 < ct))] from List.map_append]
                    exact h
        · have hkn3 : m = i := by omega
          subst hkn3
          have HFN : Hid ((litN (pats ss)).take m = litN (pats ss)) := Lib.hid (List.take_of_length_le (by rw [litN_len, HM.out]; exact Nat.le_refl _))
          have HFH : Hid ((litH (pats ss)).take m = litH (pats ss)) := Lib.hid (List.take_of_length_le (by rw [litH_len, HM.out]; exact Nat.le_refl _))
          rw [HFN.out] at HRS
          rw [HFH.out] at HRG
          have hrng := HQ.out.range
          have hth : wr.there W.heap.size 0 4 := HZ.out.there
          go_wp2_with (first
            | (refine wpList_load_mid rfl 28 _ rfl bq 0 rfl _ _ hrng Try.underlying28 rfl mach_info ?_; clear hrng)
            | (refine wpList_store_mid rfl 28 _ _ rfl W.heap.size 0 #[.int .i64 0, .slice (some ⟨gc, 0, none⟩) 256 256, .slice ax m cx, .slice aa m ca] rfl rfl hth mach_info (by simp [Value.oneCell']) ?_; clear hth))
          (try simp only [Exit.inBlock, Exit.then])
          obtain ⟨w9, hw9⟩ : ∃ w9, w9 = wr.setCells W.heap.size 0 [.int .i64 0, .slice (some ⟨gc, 0, none⟩) 256 256, .slice ax m cx, .slice aa m ca] := ⟨_, rfl⟩
          rw [← hw9]
          have hres : w9.rangeAt W.heap.size 0 [.int .i64 0, .slice (some ⟨gc, 0, none⟩) 256 256, .slice ax m cx, .slice aa m ca] := by
            rw [hw9]; exact World.rangeAt_setCells_same _ _ _ _ HZ.out.there
          have hfr9 : Fr (fun i => i = W.heap.size) wr w9 := by rw [hw9]; exact fr_setCells _ _ _
          have hR9 := HRG.out.cells (hfr9.mono (T := N) fun i hi => hi ▸ HZ.out.nq)
          have hload := run_loadVar_mid (P := Try.prog) w9 W.heap.size 0 28 _ _ hres Try.underlying28 rfl mach_info
          refine bodyPost_ret (v := .tuple #[.agg #[.int .i64 0, .slice (some ⟨gc, 0, none⟩) 256 256, .slice ax m cx, .slice aa m ca], .slice ah m ch]) ?_ rfl ?_
          · rw [results_cell_tmp rfl]
            simp [asAddr, Result.andThen, hload]
          · have hn : m = (prefs (pats ss)).length := HM.out
            subst hn
            have hR10 := hR9
            refine ⟨some ⟨gc, 0, none⟩, ax, cx, aa, ca, ah, ch, rfl, ⟨?_, ?_, ?_⟩, ?_, ?_⟩
            · refine hR10.rd (i := 1) rfl fun x hx => ?_
              have h1 := cls_bd (usedB (pats ss)) 256 x hx
              have h2 := letsTo_len (usedB (pats ss)) 256
              obtain ⟨q, hq⟩ := Int.eq_ofNat_of_zero_le h1.1
              rw [hq]; exact wf_nat (by omega)
            · refine ⟨litN_len _, by omega, fun i hi => ?_⟩
              obtain ⟨g1, c1, hx1, hx2⟩ := HRS.out.2.2 i hi
              obtain ⟨gx, rfl⟩ := hR10.addr (i := 3) rfl (by rw [HRS.out.1]; omega)
              refine ⟨gx, 0, some ⟨g1, 0, none⟩, ln, c1, rfl, ?_, ?_, ?_⟩
              · rw [Nat.zero_add]; exact hR10.cell (i := 3) rfl hx1
              · refine hR10.rd (i := i + 8) (e := 3) (c := c1) (by show rs[i]? = _; exact hx2) fun x hx => ?_
                have h1 := (litN_row (ps := pats ss) _ (getD_mem' (by rw [litN_len]; exact hi))).2 x hx
                obtain ⟨q, hq⟩ := Int.eq_ofNat_of_zero_le h1.1
                rw [hq]; exact wf_nat (by omega)
              · exact hR10.cap (i := i + 8) (e := 3) (xs := vi ((litN (pats ss)).getD i [])) (by show rs[i]? = _; exact hx2)
            · refine ⟨litA_len _, by omega, fun i hi => ?_⟩
              have hlh : ((litH (pats ss)).map fun h => Value.bool (decide (0 < h))).length = (prefs (pats ss)).length := by rw [List.length_map, litH_len]
              obtain ⟨ga, rfl⟩ := hR10.addr (i := 4) rfl (by rw [hlh]; omega)
              refine ⟨ga, 0, rfl, ?_⟩
              rw [Nat.zero_add]
              refine hR10.cell (i := 4) rfl ?_
              unfold litH litA
              simp [List.getD, hi]
            · refine hR10.rd (i := 5) rfl fun x hx => ?_
              unfold litH at hx
              obtain ⟨y, _, rfl⟩ := List.mem_map.1 hx
              exact wf_nat (by have := cnt_le (pats ss) y; have := pats_len ss; have := HS.out.n; omega)
            · exact (HB1.out.trans HBL.out).trans (hfr9.below (fun i hi => by rw [hi]; exact Nat.le_refl _) HRG.out.bw)

end Go.Proofs.Ytfhoaehoccfadaa
