/-
  (*trie).machine: the walk.
-/
import Derived.Test.YtfhoaehoccfadaaLMBase
import Derived.Test.YtfhoaehoccfadaaMBase
namespace Go.Proofs.Ytfhoaehoccfadaa
open Go.RowKit Go.Maps
set_option linter.unusedVariables false
set_option linter.unusedSimpArgs false

/-- what is handed back: a machine and its hits, as they are read -/
def MachPost (ps : List (List Int)) (B : Nat) (w : World) (e : Ending) (w' : World) : Prop :=
  ∃ ac an cn aa ca ah ch, e = .returned (.tuple #[.agg #[.int .i64 0, .slice ac 256 256, .slice an (prefs ps).length cn, .slice aa (prefs ps).length ca], .slice ah (prefs ps).length ch]) ∧
    (∀ w2, Fr (fun i => i < B) w' w2 → RdM w2 ac 256 an (prefs ps).length aa (prefs ps).length (litC ps) (litN ps) (litA ps) ∧ Rd w2 .i64 ah (prefs ps).length (litH ps)) ∧ Below B w w'

set_option maxRecDepth 100000 in
set_option maxHeartbeats 8000000 in
theorem mach_any (B bt bm g c : Nat) (w : World) (ps W : List (List Int)) (hT : TM B w bt bm g c W (eqsL ps W) (usedB ps)) (hW : Tw ps W) (hl : W.length ≤ 256) (hps : ps.length < 4294967296) (hby : Byt ps) (hBw : B ≤ w.heap.size) :
    Calls Try.prog 26 #[.pointer (some ⟨bt, 0, none⟩)] w (MachPost ps B w) := by
  have HT := Lib.hid hT
  have HW := Lib.hid hW
  have HWL := Lib.hid hl
  have HPS := Lib.hid hps
  have HBY := Lib.hid hby
  -- the blocks: the trie's, its map, the result's cell
  obtain ⟨N0, hN0⟩ : ∃ N0 : Nat → Prop, N0 = fun b => b = bt ∨ b = bm := ⟨_, rfl⟩
  have hrf0 : RF B N0 w [some (3, .slice (some ⟨g, 0, none⟩) W.length c, vi (eqsL ps W))] := by
    have hE : (vi (eqsL ps W)).length = W.length := by simp [eqsL_len]
    refine RF.one ?_ (fun g' hg => ?_) (fun b hb => ?_) hBw
    · rw [hE]
      have := hT.own
      unfold Own at this
      rw [eqsL_len] at this
      exact this
    · cases hg
      rw [hN0]
      rintro (e | e)
      · exact hT.gb e
      · exact hT.gm e
    · rw [hN0] at hb
      rcases hb with rfl | rfl
      · exact hT.lt
      · exact hT.mlt
  have htn0 : TN N0 w bt bm (.slice (some ⟨g, 0, none⟩) W.length c) W (usedB ps) := by
    have h1 := hT.c1
    rw [eqsL_len] at h1
    exact ⟨hT.c0, h1, hT.cu, hT.map, by rw [hN0]; exact .inl rfl, by rw [hN0]; exact .inr rfl⟩
  obtain ⟨w1, hw1⟩ : ∃ w1, w1 = w.alloc (.cells #[.int .i64 0, .slice none 0 0, .slice none 0 0, .slice none 0 0] 28) := ⟨_, rfl⟩
  have HB1 := Lib.hid (show Below w.heap.size w w1 by rw [hw1]; exact below_alloc _ _)
  have hrf1 := hrf0.addN (.cells #[.int .i64 0, .slice none 0 0, .slice none 0 0, .slice none 0 0] 28)
  have htn1 := (htn0.below HB1.out).mono (N' := fun b => N0 b ∨ b = w.heap.size) (fun b hb => .inl hb)
  rw [← hw1] at hrf1
  have HR1 := Lib.hid hrf1
  have HTN1 := Lib.hid htn1
  have hz1 : QN (fun b => N0 b ∨ b = w.heap.size) w1 w.heap.size (.slice none 0 0) (.slice none 0 0) (.slice none 0 0) := by
    rw [hw1]
    exact ⟨by simp, by simp, by simp, by simp, fun j => by simp, .inr rfl⟩
  have HZ1 := Lib.hid hz1
  have HW1 := Lib.hid hw1
  have HBW := Lib.hid hBw
  clear hT hW hl hps hby hBw hw1 hrf0 htn0 hrf1 htn1 hz1
  go_enter Try.func26, Try.ntmps26
  go_wp2_with (first
    | (at_make; rw [← HW1.out]; refine RF.make HR1.out EIG rfl rfl _ _ rfl _ _ _ _ 256 rfl rfl rfl rfl (by decide) (by decide) ?_; intro w2 hrf2 hb2 hsz2; have htn2 := (HTN1.out.below hb2).below (below_alloc w2 (.cells #[.int .i64 0, .slice (some ⟨w1.heap.size, 0, none⟩) 256 256, .slice none 0 0, .slice none 0 0] 28)); have hrng := htn2.range; have HR2 := Lib.hid hrf2; have HB2 := Lib.hid hb2; have HSZ2 := Lib.hid hsz2; have HTN2 := Lib.hid htn2; clear hrf2 hb2 hsz2 htn2)
    | (refine wpList_load_mid rfl 59 _ rfl bt 2 rfl (arrU (usedB ps)) _ hrng Try.underlying59 rfl (arr_info _) ?_; clear hrng))
  -- the marks: letters, classes
  obtain ⟨bq, hbq⟩ : ∃ bq, bq = w2.heap.size := ⟨_, rfl⟩
  obtain ⟨gc, hgc⟩ : ∃ gc, gc = w1.heap.size := ⟨_, rfl⟩
  obtain ⟨N, hN⟩ : ∃ N : Nat → Prop, N = fun b => (N0 b ∨ b = w.heap.size) ∨ b = bq := ⟨_, rfl⟩
  obtain ⟨w3, hw3⟩ : ∃ w3, w3 = w2.alloc (.cells #[.int .i64 0, .slice (some ⟨w1.heap.size, 0, none⟩) 256 256, .slice none 0 0, .slice none 0 0] 28) := ⟨_, rfl⟩
  have hrf3 := HR2.out.addN (.cells #[.int .i64 0, .slice (some ⟨w1.heap.size, 0, none⟩) 256 256, .slice none 0 0, .slice none 0 0] 28)
  have htn3 : TN N w3 bt bm (.slice (some ⟨g, 0, none⟩) W.length c) W (usedB ps) := by rw [hw3, hN]; exact HTN2.out.mono fun b hb => .inl hb
  have hqn3 : QN N w3 bq (.slice (some ⟨gc, 0, none⟩) 256 256) (.slice none 0 0) (.slice none 0 0) := by
    rw [hw3, hbq, hgc]
    exact ⟨by simp, by simp, by simp, by simp, fun j => by simp, by rw [hN]; exact .inr hbq.symm⟩
  have hbl3 : Below w1.heap.size w1 w3 := by rw [hw3]; exact HB2.out.alloc (by have := HSZ2.out; omega) _
  rw [← hw3] at hrf3 ⊢
  rw [← hgc, ← hbq] at hrf3
  have hrf4 : RF B N w3 [some (3, .slice (some ⟨g, 0, none⟩) W.length c, vi (eqsL ps W)), some (3, .slice (some ⟨gc, 0, none⟩) 256 256, vi (clsPad (usedB ps) 0)), some (5, .slice none 0 0, []), some (24, .slice none 0 0, []), some (4, .slice none 0 0, [])] := by
    have h := ((hrf3.new (e := 5) (v := .slice none 0 0) (xs := []) (World.ownsRow_nil _ _ _ _) (Below.refl _ _) (.inr rfl)).new (e := 24) (v := .slice none 0 0) (xs := []) (World.ownsRow_nil _ _ _ _) (Below.refl _ _) (.inr rfl)).new (e := 4) (v := .slice none 0 0) (xs := []) (World.ownsRow_nil _ _ _ _) (Below.refl _ _) (.inr rfl)
    rw [hN]
    simp only [List.append_assoc, List.cons_append, List.nil_append] at h
    rw [clsPad_zero, show vi (List.replicate 256 0) = List.replicate 256 (.int .i64 0) from List.map_replicate]
    exact h
  have hz3 : QN N w3 w.heap.size (.slice none 0 0) (.slice none 0 0) (.slice none 0 0) := by
    have h := HZ1.out.below hbl3
    rw [hN]
    exact ⟨h.q0, h.q1, h.q2, h.q3, h.fz, .inl (.inr rfl)⟩
  have HZ3 := Lib.hid hz3
  have HR3 := Lib.hid hrf4
  have HTN3 := Lib.hid htn3
  have HQ3 := Lib.hid hqn3
  have HBL3 := Lib.hid hbl3
  have HN := Lib.hid hN
  have HBQ := Lib.hid hbq
  have HGC := Lib.hid hgc
  have HNE : Hid (bt ≠ bq ∧ bm ≠ bq ∧ w.heap.size ≠ bq ∧ B ≤ bq) := Lib.hid (by
    have h1 := HT.out.lt
    have h2 := HT.out.mlt
    have h3 : w1.heap.size = w.heap.size + 1 := by rw [HW1.out]; simp
    have h4 := HB2.out.size
    have h5 := HBW.out
    omega)
  rw [← hgc, ← hbq]
  clear hrf3 htn3 hqn3 hbl3 hN hbq hgc hw3 hrf4 hz3
  go_loopg [5, 26] 256 (fun gh lv iv wr => ∃ (k : Nat) (la : Option Addr) (ln lc : Nat), k ≤ 256 ∧ gh = 256 - k ∧ iv = .int .i64 k ∧ lv = .slice la ln lc ∧ RF B N wr [some (3, .slice (some ⟨g, 0, none⟩) W.length c, vi (eqsL ps W)), some (3, .slice (some ⟨gc, 0, none⟩) 256 256, vi (clsPad (usedB ps) k)), some (5, .slice la ln lc, vu (letsTo (usedB ps) k)), some (24, .slice none 0 0, []), some (4, .slice none 0 0, [])] ∧ TN N wr bt bm (.slice (some ⟨g, 0, none⟩) W.length c) W (usedB ps) ∧ QN N wr bq (.slice (some ⟨gc, 0, none⟩) 256 256) (.slice none 0 0) (.slice none 0 0) ∧ Below B w1 wr ∧ QN N wr w.heap.size (.slice none 0 0) (.slice none 0 0) (.slice none 0 0))
  case atStart =>
    exact ⟨0, none, 0, 0, by omega, rfl, rfl, rfl, HR3.out, HTN3.out, HQ3.out, HBL3.out.mono (by have := HB1.out.size; have := HBW.out; omega), HZ3.out⟩
  case round =>
    obtain ⟨k, la, ln, lc, hk, rfl, rfl, rfl, hrf, htn, hqn, hbl, hx⟩ := hrel
    have HR := Lib.hid hrf
    have HTN := Lib.hid htn
    have HQ := Lib.hid hqn
    have HBL := Lib.hid hbl
    have HZ := Lib.hid hx
    clear hrf htn hqn hbl hx HR3 HTN3 HQ3
    by_cases hlt : k < 256
    · have hidx := fun w' => arr_index (usedB ps) hlt w'
      cases hu : usedB ps k with
      | false =>
        rw [hu] at hidx
        have HU := Lib.hid hu
        clear hu
        go_wp2
        go_roundg (256 - (k + 1))
        case measure => omega
        case rel =>
          refine ⟨k + 1, la, ln, lc, by omega, rfl, by go_num, rfl, ?_, HTN.out, HQ.out, HBL.out, HZ.out⟩
          rw [clsPad_unused hlt HU.out, letsTo_succ, HU.out]
          exact HR.out
      | true =>
        rw [hu] at hidx
        have HU := Lib.hid hu
        clear hu
        have hwk : IntKind.u8.wrap (k : Int) = k := by rw [IntKind.wrap_u8]; omega
        have HLN : Hid (ln = (vu (letsTo (usedB ps) k)).length) := Lib.hid (HR.out.len (i := 2) rfl)
        have hln : ln ≤ 256 := by have h := HLN.out; have h2 := letsTo_len (usedB ps) k; simp only [List.length_map] at h; omega
        go_wp2_with (first
          | (at_builtin; refine RF.append HR.out (i := 2) rfl ln HLN.out (below_alloc wr _) (.tmp 31) (.tmp 34) EU8 rfl rfl rfl _ 1 _ [.int .u8 (k : Int)] rfl (RdG.lits wr 1 5 1 [.int .u8 (k : Int)] rfl) (by simp [Value.oneCell']) (by omega) (by decide) ?_; intro a7 c7 w7 hrf7 hg7 hbl7 hfr7; have HR7 := Lib.hid hrf7; have HB7 := Lib.hid hbl7; have HF7 := Lib.hid hfr7; have hq1 := (HQ.out.frN hfr7).q1; clear hrf7 hg7 hbl7 hfr7)
          | (refine RF.store HR7.out (i := 1) rfl rfl 3 (.tmp 41) (.tmp 40) rfl k rfl _ rfl rfl rfl (by kernel_rfl) (by simp [clsPad_len _ hk]; omega) ?_; intro w8 hrf8 hg8 hbl8 hfr8; have HR8 := Lib.hid hrf8; have HB8 := Lib.hid hbl8; have HF8 := Lib.hid hfr8; clear hrf8 hg8 hbl8 hfr8))
        go_roundg (256 - (k + 1))
        case measure => omega
        case rel =>
          have e1 : letsTo (usedB ps) (k + 1) = letsTo (usedB ps) k ++ [(k : Int)] := by rw [letsTo_succ, if_pos HU.out]
          have e2 : ((ln : Int) + 1) = ((letsTo (usedB ps) (k + 1)).length : Int) := by
            have h := HLN.out
            rw [List.length_map] at h
            rw [e1, List.length_append, List.length_singleton]; omega
          refine ⟨k + 1, a7, ln + 1, c7, by omega, rfl, by go_num, rfl, ?_, (HTN.out.frN HF7.out).frN HF8.out, (HQ.out.frN HF7.out).frN HF8.out, (HBL.out.trans HB7.out).trans HB8.out, (HZ.out.frN HF7.out).frN HF8.out⟩
          rw [← clsPad_used hlt HU.out, ← e2, e1]
          have h := HR8.out
          rw [show vi ((clsPad (usedB ps) k).set k ((ln : Int) + 1)) = (vi (clsPad (usedB ps) k)).set k (.int .i64 ((ln : Int) + 1)) from List.map_set, show vu (letsTo (usedB ps) k ++ [(k : Int)]) = vu (letsTo (usedB ps) k) ++ [.int .u8 (k : Int)] from List.map_append]
          exact h
    · have hk2 : k = 256 := by omega
      subst hk2
      have HR0 : Hid (RF B N wr [some (3, .slice (some ⟨g, 0, none⟩) W.length c, vi (eqsL ps W)), some (3, .slice (some ⟨gc, 0, none⟩) 256 256, vi (litC ps)), some (5, .slice la ln lc, vu (litL ps)), some (24, .slice none 0 0, []), some (4, .slice none 0 0, [])]) := Lib.hid (by
        have h := HR.out
        rw [clsPad_end] at h; exact h)
      have HLN : Hid (ln = (litL ps).length) := Lib.hid (by have h := HR.out.len (i := 2) rfl; rw [List.length_map] at h; exact h)
      have hln : ln ≤ 256 := by have h := HLN.out; have h2 := letsTo_len (usedB ps) 256; unfold litL at h; omega
      have hWp : 0 < W.length := hd_len HW.out.hd
      have hWl : W.length ≤ 256 := HWL.out
      have ht1 := HTN.out.c1
      clear HR hlt hk
      go_wp2_with (first
        | (at_make; refine RF.makeLC HR0.out EIG rfl rfl _ _ rfl _ _ _ _ 1 W.length rfl rfl rfl rfl (by omega) (by omega) (by omega) ?_; intro w5 hrf5 hb5 hsz5; have HR5 := Lib.hid hrf5; have HB5 := Lib.hid hb5; clear hrf5 hb5 hsz5)
        | (at_make; refine RF.makeLC HR5.out EIG rfl rfl _ _ rfl _ _ _ _ 1 W.length rfl rfl rfl rfl (by omega) (by omega) (by omega) ?_; intro w6 hrf6 hb6 hsz6; have HR6 := Lib.hid hrf6; have HB6 := Lib.hid hb6; clear hrf6 hb6 hsz6)
        | (at_make; refine RF.makeLC HR6.out EIG rfl rfl _ _ rfl _ _ _ _ 0 W.length rfl rfl rfl rfl (by omega) (by omega) (by omega) ?_; intro w7 hrf7 hb7 hsz7; have HR7 := Lib.hid hrf7; have HB7 := Lib.hid hb7; clear hrf7 hb7 hsz7))
      have HB567 : Hid (Below wr.heap.size wr w7) := Lib.hid (bthen (bthen HB5.out HB6.out) HB7.out)
      obtain ⟨gn, hgn⟩ : ∃ gn, gn = wr.heap.size := ⟨_, rfl⟩
      obtain ⟨gf, hgf⟩ : ∃ gf, gf = w5.heap.size := ⟨_, rfl⟩
      obtain ⟨gh, hgh⟩ : ∃ gh, gh = w6.heap.size := ⟨_, rfl⟩
      rw [← hgn, ← hgf, ← hgh] at HR7 ⊢
      have HTN7 := Lib.hid (HTN.out.below HB567.out)
      have HQ7 := Lib.hid (HQ.out.below HB567.out)
      have HZ7 := Lib.hid (HZ.out.below HB567.out)
      have HBL7 := Lib.hid (bow HBL.out (by have := HB1.out.size; have := HBW.out; omega) (HB567.out.mono HBL.out.size))
      clear ht1 HR5 HR6 HR0 HTN HQ HZ HBL HB5 HB6 HB7 HB567 hgn hgf hgh
      go_loopg [9, 10, 11, 12] W.length (fun gg nv fv hv sv wr => ∃ (k n gn cn gf cf gh ch : Nat) (ax aa : Option Addr) (cx ca : Nat) (S : List (List Int)) (F : List Int) (R : List (List Int)) (H : List Int) (xs : List Value) (rs : List (Option Rw)),
        gg = W.length - k ∧ sv = .int .i64 k ∧ nv = .slice (some ⟨gn, 0, none⟩) n cn ∧ fv = .slice (some ⟨gf, 0, none⟩) n cf ∧ hv = .slice (some ⟨gh, 0, none⟩) k ch ∧ n = S.length ∧ St W (litL ps) ps k S F R H ∧ Rows8 xs rs R k (ln + 1) ∧
        RF B N wr (some (3, .slice (some ⟨g, 0, none⟩) W.length c, vi (eqsL ps W)) :: some (3, .slice (some ⟨gc, 0, none⟩) 256 256, vi (litC ps)) :: some (5, .slice la ln lc, vu (litL ps)) :: some (24, .slice ax k cx, xs) :: some (4, .slice aa k ca, H.map fun h => .bool (decide (0 < h))) ::
          some (3, .slice (some ⟨gn, 0, none⟩) n cn, vi (S.map fun x => (W.idxOf x : Int))) :: some (3, .slice (some ⟨gf, 0, none⟩) n cf, vi F) :: some (3, .slice (some ⟨gh, 0, none⟩) k ch, vi H) :: rs) ∧
        TN N wr bt bm (.slice (some ⟨g, 0, none⟩) W.length c) W (usedB ps) ∧ QN N wr bq (.slice (some ⟨gc, 0, none⟩) 256 256) (.slice ax k cx) (.slice aa k ca) ∧ QN N wr w.heap.size (.slice none 0 0) (.slice none 0 0) (.slice none 0 0) ∧ Below B w1 wr)
      case atStart =>
        refine ⟨0, 1, gn, W.length, gf, W.length, gh, W.length, none, none, 0, 0, [[]], [0], [], [], [], [], rfl, rfl, rfl, rfl, rfl, rfl, St.start HW.out.closed, ⟨rfl, rfl, fun i hi => by omega⟩, ?_, HTN7.out, HQ7.out, HZ7.out, HBL7.out⟩
        have h0 := HW.out.hd
        have h1 := idx_getD HW.out.nodup (hd_len h0)
        rw [getD_any (hd_len h0) [] [0], h0] at h1
        have h := HR7.out
        simp only [List.cons_append, List.nil_append] at h
        simp only [vi, List.map_cons, List.map_nil, h1]
        exact h
      case round =>
        clear HTN7 HQ7 HZ7 HBL7 HR7
        obtain ⟨k, n, gn, cn, gf, cf, gh, ch, ax, aa, cx, ca, S, F, R, H, xs, rs, rfl, rfl, rfl, rfl, rfl, hn, hst, hrows, hrf, htn, hqn, hzn, hbl⟩ := hrel
        have HS := Lib.hid hst
        have HRS := Lib.hid hrows
        have HR := Lib.hid hrf
        have HTN := Lib.hid htn
        have HQ := Lib.hid hqn
        have HZ := Lib.hid hzn
        have HBL := Lib.hid hbl
        have HNN := Lib.hid hn
        have hnW : n ≤ W.length := by rw [hn]; exact nodup_sub_len (sorted_nodup hst.bfs.srt) hst.bfs.mem
        have hkn := hst.bfs.kle
        rw [← hn] at hkn
        clear hst hrows hrf htn hqn hzn hbl hn
        by_cases hlt : k < n
        · have hkS : k < S.length := by rw [← HNN.out]; exact hlt
          obtain ⟨u, hu⟩ : ∃ u, u = S.getD k [] := ⟨_, rfl⟩
          have huW : u ∈ W := by rw [hu]; exact HS.out.bfs.mem _ (getD_mem' hkS)
          have hcn : wr.cell? ⟨gn, k, none⟩ = some (.int .i64 (W.idxOf u : Nat)) := HR.out.cell (i := 5) rfl (by
            rw [List.getElem?_map, List.getElem?_map, List.getElem?_eq_getElem hkS, hu]; simp [List.getD, hkS])
          have HU := Lib.hid hu
          have HUW := Lib.hid huW
          obtain ⟨henter, hfk⟩ := HS.out.enter HW.out.closed hkS
          have HEN := Lib.hid henter
          have HFK := Lib.hid hfk
          clear hu huW henter hfk
          have hkn2 : (k : Int) < (n : Int) := by omega
          go_upto_if 69 with (at_make; refine RF.make HR.out EIG rfl rfl _ _ rfl _ _ _ _ (ln + 1) rfl rfl (by omega) (by omega) (by omega) (by omega) ?_; intro w5 hrf5 hb5 hsz5; have HR5 := Lib.hid hrf5; have HB5 := Lib.hid hb5; clear hrf5 hb5 hsz5)
          obtain ⟨gr, hgr⟩ : ∃ gr, gr = wr.heap.size := ⟨_, rfl⟩
          rw [← hgr] at HR5 ⊢
          have HTN5 := Lib.hid (HTN.out.below HB5.out)
          have HQ5 := Lib.hid (HQ.out.below HB5.out)
          have HZ5 := Lib.hid (HZ.out.below HB5.out)
          have HBB : Hid (B ≤ w1.heap.size) := Lib.hid (by have := HB1.out.size; have := HBW.out; omega)
          have HBL5 : Hid (Below B w1 w5) := Lib.hid (bow HBL.out HBB.out (HB5.out.mono HBL.out.size))
          obtain ⟨row, hrow⟩ : ∃ row, row = baseRow (litL ps) k F R := ⟨_, rfl⟩
          have HROW := Lib.hid hrow
          have HRL : Hid (row.length = ln + 1) := Lib.hid (by rw [hrow, HLN.out]; exact HEN.out.wl)
          rw [← hrow] at HEN
          clear hcn HTN HQ HZ HBL hgr hrow
          go_cut [] (fun wc => RF B N wc (some (3, .slice (some ⟨g, 0, none⟩) W.length c, vi (eqsL ps W)) :: some (3, .slice (some ⟨gc, 0, none⟩) 256 256, vi (litC ps)) :: some (5, .slice la ln lc, vu (litL ps)) :: some (24, .slice ax k cx, xs) :: some (4, .slice aa k ca, H.map fun h => .bool (decide (0 < h))) ::
              some (3, .slice (some ⟨gn, 0, none⟩) n cn, vi (S.map fun x => (W.idxOf x : Int))) :: some (3, .slice (some ⟨gf, 0, none⟩) n cf, vi F) :: some (3, .slice (some ⟨gh, 0, none⟩) k ch, vi H) :: (rs ++ [some (3, .slice (some ⟨gr, 0, none⟩) (ln + 1) (ln + 1), vi row)])) ∧ Below B w5 wc ∧ Fr (fun b => ¬ N b) w5 wc)
          case first =>
            by_cases hk0 : k = 0
            · subst hk0
              have HE0 : Hid (vi row = List.replicate (ln + 1) (.int .i64 0)) := Lib.hid (by
                rw [HROW.out]; unfold baseRow vi; rw [if_pos rfl, List.map_replicate, HLN.out])
              go_wp2
              go_meet
              rw [HE0.out]
              exact ⟨HR5.out, Below.refl _ _, Fr.refl _ _⟩
            · have hkp : (0 : Int) < (k : Int) := by omega
              have hq2 := HQ5.out.q2
              have hfk := HFK.out (by omega)
              obtain ⟨fk, hfke⟩ : ∃ fk : Nat, F.getD k 0 = (fk : Int) := by
                have h := HS.out.fv k (by rw [← HNN.out]; exact hlt)
                exact ⟨_, h⟩
              rw [hfke, Int.toNat_natCast] at hfk
              have hfl := HS.out.fl
              rw [← HNN.out] at hfl
              have hcf : w5.cell? ⟨gf, k, none⟩ = some (.int .i64 (fk : Int)) := HR5.out.cell (i := 6) rfl (by
                rw [List.getElem?_map, List.getElem?_eq_getElem (show k < F.length by omega)]
                simp only [Option.map_some]
                rw [← hfke]; simp [List.getD, show k < F.length by omega])
              obtain ⟨gk, ck, hx1, hx2⟩ := HRS.out.2.2 fk hfk
              obtain ⟨gx, rfl⟩ := HR5.out.addr (i := 3) rfl (by rw [HRS.out.1]; omega)
              have hcx : w5.cell? ⟨gx, fk, none⟩ = some (.slice (some ⟨gk, 0, none⟩) (ln + 1) ck) := HR5.out.cell (i := 3) rfl hx1
              have hfkk : (fk : Int) < (k : Int) := by omega
              have HRK : Hid (vi row = vi (R.getD fk [])) := Lib.hid (by rw [HROW.out]; unfold baseRow; rw [if_neg hk0, hfke, Int.toNat_natCast])
              have HAK := Lib.hid (at8i (x0 := some (3, .slice (some ⟨g, 0, none⟩) W.length c, vi (eqsL ps W))) (x1 := some (3, .slice (some ⟨gc, 0, none⟩) 256 256, vi (litC ps))) (x2 := some (5, .slice la ln lc, vu (litL ps))) (x3 := some (24, .slice (some ⟨gx, 0, none⟩) k cx, xs)) (x4 := some (4, .slice aa k ca, H.map fun h => .bool (decide (0 < h)))) (x5 := some (3, .slice (some ⟨gn, 0, none⟩) n cn, vi (S.map fun x => (W.idxOf x : Int)))) (x6 := some (3, .slice (some ⟨gf, 0, none⟩) n cf, vi F)) (x7 := some (3, .slice (some ⟨gh, 0, none⟩) k ch, vi H)) (r := some (3, .slice (some ⟨gr, 0, none⟩) (ln + 1) (ln + 1), List.replicate (ln + 1) (.int .i64 0))) hx2)
              have HSRC : Hid (RdG w5.drew 1 (some ⟨gk, 0, none⟩) (ln + 1) (vi (R.getD fk []))) := Lib.hid (by
                have h := HR5.out.own _ _ _ _ HAK.out
                have h2 := HR5.out.len HAK.out
                rw [← h2] at h
                exact (Row.rdG h).drew)
              clear hx1 hx2 hfk hfl hfke
              go_wp2
              go_region_law (refine RF.copy (i := k + 8) (HR5.out.below (Below.drew (Below.refl _ _))) (at8 HRS.out.2.1) rfl (.tmp 70) (.tmp 78) 24 24 rfl EIG rfl ⟨gk, 0, none⟩ (ln + 1) _ _ rfl HSRC.out (by intro v hv; obtain ⟨x, _, rfl⟩ := List.mem_map.1 hv; rfl) rfl ?_; intro w6 hrf6 hg6 hb6 hfr6)
              all_goals
                have HR6 := Lib.hid hrf6
                have HB6 := Lib.hid hb6
                have HF6 := Lib.hid hfr6
                clear hrf6 hb6 hfr6 hg6
                go_wp2
                go_meet
                rw [HRK.out]
                have hrf6 := HR6.out
                simp only [List.cons_append, List.nil_append] at hrf6
                rw [set8 HRS.out.2.1] at hrf6
                exact ⟨hrf6, (Below.drew (Below.refl _ _)).trans HB6.out, (Fr.drew (Fr.refl _ _)).trans HF6.out⟩
          case rest =>
            obtain ⟨hrfc, hbc, hfrc⟩ := hcut
            have HRC := Lib.hid hrfc
            have HTNC := Lib.hid (HTN5.out.frN hfrc)
            have HQC := Lib.hid (HQ5.out.frN hfrc)
            have HZC := Lib.hid (HZ5.out.frN hfrc)
            have HBLC := Lib.hid (HBL5.out.trans hbc)
            have HNN2 := Lib.hid HNN.out
            clear hrfc hbc hfrc HTN5 HQ5 HZ5 HBL5 HR5
            go_wp2
            go_loopg [9, 10, 82] ln (fun gg nv fv jv wr => ∃ (j n gn cn gf cf : Nat) (S : List (List Int)) (F row : List Int), j ≤ ln ∧ gg = ln - j ∧ jv = .int .i64 j ∧ nv = .slice (some ⟨gn, 0, none⟩) n cn ∧ fv = .slice (some ⟨gf, 0, none⟩) n cf ∧ n = S.length ∧ n ≤ W.length ∧ k < n ∧ In W (litL ps) ps k j S u F R H row ∧
              RF B N wr (some (3, .slice (some ⟨g, 0, none⟩) W.length c, vi (eqsL ps W)) :: some (3, .slice (some ⟨gc, 0, none⟩) 256 256, vi (litC ps)) :: some (5, .slice la ln lc, vu (litL ps)) :: some (24, .slice ax k cx, xs) :: some (4, .slice aa k ca, H.map fun h => .bool (decide (0 < h))) ::
              some (3, .slice (some ⟨gn, 0, none⟩) n cn, vi (S.map fun x => (W.idxOf x : Int))) :: some (3, .slice (some ⟨gf, 0, none⟩) n cf, vi F) :: some (3, .slice (some ⟨gh, 0, none⟩) k ch, vi H) :: (rs ++ [some (3, .slice (some ⟨gr, 0, none⟩) (ln + 1) (ln + 1), vi row)])) ∧
              TN N wr bt bm (.slice (some ⟨g, 0, none⟩) W.length c) W (usedB ps) ∧ QN N wr bq (.slice (some ⟨gc, 0, none⟩) 256 256) (.slice ax k cx) (.slice aa k ca) ∧ QN N wr w.heap.size (.slice none 0 0) (.slice none 0 0) (.slice none 0 0) ∧ Below B w1 wr)
            case atStart =>
              refine ⟨0, n, gn, cn, gf, cf, S, F, row, by omega, rfl, rfl, rfl, rfl, HNN2.out, hnW, hlt, ?_, HRC.out, HTNC.out, HQC.out, HZC.out, HBLC.out⟩
              rw [HU.out]; exact HEN.out
            case round =>
              clear HRC HTNC HQC HZC HBLC HEN HFK HROW HRL HS HNN2 HNN HU
              clear hkn2 hkn hnW hlt hkS
              obtain ⟨j, n, gn, cn, gf, cf, S, F, row, hj, rfl, rfl, rfl, rfl, hnS, hnW, hkn, hin, hrf, htn, hqn, hzn, hbl⟩ := hrel
              have HI := Lib.hid hin
              have HR := Lib.hid hrf
              have HTN := Lib.hid htn
              have HQ := Lib.hid hqn
              have HZ := Lib.hid hzn
              have HBL := Lib.hid hbl
              have HNN := Lib.hid hnS
              clear hin hrf htn hqn hzn hbl hnS
              by_cases hlt : j < ln
              · have hjL : j < (litL ps).length := by rw [← HLN.out]; exact hlt
                have hjn : (j : Int) < (ln : Int) := by omega
                obtain ⟨b, hbe, hb256⟩ : ∃ b : Nat, (litL ps).getD j 0 = (b : Int) ∧ b < 256 := by
                  obtain ⟨m, h1, _, h3⟩ := mem_letsTo.1 (getD_mem' (l := letsTo (usedB ps) 256) (d := 0) hjL)
                  exact ⟨m, h3, h1⟩
                obtain ⟨gl, rfl⟩ := HR.out.addr (i := 2) rfl (by rw [List.length_map]; omega)
                have hcl : wr.cell? ⟨gl, j, none⟩ = some (.int .u8 (b : Int)) := HR.out.cell (i := 2) rfl (by
                  rw [List.getElem?_map, List.getElem?_eq_getElem hjL]
                  simp only [Option.map_some]
                  rw [← hbe]; simp [List.getD, hjL])
                have ht0 := HTN.out.c0
                have HBE := Lib.hid hbe
                have HUI := Lib.hid (mem_getD (d := []) HUW.out)
                obtain ⟨xw, hxw⟩ : ∃ xw, xw = u ++ [(litL ps).getD j 0] := ⟨_, rfl⟩
                have HXW : Hid (W.getD (W.idxOf u) [] ++ [(b : Int)] = xw) := Lib.hid (by rw [hxw, HUI.out.2, HBE.out])
                have HXE := Lib.hid hxw
                have HJL := Lib.hid hjL
                clear hxw hjL
                clear hbe
                by_cases hm : xw ∈ W
                · have HM := Lib.hid hm
                  clear hm
                  have HWI := Lib.hid (List.idxOf_lt_length_of_mem HM.out)
                  obtain ⟨x, hx⟩ : ∃ x, x = row.getD (j + 1) 0 := ⟨_, rfl⟩
                  have HX := Lib.hid hx
                  have hrl : row.length = ln + 1 := by rw [HLN.out]; exact HI.out.wl
                  have h9 : j + 1 < row.length := by omega
                  have HRX : Hid ((vi row)[j + 1]? = some (.int .i64 x)) := Lib.hid (by
                    rw [hx, List.getElem?_map, List.getElem?_eq_getElem h9]
                    simp [List.getD, h9])
                  have HRL : Hid (j + 1 < (vi row).length) := Lib.hid (by rw [List.length_map]; omega)
                  have hjn1 : (j : Int) + 1 < (ln : Int) + 1 := by omega
                  have hnI : (n : Int) ≤ 256 := by omega
                  clear hx hrl h9
                  go_wp2_with (first
                    | (at_lookup; refine look_hit rfl _ _ rfl HTN.out.map rfl (W.idxOf u) (b : Int) rfl HUI.out.1 (by omega) (by omega) (by omega) _ HXW.out HM.out ?_)
                    | (at_builtin; refine RF.append HR.out (i := 5) rfl n (HR.out.len (i := 5) rfl) (below_alloc wr _) (.tmp 99) (.tmp 101) EIG rfl rfl rfl _ 1 _ [.int .i64 (W.idxOf xw : Nat)] rfl (RdG.lits wr 1 3 1 [.int .i64 (W.idxOf xw : Nat)] rfl) (by simp [Value.oneCell']) (by omega) (by decide) ?_; intro a6 c6 w6 hrf6 hg6 hbl6 hfr6; have HR6 := Lib.hid hrf6; have HB6 := Lib.hid hbl6; have HF6 := Lib.hid hfr6; have hcr := hrf6.cell (i := k + 8) (at8 HRS.out.2.1) HRX.out; clear hrf6 hg6 hbl6 hfr6)
                    | (at_builtin; refine RF.append HR6.out (i := 6) rfl n (HR6.out.len (i := 6) rfl) (below_alloc w6 _) (.tmp 103) (.tmp 109) EIG rfl rfl rfl _ 1 _ [.int .i64 x] rfl (RdG.lits w6 1 3 1 [.int .i64 x] rfl) (by simp [Value.oneCell']) (by omega) (by decide) ?_; intro a7 c7 w7 hrf7 hg7 hbl7 hfr7; have HR7 := Lib.hid hrf7; have HB7 := Lib.hid hbl7; have HF7 := Lib.hid hfr7; clear hrf7 hg7 hbl7 hfr7)
                    | (refine RF.store HR7.out (i := k + 8) (at8 HRS.out.2.1) rfl 3 (.tmp 117) (.tmp 116) rfl (j + 1) rfl (.int .i64 (n : Int)) (by first | rfl | (show Value.int _ _ = Value.int _ _; congr 1; omega)) rfl rfl (by kernel_rfl) HRL.out ?_; intro w8 hrf8 hg8 hbl8 hfr8; have HR8 := Lib.hid hrf8; have HB8 := Lib.hid hbl8; have HF8 := Lib.hid hfr8; clear hrf8 hg8 hbl8 hfr8))
                  obtain ⟨gn', rfl⟩ := HR6.out.addr (i := 5) rfl (by simp)
                  obtain ⟨gf', rfl⟩ := HR7.out.addr (i := 6) rfl (by simp)
                  go_roundg (ln - (j + 1))
                  case measure => omega
                  case rel =>
                    have hh : In W (litL ps) ps k (j + 1) _ u _ R H _ := HI.out.hit (L := litL ps) (letsTo_sorted _ _) HJL.out (by rw [← HXE.out]; exact HM.out)
                    rw [← HXE.out, ← HX.out, ← HNN.out] at hh
                    have hlen : n + 1 = (S ++ [xw]).length := by rw [List.length_append, ← HNN.out]; rfl
                    refine ⟨j + 1, n + 1, gn', c6, gf', c7, S ++ [xw], F ++ [x], row.set (j + 1) (n : Int), by omega, rfl, by go_num, rfl, rfl, hlen, ?_, by omega, hh, ?_, ((HTN.out.frN HF6.out).frN HF7.out).frN HF8.out, ((HQ.out.frN HF6.out).frN HF7.out).frN HF8.out, ((HZ.out.frN HF6.out).frN HF7.out).frN HF8.out, ((HBL.out.trans HB6.out).trans HB7.out).trans HB8.out⟩
                    · rw [hlen]; exact nodup_sub_len (sorted_nodup hh.bfs.srt) hh.bfs.mem
                    · have h := HR8.out
                      rw [show vi (row.set (j + 1) (n : Int)) = (vi row).set (j + 1) (.int .i64 (n : Int)) from List.map_set, show vi (F ++ [x]) = vi F ++ [.int .i64 x] from List.map_append]
                      rw [show vi ((S ++ [xw]).map fun x => (W.idxOf x : Int)) = vi (S.map fun x => (W.idxOf x : Int)) ++ [.int .i64 (W.idxOf xw : Int)] by simp [vi]]
                      rw [← set8 HRS.out.2.1]
                      exact h
                · have HM := Lib.hid hm
                  clear hm
                  go_wp2_with (at_lookup; refine look_miss rfl _ _ rfl HTN.out.map rfl (W.idxOf u) (b : Int) rfl HUI.out.1 (by omega) (by omega) (by omega) _ HXW.out HM.out ?_)
                  go_roundg (ln - (j + 1))
                  case measure => omega
                  case rel => exact ⟨j + 1, n, gn, cn, gf, cf, S, F, row, by omega, rfl, by go_num, rfl, rfl, HNN.out, hnW, hkn, HI.out.miss HJL.out (by rw [← HXE.out]; exact HM.out), HR.out, HTN.out, HQ.out, HZ.out, HBL.out⟩
              · have hjl : j = ln := by omega
                subst hjl
                have HIL : Hid (In W (litL ps) ps k (litL ps).length S u F R H row) := Lib.hid (by rw [← HLN.out]; exact HI.out)
                have hq2 := HQ.out.q2
                have hxl := HRS.out.1
                have HXL := Lib.hid hxl
                clear hxl
                go_upto_region 31 with (at_builtin; refine RF.append HR.out (i := 3) rfl k HXL.out.symm (below_alloc wr _) (.tmp 120) (.tmp 122) ESI rfl rfl rfl _ 1 _ [.slice (some ⟨gr, 0, none⟩) (j + 1) (j + 1)] rfl (RdG.lits wr 1 24 1 [.slice (some ⟨gr, 0, none⟩) (j + 1) (j + 1)] rfl) (by simp [Value.oneCell']) (by omega) (by decide) ?_; intro a6 c6 w6 hrf6 hg6 hbl6 hfr6; have HR6 := Lib.hid hrf6; have HB6 := Lib.hid hbl6; have HF6 := Lib.hid hfr6; have hq62 := (HQ.out.frN hfr6).q2; have hqf6 := (HQ.out.frN hfr6).fz 2; clear hrf6 hg6 hbl6 hfr6)
                obtain ⟨w7, hw7⟩ : ∃ w7, w7 = w6.setCell ⟨bq, 2, none⟩ (.slice a6 (k + 1) c6) := ⟨_, rfl⟩
                have HR7 : Hid (RF B N w7 _) := Lib.hid (by rw [hw7]; exact HR6.out.cells (fr_setN HQ.out.nq))
                have HQ7 : Hid (QN N w7 bq _ _ _) := Lib.hid (by rw [hw7]; exact (HQ.out.frN HF6.out).set2 (.slice a6 (k + 1) c6))
                have HZ7 : Hid (QN N w7 w.heap.size _ _ _) := Lib.hid (by rw [hw7]; exact (HZ.out.frN HF6.out).setq HNE.out.2.2.1 _ _)
                have HTN7 : Hid (TN N w7 bt bm _ W (usedB ps)) := Lib.hid (by rw [hw7]; exact (HTN.out.frN HF6.out).setq HNE.out.1 HNE.out.2.1 _ _)
                have HB7 : Hid (Below B w1 w7) := Lib.hid (by rw [hw7]; exact (HBL.out.trans HB6.out).setCell HNE.out.2.2.2 _)
                rw [← hw7]
                clear hw7 HR6 HQ HZ HTN HBL hq62 hqf6 hq2
                have ht1 := HTN7.out.c1
                have HUI := Lib.hid (mem_getD (d := []) HUW.out)
                have hce : w7.cell? ⟨g, W.idxOf u, none⟩ = some (.int .i64 (eqs ps u : Nat)) := HR7.out.cell (i := 0) rfl (by rw [List.getElem?_map, eqsL_get HUW.out]; rfl)
                have hui : ((W.idxOf u : Nat) : Int) < (W.length : Nat) := by have := HUI.out.1; omega
                obtain ⟨ct, hct⟩ : ∃ ct : Int, ct = (eqs ps u : Int) + (if k = 0 then 0 else H.getD (F.getD k 0).toNat 0) := ⟨_, rfl⟩
                have HCT := Lib.hid hct
                clear hct
                go_upto_if 133 with fail
                go_cut [19] (fun s19 wc => w7 = wc ∧ s19 = .int .i64 ct)
                case first =>
                  by_cases hk0 : k = 0
                  · have HC0 : Hid (ct = (eqs ps u : Int)) := Lib.hid (by rw [HCT.out, if_pos hk0]; omega)
                    subst hk0
                    go_wp2
                    go_meet
                    exact ⟨rfl, by rw [HC0.out]⟩
                  · have hkp : (0 : Int) < (k : Int) := by omega
                    have hfk := HIL.out.fall (by omega)
                    obtain ⟨fk, hfke⟩ : ∃ fk : Nat, F.getD k 0 = (fk : Int) := by
                      have h := HIL.out.fv k (by rw [← HNN.out]; exact hkn)
                      exact ⟨_, h⟩
                    have HC1 : Hid (ct = (eqs ps u : Int) + H.getD fk 0) := Lib.hid (by rw [HCT.out, if_neg hk0, hfke, Int.toNat_natCast])
                    rw [hfke, Int.toNat_natCast] at hfk
                    have hfl := HIL.out.fl
                    rw [← HNN.out] at hfl
                    have hhl := HIL.out.hl
                    have hcf : w7.cell? ⟨gf, k, none⟩ = some (.int .i64 (fk : Int)) := HR7.out.cell (i := 6) rfl (by
                      rw [List.getElem?_map, List.getElem?_eq_getElem (show k < F.length by omega)]
                      simp only [Option.map_some]
                      rw [← hfke]; simp [List.getD, show k < F.length by omega])
                    have hh2 := HIL.out.hv fk hfk
                    have hch : w7.cell? ⟨gh, fk, none⟩ = some (.int .i64 (H.getD fk 0)) := HR7.out.cell (i := 7) rfl (by
                      rw [List.getElem?_map, List.getElem?_eq_getElem (show fk < H.length by omega)]
                      simp [List.getD, show fk < H.length by omega])
                    have hb1 := eqs_le ps u
                    have hb2 := cnt_le ps (S.getD fk [])
                    have hb3 := HPS.out
                    have hwr : IntKind.i64.wrap ((eqs ps u : Int) + H.getD fk 0) = (eqs ps u : Int) + H.getD fk 0 := IntWalk.i64_in _ (by omega)
                    have hfkk : (fk : Int) < (k : Int) := by omega
                    have hkn3 : (k : Int) < (n : Int) := by omega
                    clear hfk hfke hfl hhl hh2 hb1 hb2 hb3
                    generalize H.getD fk 0 = hq at *
                    go_wp2
                    go_meet
                    exact ⟨rfl, by rw [HC1.out]⟩
                case rest =>
                  obtain ⟨hwc, hs19⟩ := hcut
                  subst hwc
                  subst hs19
                  have HHL : Hid (k = (vi H).length) := Lib.hid (by rw [List.length_map]; exact HIL.out.hl.symm)
                  have HAL : Hid (k = (H.map fun h => Value.bool (decide (0 < h))).length) := Lib.hid (by rw [List.length_map]; exact HIL.out.hl.symm)
                  go_wp2_with (first
                    | (at_builtin; refine RF.append HR7.out (i := 7) rfl k HHL.out (below_alloc w7 _) (.tmp 143) (.tmp 145) EIG rfl rfl rfl _ 1 _ [.int .i64 ct] rfl (RdG.lits w7 1 3 1 [.int .i64 ct] rfl) (by simp [Value.oneCell']) (by omega) (by decide) ?_; intro a8 c8 w8 hrf8 hg8 hbl8 hfr8; have HR8 := Lib.hid hrf8; have HB8 := Lib.hid hbl8; have HF8 := Lib.hid hfr8; have hq83 := (HQ7.out.frN hfr8).q3; clear hrf8 hg8 hbl8 hfr8)
                    | (at_builtin; refine RF.append HR8.out (i := 4) rfl k HAL.out (below_alloc w8 _) (.tmp 148) (.tmp 151) EBG rfl rfl rfl _ 1 _ [.bool (decide (0 < ct))] rfl (RdG.lits w8 1 4 1 [.bool (decide (0 < ct))] rfl) (by simp [Value.oneCell']) (by omega) (by decide) ?_; intro a9 c9 w9 hrf9 hg9 hbl9 hfr9; have HR9 := Lib.hid hrf9; have HB9 := Lib.hid hbl9; have HF9 := Lib.hid hfr9; have hq93 := ((HQ7.out.frN HF8.out).frN hfr9).q3; have hqf9 := ((HQ7.out.frN HF8.out).frN hfr9).fz 3; clear hrf9 hg9 hbl9 hfr9))
                  obtain ⟨w10, hw10⟩ : ∃ w10, w10 = w9.setCell ⟨bq, 3, none⟩ (.slice a9 (k + 1) c9) := ⟨_, rfl⟩
                  have HR10 : Hid (RF B N w10 _) := Lib.hid (by rw [hw10]; exact HR9.out.cells (fr_setN HQ7.out.nq))
                  have HQ10 : Hid (QN N w10 bq _ _ _) := Lib.hid (by rw [hw10]; exact ((HQ7.out.frN HF8.out).frN HF9.out).set3 (.slice a9 (k + 1) c9))
                  have HZ10 : Hid (QN N w10 w.heap.size _ _ _) := Lib.hid (by rw [hw10]; exact ((HZ7.out.frN HF8.out).frN HF9.out).setq HNE.out.2.2.1 _ _)
                  have HTN10 : Hid (TN N w10 bt bm _ W (usedB ps)) := Lib.hid (by rw [hw10]; exact ((HTN7.out.frN HF8.out).frN HF9.out).setq HNE.out.1 HNE.out.2.1 _ _)
                  have HB10 : Hid (Below B w1 w10) := Lib.hid (by rw [hw10]; exact ((HB7.out.trans HB8.out).trans HB9.out).setCell HNE.out.2.2.2 _)
                  rw [← hw10]
                  obtain ⟨gh', rfl⟩ := HR10.out.addr (i := 7) rfl (by simp)
                  clear hw10 HR9 HR8 HR7 HQ7 HZ7 HTN7 HB7 hq83 hq93 hqf9
                  go_roundg (W.length - (k + 1))
                  case measure => omega
                  case rel =>
                    have hrl := HIL.out.rl
                    refine ⟨k + 1, n, gn, cn, gf, cf, gh', c8, a6, a9, c6, c9, S, F, R ++ [row], H ++ [ct], xs ++ [.slice (some ⟨gr, 0, none⟩) (j + 1) (j + 1)], rs ++ [some (3, .slice (some ⟨gr, 0, none⟩) (j + 1) (j + 1), vi row)], rfl, by go_num, rfl, rfl, rfl, HNN.out, ?_, HRS.out.push hrl _ _ _, ?_, HTN10.out, HQ10.out, HZ10.out, HB10.out⟩
                    · refine HIL.out.leave HW.out.closed (fun p hp => (HW.out.mem p).2 (.inr ⟨p, hp, List.prefix_refl p⟩)) (fun v b hv => ?_) ct HCT.out
                      refine lit_letter HBY.out (u := v) ?_
                      exact (mem_prefs ps _).2 ((HW.out.mem _).1 hv)
                    · have h := HR10.out
                      rw [show vi (H ++ [ct]) = vi H ++ [.int .i64 ct] from List.map_append, show ((H ++ [ct]).map fun h => Value.bool (decide (0 < h))) = (H.map fun h => Value.bool (decide (0 < h))) ++ [.bool (decide (0 < ct))] from List.map_append]
                      exact h
        · have hkn3 : n = k := by omega
          subst hkn3
          have hfin : S = prefs ps ∧ R = litN ps ∧ H = litH ps := by
            have h := HS.out
            rw [HNN.out] at h
            exact h.final HW.out
          have HFIN := Lib.hid hfin
          have hrng := HQ.out.range
          have hth : wr.there w.heap.size 0 4 := HZ.out.there
          have HNE3 : Hid (w.heap.size < w1.heap.size) := Lib.hid (by rw [HW1.out]; simp)
          clear hfin
          go_wp2_with (first
            | (refine wpList_load_mid rfl 28 _ rfl bq 0 rfl _ _ hrng Try.underlying28 rfl mach_info ?_; clear hrng)
            | (refine wpList_store_mid rfl 28 _ _ rfl w.heap.size 0 #[.int .i64 0, .slice (some ⟨gc, 0, none⟩) 256 256, .slice ax n cx, .slice aa n ca] rfl rfl hth mach_info (by simp [Value.oneCell']) ?_; clear hth))
          (try simp only [Exit.inBlock, Exit.then])
          obtain ⟨w9, hw9⟩ : ∃ w9, w9 = wr.setCells w.heap.size 0 [.int .i64 0, .slice (some ⟨gc, 0, none⟩) 256 256, .slice ax n cx, .slice aa n ca] := ⟨_, rfl⟩
          rw [← hw9]
          have hres : w9.rangeAt w.heap.size 0 [.int .i64 0, .slice (some ⟨gc, 0, none⟩) 256 256, .slice ax n cx, .slice aa n ca] := by
            rw [hw9]; exact World.rangeAt_setCells_same _ _ _ _ HZ.out.there
          have hfr9 : Fr (fun i => i = w.heap.size) wr w9 := by rw [hw9]; exact fr_setCells _ _ _
          have hR9 := HR.out.cells (hfr9.mono (T := N) fun i hi => hi ▸ HZ.out.nq)
          have hload := run_loadVar_mid (P := Try.prog) w9 w.heap.size 0 28 _ _ hres Try.underlying28 rfl mach_info
          refine bodyPost_ret (v := .tuple #[.agg #[.int .i64 0, .slice (some ⟨gc, 0, none⟩) 256 256, .slice ax n cx, .slice aa n ca], .slice (some ⟨gh, 0, none⟩) n ch]) ?_ rfl ?_
          · rw [results_cell_tmp rfl]
            simp [asAddr, Result.andThen, hload]
          · obtain ⟨rfl, rfl, rfl⟩ := HFIN.out
            have hn : n = (prefs ps).length := HNN.out
            subst hn
            have hpl : (prefs ps).length ≤ 256 := by omega
            refine ⟨some ⟨gc, 0, none⟩, ax, cx, aa, ca, some ⟨gh, 0, none⟩, ch, rfl, fun w10 hf10 => ?_, ?_⟩
            have hR10 := hR9.fr hf10 (fun i e v xs g hi hg hlt => by have := (hR9.lt hi hg).2; omega)
            refine ⟨⟨?_, ?_, ?_⟩, ?_⟩
            · refine hR10.rd (i := 1) rfl fun x hx => ?_
              have h1 := cls_bd (usedB ps) 256 x hx
              have h2 := letsTo_len (usedB ps) 256
              obtain ⟨m, hm⟩ := Int.eq_ofNat_of_zero_le h1.1
              rw [hm]; exact wf_nat (by omega)
            · refine ⟨litN_len ps, by omega, fun i hi => ?_⟩
              obtain ⟨g1, c1, hx1, hx2⟩ := HRS.out.2.2 i hi
              obtain ⟨gx, rfl⟩ := hR10.addr (i := 3) rfl (by rw [HRS.out.1]; omega)
              refine ⟨gx, 0, some ⟨g1, 0, none⟩, ln + 1, c1, rfl, ?_, ?_, ?_⟩
              · rw [Nat.zero_add]; exact hR10.cell (i := 3) rfl hx1
              · refine hR10.rd (i := i + 8) (e := 3) (c := c1) (by show rs[i]? = _; exact hx2) fun x hx => ?_
                have h1 := (litN_row (ps := ps) _ (getD_mem' (by rw [litN_len]; exact hi))).2 x hx
                obtain ⟨m, hm⟩ := Int.eq_ofNat_of_zero_le h1.1
                rw [hm]; exact wf_nat (by omega)
              · exact hR10.cap (i := i + 8) (e := 3) (xs := vi ((litN ps).getD i [])) (by show rs[i]? = _; exact hx2)
            · refine ⟨litA_len ps, by omega, fun i hi => ?_⟩
              have hlh : ((litH ps).map fun h => Value.bool (decide (0 < h))).length = (prefs ps).length := by rw [List.length_map, litH_len]
              obtain ⟨ga, rfl⟩ := hR10.addr (i := 4) rfl (by rw [hlh]; omega)
              refine ⟨ga, 0, rfl, ?_⟩
              rw [Nat.zero_add]
              refine hR10.cell (i := 4) rfl ?_
              unfold litH litA
              simp [List.getD, hi]
            · refine hR10.rd (i := 7) rfl fun x hx => ?_
              unfold litH at hx
              obtain ⟨y, _, rfl⟩ := List.mem_map.1 hx
              exact wf_nat (by have := cnt_le ps y; have := HPS.out; omega)
            · exact ((HB1.out.mono HBW.out).trans HBL.out).trans (hfr9.below (fun i hi => by rw [hi]; exact HBW.out) (by have := HBL.out.size; have := HB1.out.size; have := HBW.out; omega))

end Go.Proofs.Ytfhoaehoccfadaa
