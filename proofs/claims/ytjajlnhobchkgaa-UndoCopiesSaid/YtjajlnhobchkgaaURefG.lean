/-
  the reference of chapter 39: Goto.
-/
import Derived.Test.YtjajlnhobchkgaaURef
import Derived.Deep.RegionLaw
namespace Go.Proofs.Ytjajlnhobchkgaa
open Go.RowKit
set_option linter.unusedVariables false
set_option linter.unusedSimpArgs false

theorem goL_take (us : List Nat) (L : List Int) {i : Nat} (hi : i + 1 < us.length) : goL (us.take (i + 2)) L = (goL (us.take (i + 1)) L).set (us.getD i 0) ((us.getD (i + 1) 0 : Nat) : Int) := by
  rw [show us.take (i + 2) = us.take i ++ [us.getD i 0] ++ [us.getD (i + 1) 0] by
    rw [getD_take_snoc (d := 0) (show i + 1 < us.length from hi), getD_take_snoc (d := 0) (show i < us.length by omega)]]
  rw [goL_snoc, getD_take_snoc (d := 0) (show i < us.length by omega)]

theorem Own.icell {w : World} {base g n c : Nat} {l : List Int} (h : Own w base 3 .i64 (.slice (some ⟨g, 0, none⟩) n c) l) {j : Nat} (hj : j < l.length) : w.cell? ⟨g, j, none⟩ = some (.int .i64 (l.getD j 0)) := by
  have h0 : Row w base 3 1 (.slice (some ⟨g, 0, none⟩) n c) l.length (l.map (Value.int .i64)) := h
  have hn : n = l.length := by
    rcases h0.2 with ⟨hv, hn⟩ | ⟨g', cap, cur, hv, _⟩
    · cases hv
    · simp only [Value.slice.injEq] at hv; exact hv.2.1
  subst hn
  rw [World.ownsRow.cellAt h0 j (by simpa using hj), List.getElem?_map]
  simp [List.getD, hj]
theorem Own.ifz {w : World} {base g n c : Nat} {l : List Int} (h : Own w base 3 .i64 (.slice (some ⟨g, 0, none⟩) n c) l) (j : Nat) : w.frozen? ⟨g, j, none⟩ = false := by
  have h0 : Row w base 3 1 (.slice (some ⟨g, 0, none⟩) n c) l.length (l.map (Value.int .i64)) := h
  have hn : n = l.length := by
    rcases h0.2 with ⟨hv, hn⟩ | ⟨g', cap, cur, hv, _⟩
    · cases hv
    · simp only [Value.slice.injEq] at hv; exact hv.2.1
  subst hn
  exact World.ownsRow.frozenAt h0 j
/-- a store, as a cell that is set -/
theorem Own.iset {w : World} {base g n c : Nat} {l : List Int} (h : Own w base 3 .i64 (.slice (some ⟨g, 0, none⟩) n c) l) (j : Nat) (u : Int) : Own (w.setCell ⟨g, j, none⟩ (.int .i64 u)) base 3 .i64 (.slice (some ⟨g, 0, none⟩) n c) (l.set j u) := by
  have h0 : Row w base 3 1 (.slice (some ⟨g, 0, none⟩) n c) l.length (l.map (Value.int .i64)) := h
  have hn : n = l.length := by
    rcases h0.2 with ⟨hv, hn⟩ | ⟨g', cap, cur, hv, _⟩
    · cases hv
    · simp only [Value.slice.injEq] at hv; exact hv.2.1
  subst hn
  have hs := (World.ownsRow.stored h0 j (.int .i64 u)).1
  show Row _ base 3 1 _ (l.set j u).length ((l.set j u).map (Value.int .i64))
  rw [List.length_set, List.map_set]
  exact hs
/-- a row of integers of the call's own has its address -/
theorem Own.gaddr {w : World} {base n c : Nat} {a : Option Addr} {l : List Int} (h : Own w base 3 .i64 (.slice a n c) l) (hl : 0 < l.length) : ∃ g, a = some ⟨g, 0, none⟩ ∧ base ≤ g ∧ g < w.heap.size := by
  have h0 : Row w base 3 1 (.slice a n c) l.length (l.map (Value.int .i64)) := h
  rcases h0.2 with ⟨hv, hn⟩ | ⟨g', cap, cur, hv, _⟩
  · omega
  · simp only [Value.slice.injEq] at hv
    obtain ⟨rfl, _, _⟩ := hv
    exact ⟨g', rfl, (Row.block_lt h0 (g := g') rfl).2, (Row.block_lt h0 (g := g') rfl).1⟩

theorem goL_one {us : List Nat} {L : List Int} (h : 0 < us.length) : goL (us.take (0 + 1)) L = L := by
  cases us with
  | nil => simp at h
  | cons a r => simp [goL]

/-- a tree of the reference, four cells -/
structure CT (w : World) (g : Nat) (v0 v1 v2 : Value) (k : Int) : Prop where
  c0 : w.cell? ⟨g, 0, none⟩ = some v0
  c1 : w.cell? ⟨g, 1, none⟩ = some v1
  c2 : w.cell? ⟨g, 2, none⟩ = some v2
  c3 : w.cell? ⟨g, 3, none⟩ = some (.int .i64 k)
  fz : ∀ j, w.frozen? ⟨g, j, none⟩ = false
theorem CT.fr {w w' : World} {F : Nat → Prop} {g v0 v1 v2 k} (h : CT w g v0 v1 v2 k) (hf : Fr F w w') (hF : ¬ F g) : CT w' g v0 v1 v2 k :=
  ⟨hf.cell h.c0 hF, hf.cell h.c1 hF, hf.cell h.c2 hF, hf.cell h.c3 hF, fun j => (hf.frozen (x := ⟨g, j, none⟩) (show g < _ from World.block_lt_of_cell? w _ h.c0) hF).trans (h.fz j)⟩
theorem CT.below {w w' : World} {g v0 v1 v2 k} (h : CT w g v0 v1 v2 k) (hb : Below w.heap.size w w') : CT w' g v0 v1 v2 k := h.fr (F := fun _ => False) (.of_below hb) (fun h => h)
theorem CT.set2 {w : World} {g v0 v1 v2 k} (h : CT w g v0 v1 v2 k) (v : Value) : CT (w.setCell ⟨g, 2, none⟩ v) g v0 v1 v k :=
  ⟨set_other (by simp) h.c0, set_other (by simp) h.c1, set_same h.c2, set_other (by simp) h.c3, fun j => (World.frozen?_setCell ..).trans (h.fz j)⟩
theorem CT.set3 {w : World} {g v0 v1 v2 k} (h : CT w g v0 v1 v2 k) (k' : Int) : CT (w.setCell ⟨g, 3, none⟩ (.int .i64 k')) g v0 v1 v2 k' :=
  ⟨set_other (by simp) h.c0, set_other (by simp) h.c1, set_other (by simp) h.c2, set_same h.c3, fun j => (World.frozen?_setCell ..).trans (h.fz j)⟩

/-- Goto's answer: the same texts and parents, the preferred children of the path -/
def RGoPost (v0 v1 : Value) (N : Nat) (L : List Int) (k : Int) (w : World) (e : Ending) (w' : World) : Prop :=
  ∃ fa fc, e = .returned (.agg #[v0, v1, .slice fa N fc, .int .i64 k]) ∧ Own w' w.heap.size 3 .i64 (.slice fa N fc) L ∧ L.length = N ∧ Below w.heap.size w w'

set_option maxRecDepth 100000 in
set_option maxHeartbeats 2000000 in
theorem rgoto_any (ta pa fa : Option Addr) (tn tc pc fc : Nat) (now : Int) (l : List Nd) (L : List Int) (v : Nat) (us : List Nat) (w : World) (hp : IsPath l v us) (hw : WfT l) (hv : v < l.length) (hlen : l.length ≤ 1000)
    (hr : Rd w .i64 pa l.length (l.map (·.parent))) (hrf : Rd w .i64 fa l.length L) :
    Calls Try.prog 39 #[.agg #[.slice ta tn tc, .slice pa l.length pc, .slice fa l.length fc, .int .i64 now], .int .i64 v] w (RGoPost (.slice ta tn tc) (.slice pa l.length pc) l.length (goL us L) v w) := by
  have HU1 : Hid (0 < us.length ∧ us.length ≤ 1000 ∧ ∀ u ∈ us, u < l.length) := Lib.hid (by
    obtain ⟨f1, f2, f3, f4, f5⟩ := hp.facts hw
    have hx : l[v]? = some (l[v]'hv) := List.getElem?_eq_getElem hv
    have h5 := f5 _ hx
    have h6 := hw.dep v _ hx
    exact ⟨f1, by omega, fun u hu => by have := hp.le u hu; omega⟩)
  obtain ⟨w1, hw1⟩ : ∃ w1, w1 = w.alloc (.cells #[.slice ta tn tc, .slice pa l.length pc, .slice fa l.length fc, .int .i64 v] 36) := ⟨_, rfl⟩
  obtain ⟨w2, hw2⟩ : ∃ w2, w2 = w1.alloc (.cells #[.slice none 0 0, .slice none 0 0, .slice none 0 0, .int .i64 0] 36) := ⟨_, rfl⟩
  obtain ⟨b2, hb2⟩ : ∃ b2, b2 = w.heap.size := ⟨_, rfl⟩
  obtain ⟨b4, hb4⟩ : ∃ b4, b4 = w.heap.size + 1 := ⟨_, rfl⟩
  have hs1 : w1.heap.size = w.heap.size + 1 := by rw [hw1]; simp
  have hB1 : Below w.heap.size w w1 := by rw [hw1]; exact below_alloc _ _
  have hB2 : Below w1.heap.size w1 w2 := by rw [hw2]; exact below_alloc _ _
  have HC2 : Hid (CT w2 b2 (.slice ta tn tc) (.slice pa l.length pc) (.slice fa l.length fc) v) := Lib.hid (by
    have h0 : CT w1 b2 (.slice ta tn tc) (.slice pa l.length pc) (.slice fa l.length fc) v := by rw [hw1, hb2]; exact ⟨by simp, by simp, by simp, by simp, fun j => by simp⟩
    exact h0.below hB2)
  have HC4 : Hid (CT w2 b4 (.slice none 0 0) (.slice none 0 0) (.slice none 0 0) 0) := Lib.hid (by
    rw [hw2, hb4, ← hs1]; exact ⟨by simp, by simp, by simp, by simp, fun j => by simp⟩)
  have HB2 := Lib.hid (bthen hB1 hB2)
  have HS2 : Hid (w2.heap.size = w.heap.size + 2) := Lib.hid (by rw [hw2]; simp [hs1])
  have HNB : Hid (b2 = w.heap.size ∧ b4 = w.heap.size + 1) := Lib.hid ⟨hb2, hb4⟩
  have HW1 := Lib.hid hw1
  have HW2 := Lib.hid hw2
  have HB2E := Lib.hid hb2
  have HB4E := Lib.hid hb4
  have HRF := Lib.hid (hrf.below (bthen hB1 hB2))
  have HRP := Lib.hid hr
  have HPATH := Lib.hid (fun (wx : World) (fa2 : Option Addr) (fc2 : Nat) (k : Int) (hb : Below w.heap.size w wx) => rpath_any ta pa fa2 tn tc pc l.length fc2 k l v us wx hp hw hv hlen (hr.below hb))
  obtain ⟨N, hN⟩ : ∃ N, N = l.length := ⟨_, rfl⟩
  have HN := Lib.hid hN
  have hN9 : N ≤ 1000 := by omega
  have hU9 := HU1.out.2.1
  have HN1 : Hid (0 < N) := Lib.hid (by omega)
  rw [← hN] at HC2 HW1 HRF HPATH ⊢
  have HPL : Hid (L.length = N) := Lib.hid (by rw [hrf.len, hN])
  clear hr hrf hp hw hv hlen hs1 hB1 hB2 hw1 hw2 hb2 hb4 hN
  go_enter Try.func39, Try.ntmps39
  go_upto_region 2 with fail
  rw [← HW1.out, ← HW2.out, ← HB4E.out, ← HB2E.out]
  have y2 : ∀ o, (w2.alloc o).cell? ⟨b2, 2, none⟩ = some (.slice fa N fc) := fun o => below_cell (below_alloc w2 o) HC2.out.c2
  go_cut [] (fun wc => ∃ gf cf, CT wc b2 (.slice ta tn tc) (.slice pa N pc) (.slice (some ⟨gf, 0, none⟩) N cf) v ∧ CT wc b4 (.slice none 0 0) (.slice none 0 0) (.slice none 0 0) 0 ∧ Own wc (w.heap.size + 2) 3 .i64 (.slice (some ⟨gf, 0, none⟩) N cf) L ∧ Below w.heap.size w wc ∧ gf < wc.heap.size ∧ w.heap.size + 2 ≤ gf)
  case first =>
    go_wp2_with (at_builtin; refine app_rd (.tmp 9) (.tmp 11) EI rfl rfl w2.heap.size (.slice (some ⟨w2.heap.size, 0, none⟩) 0 0) [] rfl (Own.lits w2 .i64 3 [] _ (Nat.le_refl _) (by simp)) fa N fc L rfl (HRF.out.below (below_alloc _ _)) (by rw [HPL.out]; simp; omega) (by decide) (by simp) ?_; intro a7 c7 w7 ho7 hg7; have hb7 := (below_alloc w2 (.cells #[] 3)).grown hg7 (by simp) (fun x hx => by cases hx; exact Nat.le_refl _); have HB7 := Lib.hid hb7; have HO7 := Lib.hid ho7; have x2 := (HC2.out.below hb7).c2; have xf2 := (HC2.out.below hb7).fz 2; clear ho7 hg7 hb7)
    rw [HPL.out]
    have ho7 : Own w7 (w.heap.size + 2) 3 .i64 (.slice a7 N c7) L := by
      have h := HO7.out
      rw [show (([] : List Int) ++ L).length = N from HPL.out, HS2.out] at h
      exact h
    obtain ⟨gf, rfl, hgf1, hgf2⟩ := Own.gaddr ho7 (by rw [HPL.out]; exact HN1.out)
    have hn := HNB.out
    have hb9 : gf < (w7.setCell ⟨b2, 2, none⟩ (.slice (some ⟨gf, 0, none⟩) N c7)).heap.size := by simpa using hgf2
    have hf9 : Fr (fun b => b = b2) w7 (w7.setCell ⟨b2, 2, none⟩ (.slice (some ⟨gf, 0, none⟩) N c7)) := (Fr.refl (fun b => b = b2) w7).setCell (p := ⟨b2, 2, none⟩) rfl _
    go_meet
    exact ⟨gf, c7, (HC2.out.below HB7.out).set2 (.slice (some ⟨gf, 0, none⟩) N c7), (HC4.out.below HB7.out).fr hf9 (fun e => by omega), Row.fr ho7 hf9 (fun g hg e => by cases hg; have e2 : gf = b2 := e; omega), (HB2.out.trans (HB7.out.mono HB2.out.size)).trans (hf9.below (fun b hb => by omega) (by have := HB7.out.size; have := HB2.out.size; omega)), hb9, hgf1⟩
  case rest =>
    obtain ⟨gf, cf, hc2, hc4, hof, hbel, hgf, hgf2⟩ := hcut
    have HC2c := Lib.hid hc2
    have HC4c := Lib.hid hc4
    have HOF := Lib.hid hof
    have HBEL := Lib.hid hbel
    have HGF := Lib.hid (And.intro hgf hgf2)
    have HP := Lib.hid (HPATH.out wc (some ⟨gf, 0, none⟩) cf v hbel)
    obtain ⟨z0, z1, z2, z3, zf⟩ := hc2
    clear hc4 hof hbel hgf hgf2 y2 zf HC2 HC4 HRF HPATH
    go_wp2_with fail
    refine HP.out.mono ?_
    rintro e w5 ⟨ap, cp, rfl, hop, hb5⟩
    have HC5 := Lib.hid (HC2c.out.below hb5)
    have HC45 := Lib.hid (HC4c.out.below hb5)
    have HOF5 := Lib.hid (HOF.out.below hb5)
    have HOP5 := Lib.hid hop
    have HB5 : Hid (Below w.heap.size w w5) := Lib.hid (HBEL.out.trans (hb5.mono HBEL.out.size))
    clear hop hb5 z0 z1 z2 z3
    go_wp2
    go_loopg [6] (us.length - 1) (fun gg iv wr => ∃ j : Nat, j + 1 ≤ us.length ∧ gg = us.length - (j + 1) ∧ iv = .int .i64 ((j + 1 : Nat) : Int) ∧ CT wr b2 (.slice ta tn tc) (.slice pa N pc) (.slice (some ⟨gf, 0, none⟩) N cf) v ∧ CT wr b4 (.slice none 0 0) (.slice none 0 0) (.slice none 0 0) 0 ∧ Own wr (w.heap.size + 2) 3 .i64 (.slice (some ⟨gf, 0, none⟩) N cf) (goL (us.take (j + 1)) L) ∧ Own wr wc.heap.size 3 .i64 (.slice ap us.length cp) (ints us) ∧ Below w.heap.size w wr)
    case atStart => exact ⟨0, by have := HU1.out.1; omega, rfl, rfl, HC5.out, HC45.out, by rw [goL_one HU1.out.1]; exact HOF5.out, HOP5.out, HB5.out⟩
    case round =>
      obtain ⟨j, hj, rfl, rfl, hc2, hc4, hof, hop, hbel⟩ := hrel
      have HC2 := Lib.hid hc2
      have HC4 := Lib.hid hc4
      have HO := Lib.hid hof
      have HQ := Lib.hid hop
      have HB := Lib.hid hbel
      by_cases hlt : j + 1 < us.length
      · obtain ⟨gp, rfl, hgp, _⟩ := Own.gaddr hop (by rw [ints_len]; omega)
        have e0 := hop.icell (j := j) (by rw [ints_len]; omega)
        have e1 := hop.icell (j := j + 1) (by rw [ints_len]; omega)
        rw [ints_getD] at e0 e1
        have HGP : Hid (gf ≠ gp) := Lib.hid (by have := HGF.out; omega)
        have HU0 : Hid (us.getD j 0 < N) := Lib.hid (by rw [HN.out]; exact HU1.out.2.2 _ (getD_mem (by omega)))
        have HGT := Lib.hid (goL_take us L hlt)
        have hfz := hof.ifz (us.getD j 0)
        have e2 := hof.icell (j := us.getD j 0) (by rw [goL_len, HPL.out]; exact HU0.out)
        generalize (goL (us.take (j + 1)) L).getD (us.getD j 0) 0 = old at *
        generalize us.getD j 0 = u0 at *
        generalize us.getD (j + 1) 0 = u1 at *
        have hu0 := HU0.out
        have huz : (u0 : Int) < (N : Int) := by omega
        have hj1 : (j : Int) + 1 < (us.length : Int) := by omega
        have hj2 : (j : Int) < (us.length : Int) := by omega
        have hj0 : (0 : Int) ≤ (j : Int) := by omega
        have hjn : j < us.length := by omega
        have hwj : IntKind.i64.wrap (j : Int) = (j : Int) := IntWalk.i64_in _ (by omega)
        have hj3 : (0 : Int) ≤ (j : Int) + 1 := by omega
        have htn : ((j : Int) + 1).toNat = j + 1 := by omega
        have HLT := Lib.hid hlt
        have d0 : wr.drew.cell? ⟨gp, j, none⟩ = some (.int .i64 u0) := e0
        have d1 : wr.drew.cell? ⟨gp, j + 1, none⟩ = some (.int .i64 u1) := e1
        have d2 : wr.drew.cell? ⟨b2, 2, none⟩ = some (.slice (some ⟨gf, 0, none⟩) N cf) := hc2.c2
        have d3 : wr.drew.cell? ⟨gf, u0, none⟩ = some (.int .i64 old) := e2
        have dfz : wr.drew.frozen? ⟨gf, u0, none⟩ = false := hfz
        generalize us.length = M at *
        clear hc2 hc4 hof hop hbel hgp e0 e1 e2 hfz
        go_wp2
        go_region_law (fail)
        all_goals
          obtain ⟨w7, hw7⟩ : ∃ w7, w7 = (wr.setCell ⟨gf, u0, none⟩ (.int .i64 u1)).drew := ⟨_, rfl⟩
          have hf7 : Fr (fun b => b = gf) wr w7 := by rw [hw7]; exact ((Fr.refl (fun b => b = gf) wr).setCell (p := ⟨gf, u0, none⟩) rfl _).drew
          have hof7 : Own w7 (w.heap.size + 2) 3 .i64 (.slice (some ⟨gf, 0, none⟩) N cf) ((goL (us.take (j + 1)) L).set u0 (u1 : Int)) := by rw [hw7]; exact Own.drew (Own.iset HO.out u0 u1)
          have HOUT : Hid (CT w7 b2 (.slice ta tn tc) (.slice pa N pc) (.slice (some ⟨gf, 0, none⟩) N cf) v ∧ CT w7 b4 (.slice none 0 0) (.slice none 0 0) (.slice none 0 0) 0 ∧ Own w7 (w.heap.size + 2) 3 .i64 (.slice (some ⟨gf, 0, none⟩) N cf) (goL (us.take (j + 1 + 1)) L) ∧ Own w7 wc.heap.size 3 .i64 (.slice (some ⟨gp, 0, none⟩) M cp) (ints us) ∧ Below w.heap.size w w7) := Lib.hid (by
            have hn := HNB.out
            have hg := HGF.out
            refine ⟨HC2.out.fr hf7 (by omega), HC4.out.fr hf7 (by omega), ?_, Row.fr HQ.out hf7 (fun g hg e => by cases hg; exact HGP.out e.symm), HB.out.trans (hf7.below (fun b hb => by omega) HB.out.size)⟩
            rw [HGT.out]; exact hof7)
          rw [← hw7]
          clear hw7 hf7 hof7 d0 d1 d2 d3 dfz
          go_wp2
          go_roundg (M - (j + 1 + 1))
          case measure => have := HLT.out; omega
          case rel =>
            obtain ⟨o1, o2, o3, o4, o5⟩ := HOUT.out
            exact ⟨j + 1, by have := HLT.out; omega, rfl, by go_num, o1, o2, o3, o4, o5⟩
      · have hjn : j + 1 = us.length := by omega
        have HJN := Lib.hid hjn
        have HTK : Hid (us.take us.length = us) := Lib.hid (List.take_length)
        have hjd : decide ((j : Int) + 1 < (us.length : Int)) = false := decide_eq_false (by omega)
        clear hof hop hbel hlt hj
        obtain ⟨z0, z1, z2, z3, zf⟩ := hc2
        obtain ⟨y0, y1, y2, y3, yf⟩ := hc4
        have yf0 := yf 0
        have yf1 := yf 1
        have yf2 := yf 2
        have yf3 := yf 3
        have HNE : Hid (b2 ≠ b4) := Lib.hid (by have := HNB.out; omega)
        clear yf zf
        generalize us.length = M at *
        go_wp2
        have h4 : ∀ (b : World) (j : Nat) (u : Value), Fr (fun b => b = b4) b (b.setCell ⟨b4, j, none⟩ u) := fun b j u => (Fr.refl (fun b => b = b4) b).setCell (p := ⟨b4, j, none⟩) rfl u
        have hf := (((h4 wr 0 (.slice ta tn tc)).trans (h4 _ 1 (.slice pa N pc))).trans (h4 _ 2 (.slice (some ⟨gf, 0, none⟩) N cf))).trans (h4 _ 3 (.int .i64 v))
        have hn := HNB.out
        have hg := HGF.out
        have hgo := HO.out
        rw [HJN.out, HTK.out] at hgo
        exact bodyPost_ret (v := .agg #[.slice ta tn tc, .slice pa N pc, .slice (some ⟨gf, 0, none⟩) N cf, .int .i64 v]) (by simp [results, Try.results39, go_sem, y0, y1, y2, y3]) rfl ⟨_, cf, rfl, (Row.fr hgo hf (fun g hg e => by cases hg; have e2 : gf = b4 := e; omega)).mono (Nat.le_add_right _ 2), by rw [goL_len, HPL.out], HB.out.trans (hf.below (fun b hb => by omega) HB.out.size)⟩

end Go.Proofs.Ytjajlnhobchkgaa
