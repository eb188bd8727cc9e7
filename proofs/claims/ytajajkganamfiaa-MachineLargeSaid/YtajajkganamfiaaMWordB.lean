/-
  apply: the counts of texts that are longer by one step.
-/
import Derived.Test.YtajajkganamfiaaMWordL
namespace Go.Proofs.Ytajajkganamfiaa
open Go.RowKit
set_option linter.unusedVariables false
set_option linter.unusedSimpArgs false

theorem EU64 : EltG Try.prog 71 72 (.int .u64 0) 1 8 := ⟨Try.underlying71, info_parts (by kernel_rfl), rfl, by decide⟩
abbrev u64v (us : List Nat) : List Value := us.map fun (u : Nat) => Value.int .u64 ((u : Nat) : Int)

/-- steps, to be read: row q holds the states with a count, and the counts -/
structure RdS (w : World) (a : Option Addr) (n : Nat) (M : Nat → Nat → Nat) : Prop where
  cell : ∀ q, q < n → ∃ b off aq cq, a = some ⟨b, off, none⟩ ∧ w.cell? ⟨b, off + q, none⟩ = some (.slice aq (lsf (M q) n).length cq) ∧ RdG w 2 aq (lsf (M q) n).length (cellsS (M q) (lsf (M q) n))
  le : ∀ q p, M q p ≤ capM
theorem RdS.below {w w' : World} {a n M} (h : RdS w a n M) (hb : Below w.heap.size w w') : RdS w' a n M :=
  ⟨fun q hq => by
    obtain ⟨b, off, aq, cq, ha, hc, hr⟩ := h.cell q hq
    exact ⟨b, off, aq, cq, ha, below_cell hb hc, hr.below hb⟩, h.le⟩

/-- a sum over a list -/
def sml (L : List Nat) (g : Nat → Nat) : Nat := (L.map g).foldl (· + ·) 0
theorem sml_snoc (L : List Nat) (p : Nat) (g : Nat → Nat) : sml (L ++ [p]) g = sml L g + g p := by simp [sml, List.foldl_append]
theorem sml_lsf (f v : Nat → Nat) (n : Nat) : sml (lsf f n) (fun p => f p * v p) = sm n (fun p => f p * v p) := by
  induction n with
  | zero => rfl
  | succ n ih =>
    rcases Nat.eq_zero_or_pos (f n) with e | e
    · rw [lsf_out e, sm, ih, e]; omega
    · rw [lsf_in e, sml_snoc, sm, ih]

theorem cellsS_get {f : Nat → Nat} : ∀ {L : List Nat} {j p : Nat}, L[j]? = some p → (cellsS f L)[j * 2]? = some (.int .i64 (p : Int)) ∧ (cellsS f L)[j * 2 + 1]? = some (.int .u64 ((f p : Nat) : Int))
  | x :: r, 0, p, h => by simp at h; subst h; exact ⟨rfl, rfl⟩
  | x :: r, j + 1, p, h => by
    have ih := cellsS_get (f := f) (L := r) (j := j) (p := p) (by simpa using h)
    rw [show (j + 1) * 2 = j * 2 + 1 + 1 by omega]
    exact ih

def ApplyPost (n : Nat) (M : Nat → Nat → Nat) (v : Nat → Nat) (w : World) (e : Ending) (w' : World) : Prop :=
  ∃ a c, e = .returned (.slice a n c) ∧ Row w' w.heap.size 72 1 (.slice a n c) n (u64v ((List.range n).map fun q => cp (mv n M v q))) ∧ Below w.heap.size w w'

set_option maxRecDepth 100000 in
set_option maxHeartbeats 2000000 in
theorem apply_any (sa : Option Addr) (sc n : Nat) (M : Nat → Nat → Nat) (ca : Option Addr) (cc : Nat) (v : Nat → Nat) (w : World) (hs : RdS w sa n M) (hc : RdG w 1 ca n (u64v ((List.range n).map v))) (hv : ∀ p, p < n → v p ≤ capM) (hn : n ≤ 256) :
    Calls Try.prog 36 #[.slice sa n sc, .slice ca n cc] w (ApplyPost n M v w) := by
  have HS := Lib.hid hs
  have HC := Lib.hid (fun (wx : World) (hb : Below w.heap.size w wx) => hc.below hb)
  have HV := Lib.hid hv
  have HN := Lib.hid hn
  have hn9 : (n : Int) ≤ 256 := by omega
  have HRF1 : Hid (RF w.heap.size (fun _ => False) w [some (72, .slice none 0 0, [])]) := Lib.hid (RF.one (World.ownsRow_nil w w.heap.size 72 1) (fun g hg => by cases hg) (fun b hb => hb.elim) (Nat.le_refl _))
  clear hs hc hv hn
  go_enter Try.func36, Try.ntmps36
  go_wp2_with (at_make; refine RF.make HRF1.out EU64 rfl rfl _ _ rfl _ _ _ _ n rfl rfl rfl rfl (by have := HN.out; omega) (by have := HN.out; omega) ?_; intro w2 hrf2 hb2 hsz2; have HRF2 := Lib.hid hrf2; have HB2 := Lib.hid hb2; clear hrf2 hb2 hsz2)
  obtain ⟨g, hg⟩ : ∃ g, g = w.heap.size := ⟨_, rfl⟩
  have HG := Lib.hid hg
  rw [← hg] at HRF2 ⊢
  clear hg
  go_loopw [15] (fun jv wr => ∃ (q : Nat) (us : List Nat), jv = .int .i64 q ∧ q ≤ n ∧ us.length = n ∧ (∀ r, r < q → us.getD r 0 = cp (mv n M v r)) ∧ (∀ r, q ≤ r → us.getD r 0 = 0) ∧ RF g (fun _ => False) wr [some (72, .slice none 0 0, []), some (72, .slice (some ⟨g, 0, none⟩) n n, u64v us)] ∧ Below w.heap.size w wr) (fun jv _ => n - (intOf jv).toNat)
  case atStart => exact ⟨0, List.replicate n 0, rfl, by omega, by simp, fun r hr => by omega, fun r hr => by simp [List.getD, List.getElem?_replicate]; split <;> rfl, by
    have h := HRF2.out
    rw [show u64v (List.replicate n 0) = List.replicate n (.int .u64 0) by simp [u64v]]
    exact h, HB2.out⟩
  case round =>
    obtain ⟨q, us, rfl, hq, hul, hdone, hrest, hrf, hb⟩ := hrel
    have HU := Lib.hid (And.intro hul (And.intro hdone hrest))
    have HRFR := Lib.hid hrf
    have HBR := Lib.hid hb
    by_cases hlt : q < n
    · obtain ⟨b, off, aq, cq, rfl, hcq0, hrq⟩ := HS.out.cell q hlt
      have hcq := below_cell hb hcq0
      have HRQ := Lib.hid hrq
      obtain ⟨L, hL⟩ : ∃ L, L = lsf (M q) n := ⟨_, rfl⟩
      have HL := Lib.hid hL
      have HLL : Hid (L.length ≤ 256) := Lib.hid (by rw [hL]; have := lsf_len (M q) n; have := HN.out; omega)
      rw [← hL] at hcq HRQ
      have hqi : (q : Int) < (n : Int) := by omega
      have hq9 : (q : Int) ≤ 256 := by omega
      have HLT := Lib.hid hlt
      generalize hm : L.length = m at *
      have HM := Lib.hid hm
      clear hlt hL hm hul hdone hrest hrf hb hq hcq0 hrq
      go_wp2
      obtain ⟨wo, hwo⟩ : ∃ wo : World, wo = wr := ⟨_, rfl⟩
      subst hwo
      go_loopw [22] (fun jv wr => ∃ (j : Nat) (us' : List Nat), jv = .int .i64 j ∧ j ≤ m ∧ us'.length = n ∧ us'.getD q 0 = cp (sml (L.take j) (fun p => M q p * v p)) ∧ (∀ r, r ≠ q → us'.getD r 0 = us.getD r 0) ∧ RF g (fun _ => False) wr [some (72, .slice none 0 0, []), some (72, .slice (some ⟨g, 0, none⟩) n n, u64v us')] ∧ Below w.heap.size w wr) (fun jv _ => m - (intOf jv).toNat)
      case atStart => exact ⟨0, us, rfl, by omega, HU.out.1, by rw [HU.out.2.2 q (Nat.le_refl _)]; rfl, fun r hr => rfl, HRFR.out, HBR.out⟩
      case round =>
        obtain ⟨j, us', rfl, hj, hul, hcur, hoth, hrf, hb⟩ := hrel
        have HU2 := Lib.hid (And.intro hul (And.intro hcur hoth))
        have HRFJ := Lib.hid hrf
        have HBJ := Lib.hid hb
        by_cases hlt : j < m
        · obtain ⟨p, hp⟩ : ∃ p, L[j]? = some p := ⟨_, List.getElem?_eq_getElem (by rw [HM.out]; exact hlt)⟩
          have hpn : p < n := by
            have h1 := List.mem_of_getElem? hp
            rw [HL.out] at h1
            exact List.mem_range.1 (List.mem_filter.1 h1).1
          obtain ⟨g1, g2⟩ := cellsS_get (f := M q) hp
          obtain ⟨b2, off2, rfl, k1⟩ := (HRQ.out.below hb).cell _ _ g1
          obtain ⟨b3, off3, e3, k2⟩ := (HRQ.out.below hb).cell _ _ g2
          simp only [Option.some.injEq, Addr.mk.injEq, and_true] at e3
          obtain ⟨rfl, rfl⟩ := e3
          rw [← Nat.add_assoc] at k2
          obtain ⟨y, hy⟩ : ∃ y, y = M q p := ⟨_, rfl⟩
          obtain ⟨z, hz⟩ : ∃ z, z = v p := ⟨_, rfl⟩
          obtain ⟨x, hx⟩ : ∃ x, x = us'.getD q 0 := ⟨_, rfl⟩
          have HY := Lib.hid (And.intro hy (And.intro hz hx))
          have HY9 : Hid (x ≤ capM ∧ y ≤ capM ∧ z ≤ capM) := Lib.hid ⟨by rw [hx, hcur]; exact cp_le _, by rw [hy]; exact HS.out.le q p, by rw [hz]; exact HV.out p hpn⟩
          rw [← hy] at k2
          have HTK := Lib.hid (take_snoc hp)
          have hpi : (p : Int) < (n : Int) := by omega
          have hp9 : (p : Int) ≤ 256 := by omega
          have hji : (j : Int) < (m : Int) := by omega
          have hj9 : (j : Int) ≤ 256 := by have := HLL.out; omega
          have HJ := Lib.hid hlt
          have HPN := Lib.hid hpn
          clear hp hpn g1 g2 hy hz hx hul hcur hoth hrf hb hj hlt
          go_upto_region 8 with fail
          obtain ⟨wq, hwq⟩ : ∃ wq, wq = wr.alloc (.cells #[.int .i64 (p : Int), .int .u64 (y : Int)] 93) := ⟨_, rfl⟩
          have HBQ : Hid (Below wr.heap.size wr wq) := Lib.hid (by rw [hwq]; exact below_alloc _ _)
          have t0 : wq.cell? ⟨wr.heap.size, 0, none⟩ = some (.int .i64 (p : Int)) := by rw [hwq]; simp
          have t1 : wq.cell? ⟨wr.heap.size, 1, none⟩ = some (.int .u64 (y : Int)) := by rw [hwq]; simp
          have HRFQ := Lib.hid ((HRFJ.out.below HBQ.out).below (Below.refl _ wq).drew)
          have hlx : wq.drew.cell? ⟨g, q, none⟩ = some (.int .u64 (x : Int)) := HRFQ.out.cell (i := 1) rfl (show (u64v us')[q]? = _ from by
            have hql : q < us'.length := by rw [HU2.out.1]; exact HLT.out
            rw [List.getElem?_map, List.getElem?_eq_getElem hql, HY.out.2.2]
            simp [List.getD, List.getElem?_eq_getElem hql])
          obtain ⟨cb, co, rfl, hcz⟩ := (HC.out wq (HBJ.out.trans (HBQ.out.mono HBJ.out.size))).cell p (.int .u64 (z : Int)) (by
            rw [List.getElem?_map, List.getElem?_map, List.getElem?_range HPN.out, HY.out.2.1]; rfl)
          rw [← hwq]
          have d0 := below_cell (Below.refl wq.heap.size wq).drew t0
          have d1 := below_cell (Below.refl wq.heap.size wq).drew t1
          have d2 := below_cell (Below.refl wq.heap.size wq).drew hcz
          have hro := HRFQ.out.own 1 _ _ _ rfl
          rw [show (u64v us').length = n by simp [HU2.out.1]] at hro
          have hfz : wq.drew.frozen? ⟨g, q, none⟩ = false := World.ownsRow.frozenAt hro _
          have HRO := Lib.hid hro
          clear hro
          have hfz2 : wq.frozen? ⟨g, q, none⟩ = false := hfz
          have hlx2 : wq.cell? ⟨g, q, none⟩ = some (.int .u64 (x : Int)) := hlx
          have HAD := Lib.hid (add_any x y z HY9.out.1 HY9.out.2.1 HY9.out.2.2 wq.drew)
          have HRFS : Hid (∀ u, RF g (fun _ => False) (wq.drew.setCell ⟨g, q, none⟩ u) [some (72, .slice none 0 0, []), some (72, .slice (some ⟨g, 0, none⟩) n n, (u64v us').set q u)]) := Lib.hid (fun u => by
            have hst := World.ownsRow.stored HRO.out q u
            exact HRFQ.out.turn (i := 1) rfl (by rw [show ((u64v us').set q u).length = n by simp [HU2.out.1]]; exact hst.1) hst.2 (.inl rfl))
          have HBS : Hid (∀ u, Below w.heap.size w (wq.drew.setCell ⟨g, q, none⟩ u)) := Lib.hid (fun u => ((HBJ.out.trans (HBQ.out.mono HBJ.out.size)).drew).grown (World.ownsRow.stored HRO.out q u).2 (by have h1 := HBJ.out.size; have h2 := HBQ.out.size; exact Nat.le_trans h1 h2) (fun k hk => by cases hk; exact Nat.le_of_eq HG.out.symm))
          clear k1 k2 hwq
          go_region_law (first
            | (go_simp; go_at_call 51; refine HAD.out.mono ?_; rintro e w9 ⟨rfl, rfl⟩))
          all_goals
            (try go_wp2)
            go_roundw
            case rel => exact ⟨j + 1, us'.set q (addC x y z), by go_num, HJ.out, by rw [List.length_set]; exact HU2.out.1, by
              rw [getD_set _ _ _ _ (by rw [HU2.out.1]; exact HLT.out), if_pos rfl, addC_eq, HTK.out, sml_snoc, HY.out.2.2, HU2.out.2.1, cp_add, HY.out.1, HY.out.2.1], fun r hr => by
              rw [getD_set _ _ _ _ (by rw [HU2.out.1]; exact HLT.out), if_neg hr]; exact HU2.out.2.2 r hr, by
              have h := HRFS.out (.int .u64 ((addC x y z : Nat) : Int))
              rw [show u64v (us'.set q (addC x y z)) = (u64v us').set q (.int .u64 ((addC x y z : Nat) : Int)) by simp [u64v, List.map_set]]
              exact h, HBS.out _⟩
            case measure => have := HJ.out; simp [intOf]; omega
        · obtain rfl : j = m := by omega
          have hdone : us'.getD q 0 = cp (mv n M v q) := by
            rw [hcur, List.take_of_length_le (by rw [HM.out]; exact Nat.le_refl _), HL.out, sml_lsf]; rfl
          have HDN := Lib.hid hdone
          clear hul hcur hoth hrf hb hj hlt hdone
          go_wp2
          go_roundw
          case rel => exact ⟨q + 1, us', by go_num, HLT.out, HU2.out.1, fun r hr => by
            by_cases e : r = q
            · subst e; exact HDN.out
            · rw [HU2.out.2.2 r e]; exact HU.out.2.1 r (by omega), fun r hr => by rw [HU2.out.2.2 r (by omega)]; exact HU.out.2.2 r (by omega), HRFJ.out, HBJ.out⟩
          case measure => have := HLT.out; simp [intOf]; omega
    · obtain rfl : q = n := by omega
      have hro := hrf.own 1 _ _ _ rfl
      rw [show (u64v us).length = q by simp [hul]] at hro
      have HRO := Lib.hid hro
      clear hul hdone hrest hrf hb hro hlt hq
      go_wp2
      go_ret
      refine ⟨some ⟨g, 0, none⟩, q, rfl, ?_, HBR.out⟩
      have he : us = (List.range q).map fun r => cp (mv q M v r) := by
        apply List.ext_getElem (by simp [HU.out.1])
        intro r h1 h2
        have := HU.out.2.1 r (by rw [← HU.out.1]; exact h1)
        simp only [List.getElem_map, List.getElem_range]
        rw [← this]
        simp [List.getD, List.getElem?_eq_getElem h1]
      rw [← he, ← HG.out]
      exact HRO.out

end Go.Proofs.Ytajajkganamfiaa
