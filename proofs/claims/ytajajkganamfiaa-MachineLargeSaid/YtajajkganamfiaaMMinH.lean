/-
  The canonical machine is valid and goes as the old one: a map of states that steps and accepts alike.
-/
import Derived.Test.YtajajkganamfiaaMMinW
namespace Go.Proofs.Ytajajkganamfiaa
open Go.RowKit
set_option linter.unusedVariables false
set_option linter.unusedSimpArgs false

/-- all that minimize knows of its answer -/
structure MinF (st : Nat) (cls : List Int) (next : List (List Int)) (acc : List Bool) (b first states fs clsv cols ord : List Nat) (W R : List (List Nat)) (accs : List Bool) : Prop where
  v : Valid st cls next acc
  rc : RcI next st (dd (nats cls)) states states.length
  ne : first ≠ []
  pt : Part (fun q => acc.getD q false) states (fun q => b.getD q 0) first
  stb : Stable (nxN next) (dd (nats cls)) states (fun q => b.getD q 0)
  ri : RI (fun x => colk next b first ((nats cls).getD x 0)) (List.range 256) 256 256 fs clsv W
  co : cols = fs.map (fun x => (nats cls).getD x 0)
  oi : OI next b first cols st ord.length ord R
  ac : accs = ord.map (fun B => acc.getD (first.getD B 0) false)

section
variable {st : Nat} {cls : List Int} {next : List (List Int)} {acc : List Bool} {b first states fs clsv cols ord : List Nat} {W R : List (List Nat)} {accs : List Bool}

theorem MinF.letter (h : MinF st cls next acc b first states fs clsv cols ord W R accs) {x : Nat} (hx : x < 256) : (nats cls).getD x 0 ∈ nats cls := by
  have hl : x < (nats cls).length := by simp [nats, h.v.clsL]; exact hx
  rw [List.getD_eq_getElem?_getD, List.getElem?_eq_getElem hl]
  exact List.getElem_mem hl

/-- the column of a letter -/
theorem MinF.col (h : MinF st cls next acc b first states fs clsv cols ord W R accs) {x : Nat} (hx : x < 256) :
    ∃ c0, clsv.getD x 0 < cols.length ∧ cols[clsv.getD x 0]? = some c0 ∧ c0 ∈ cols ∧ ∀ q ∈ first, b.getD (nxN next q c0) 0 = b.getD (nxN next q ((nats cls).getD x 0)) 0 := by
  have hri := h.ri
  have hm : (colk next b first ((nats cls).getD x 0)) ∈ W := by
    rw [hri.w, dd_mem, List.take_of_length_le (by simp)]
    exact List.mem_map.2 ⟨x, List.mem_range.2 hx, rfl⟩
  have hv := hri.val x (by rw [List.take_of_length_le (by simp)]; exact List.mem_range.2 hx)
  have hlt := idx_lt hm
  have hWl : W.length = fs.length := by rw [← hri.map, List.length_map]
  rw [hv]
  have hk : ix W (colk next b first ((nats cls).getD x 0)) < fs.length := by omega
  have hg := idx_get hm
  have hw2 : W[ix W (colk next b first ((nats cls).getD x 0))]'hlt = colk next b first ((nats cls).getD (fs[ix W (colk next b first ((nats cls).getD x 0))]'hk) 0) := by
    have e : ∀ (L : List (List Nat)) (hL : W = L) (i : Nat) (hi : i < W.length), W[i] = L[i]'(by rw [← hL]; exact hi) := fun L hL i hi => by subst hL; rfl
    rw [e _ hri.map.symm]
    simp
  rw [hw2] at hg
  refine ⟨(nats cls).getD (fs[ix W (colk next b first ((nats cls).getD x 0))]'hk) 0, by rw [h.co, List.length_map]; exact hk, ?_, ?_, fun q hq => ?_⟩
  · rw [h.co, List.getElem?_map, List.getElem?_eq_getElem hk]; rfl
  · rw [h.co]; exact List.mem_map.2 ⟨_, List.getElem_mem hk, rfl⟩
  · unfold colk at hg
    exact (List.map_inj_left.1 hg) q hq

/-- one letter -/
theorem MinF.step (h : MinF st cls next acc b first states fs clsv cols ord W R accs) {q : Nat} (hq : q ∈ states) (hB : b.getD q 0 ∈ ord) {x : Nat} (hx : x < 256) :
    nxN next q ((nats cls).getD x 0) ∈ states ∧ b.getD (nxN next q ((nats cls).getD x 0)) 0 ∈ ord ∧
    ix ord (b.getD q 0) < ord.length ∧ (R.getD (ix ord (b.getD q 0)) []).getD (clsv.getD x 0) 0 = ix ord (b.getD (nxN next q ((nats cls).getD x 0)) 0) := by
  obtain ⟨c0, hcl, hc0, hcm, hcol⟩ := h.col hx
  have hj := idx_lt hB
  have hat : ord[ix ord (b.getD q 0)]? = some (b.getD q 0) := by rw [List.getElem?_eq_getElem hj, idx_get hB]
  obtain ⟨k1, k2⟩ := h.oi.row _ _ hj hat
  have hBl : b.getD q 0 < first.length := h.oi.lt _ hB
  have hrep := h.pt.rep _ hBl
  have hfg : first.getD (b.getD q 0) 0 = first[b.getD q 0] := by rw [List.getD_eq_getElem?_getD, List.getElem?_eq_getElem hBl]; rfl
  have hq1 : first.getD (b.getD q 0) 0 ∈ states ∧ b.getD (first.getD (b.getD q 0) 0) 0 = b.getD q 0 := by rw [hfg]; exact hrep
  have hfm : first.getD (b.getD q 0) 0 ∈ first := by rw [hfg]; exact List.getElem_mem hBl
  have hxm := h.letter hx
  have hst := h.stb _ q hq1.1 hq hq1.2 ((nats cls).getD x 0) (by rw [dd_mem]; exact hxm)
  simp only at hst
  have hns : nxN next q ((nats cls).getD x 0) ∈ states := by
    obtain ⟨i, hi, e⟩ := List.getElem_of_mem hq
    exact h.rc.cl i q hi (by rw [List.getElem?_eq_getElem hi, e]) _ (by rw [dd_mem]; exact hxm)
  have hval : b.getD (nxN next (first.getD (b.getD q 0) 0) c0) 0 = b.getD (nxN next q ((nats cls).getD x 0)) 0 := by rw [hcol _ hfm, hst]
  refine ⟨hns, by rw [← hval]; exact k2 c0 hcm, hj, ?_⟩
  rw [show R.getD (ix ord (b.getD q 0)) [] = cols.map fun c => ix ord (b.getD (nxN next (first.getD (b.getD q 0) 0) c) 0) by rw [List.getD_eq_getElem?_getD, k1]; rfl]
  rw [List.getD_eq_getElem?_getD, List.getElem?_map, hc0]
  show ix ord _ = _
  rw [hval]

/-- what is accepted -/
theorem MinF.accept (h : MinF st cls next acc b first states fs clsv cols ord W R accs) {q : Nat} (hq : q ∈ states) (hB : b.getD q 0 ∈ ord) : accs.getD (ix ord (b.getD q 0)) false = acc.getD q false := by
  have hj := idx_lt hB
  have hBl : b.getD q 0 < first.length := h.oi.lt _ hB
  have hrep := h.pt.rep _ hBl
  have hfg : first.getD (b.getD q 0) 0 = first[b.getD q 0] := by rw [List.getD_eq_getElem?_getD, List.getElem?_eq_getElem hBl]; rfl
  rw [h.ac, List.getD_eq_getElem?_getD, List.getElem?_map, List.getElem?_eq_getElem hj, idx_get hB]
  show acc.getD (first.getD (b.getD q 0) 0) false = _
  have := h.pt.acc (first.getD (b.getD q 0) 0) q (by rw [hfg]; exact hrep.1) hq (by rw [hfg]; exact hrep.2)
  exact this

theorem MinF.start (h : MinF st cls next acc b first states fs clsv cols ord W R accs) : st ∈ states ∧ b.getD st 0 ∈ ord ∧ ix ord (b.getD st 0) = 0 := by
  have h0 := h.oi.st
  have hl := (List.getElem?_eq_some_iff.1 h0).1
  have e := (List.getElem?_eq_some_iff.1 h0).2
  refine ⟨h.rc.st, e ▸ List.getElem_mem hl, ?_⟩
  rw [← e]
  exact idx_at h.oi.nd hl

theorem MinF.valid (h : MinF st cls next acc b first states fs clsv cols ord W R accs) (hn : next.length ≤ 256) : Valid 0 (nints clsv) (R.map nints) accs := by
  have hrl := h.oi.rl
  have hol : 0 < ord.length := (List.getElem?_eq_some_iff.1 h.oi.st).1
  have hfl : first.length ≤ 256 := by
    have h1 := h.pt.len
    have h2 := nodup_lt (n := next.length) h.rc.nd h.rc.lt
    omega
  have hor : ord.length ≤ first.length := nodup_lt h.oi.nd h.oi.lt
  have hrow : ∀ (j : Nat) (r : List Nat), R[j]? = some r → r.length = cols.length ∧ ∀ u ∈ r, u < ord.length := fun j r hr => by
    have hj : j < ord.length := by rw [← hrl]; exact (List.getElem?_eq_some_iff.1 hr).1
    obtain ⟨k1, k2⟩ := h.oi.row j ord[j] hj (List.getElem?_eq_getElem hj)
    rw [hr] at k1
    rw [Option.some.inj k1]
    refine ⟨by simp, fun u hu => ?_⟩
    obtain ⟨c, hc, rfl⟩ := List.mem_map.1 hu
    exact idx_lt (k2 c hc)
  obtain ⟨r0, hr0⟩ : ∃ r0, R[0]? = some r0 := ⟨_, List.getElem?_eq_getElem (by omega)⟩
  have hncls : ncls (R.map nints) = cols.length := by
    unfold ncls
    rw [List.getD_eq_getElem?_getD, List.getElem?_map, hr0]
    simp [(hrow 0 r0 hr0).1]
  have hcl : cols.length ≤ 256 := by
    rw [h.co, List.length_map]
    have h1 := dd_len (((List.range 256).take 256).map (fun x => colk next b first ((nats cls).getD x 0)))
    rw [← h.ri.w, ← h.ri.map, List.length_map, List.length_map, List.length_take] at h1
    simp at h1; omega
  refine ⟨by simp [h.ri.nl], by rw [h.ac]; simp [hrl], by omega, by simp [hrl]; omega, ?_, by rw [hncls]; exact hcl, by simp [hrl]; omega, fun row hr => ?_, fun q hq => ?_⟩
  · rw [hncls]
    obtain ⟨c0, h1, _⟩ := h.col (x := 0) (by omega)
    omega
  · obtain ⟨r, hr2, rfl⟩ := List.mem_map.1 hr
    obtain ⟨j, hj, e⟩ := List.getElem_of_mem hr2
    obtain ⟨h1, h2⟩ := hrow j r (by rw [List.getElem?_eq_getElem hj, e])
    refine ⟨by rw [hncls]; simp [h1], fun q hq => ?_⟩
    obtain ⟨u, hu, rfl⟩ := List.mem_map.1 hq
    have := h2 u hu
    simp [hrl]; omega
  · obtain ⟨u, hu, rfl⟩ := List.mem_map.1 hq
    obtain ⟨j, hj, e⟩ := List.getElem_of_mem hu
    have hj2 : j < 256 := by rw [← h.ri.nl]; exact hj
    obtain ⟨c0, h1, _⟩ := h.col hj2
    rw [show clsv.getD j 0 = u by simp [List.getD, List.getElem?_eq_getElem hj, e]] at h1
    rw [hncls]; omega
end

/-- what minimize leaves, read as a machine that goes as the old one -/
theorem MinPost.f {st : Nat} {cls : List Int} {next : List (List Int)} {acc : List Bool} {w w' : World} {e : Ending} (hv : Valid st cls next acc) (h : MinPost st cls next acc w e w') :
    ∃ (b first states fs clsv cols ord : List Nat) (W R : List (List Nat)) (accs : List Bool) (ac : Option Addr) (cc : Nat) (an : Option Addr) (cn : Nat) (aa : Option Addr) (ca : Nat),
      MinF st cls next acc b first states fs clsv cols ord W R accs ∧ e = .returned (.agg #[.int .i64 0, .slice ac 256 cc, .slice an ord.length cn, .slice aa ord.length ca]) ∧
      (∀ wg, Fr (fun x => x < w.heap.size) w' wg → RdM wg ac 256 an ord.length aa ord.length (nints clsv) (R.map nints) accs) ∧ Below w.heap.size w w' := by
  obtain ⟨b, first, states, h1, h2, h3, h4, ac, cc, an, nn, cn, aa, ca, fs, clsv, cols, ord, W, R, accs, he, hr, k1, k2, k3, k4, rfl, hb⟩ := h
  exact ⟨b, first, states, fs, clsv, cols, ord, W, R, accs, ac, cc, an, cn, aa, ca, ⟨hv, h1, h2, h3, h4, k1, k2, k3, k4⟩, he, hr, hb⟩

end Go.Proofs.Ytajajkganamfiaa
