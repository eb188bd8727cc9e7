/-
  machine.product of two cycles: the plain law, and what the walk keeps in memory.
-/
import Derived.Test.YtajajkganamfiaaMPair
import Derived.Test.YtajajkganamfiaaApp0
namespace Go.Proofs.Ytajajkganamfiaa
open Go.RowKit Go.Maps
set_option linter.unusedVariables false
set_option linter.unusedSimpArgs false

/-- the pairs that the search meets -/
def prs (ni nk n : Nat) : List (Nat × Nat) := (List.range n).map fun j => (j % ni, j % nk)
theorem prs_len (ni nk n : Nat) : (prs ni nk n).length = n := by simp [prs]
theorem prs_succ (ni nk n : Nat) : prs ni nk (n + 1) = prs ni nk n ++ [(n % ni, n % nk)] := by simp [prs, List.range_succ]
theorem prs_get {ni nk n j : Nat} (h : j < n) : (prs ni nk n)[j]? = some (j % ni, j % nk) := by simp [prs, h]
theorem mod_eq_dvd {a b m : Nat} (h : a ≤ b) (e : a % m = b % m) : m ∣ b - a := Nat.dvd_of_mod_eq_zero (Nat.sub_mod_eq_zero_of_mod_eq e.symm)
theorem prs_new {ni nk n : Nat} (h : n < Nat.lcm ni nk) : (n % ni, n % nk) ∉ prs ni nk n := by
  intro hm
  obtain ⟨j, hj, e⟩ := List.mem_map.1 hm
  rw [List.mem_range] at hj
  simp only [Prod.mk.injEq] at e
  have h1 := mod_eq_dvd (Nat.le_of_lt hj) e.1
  have h2 := mod_eq_dvd (Nat.le_of_lt hj) e.2
  have h3 := Nat.le_of_dvd (by omega) (Nat.lcm_dvd h1 h2)
  omega
theorem prs_back {ni nk n : Nat} (h0 : 0 < n) (h : n = Nat.lcm ni nk) : (n % ni, n % nk) = (0, 0) ∧ (0, 0) ∈ prs ni nk n ∧ ix (prs ni nk n) (0, 0) = 0 := by
  have h1 : n % ni = 0 := Nat.mod_eq_zero_of_dvd (h ▸ Nat.dvd_lcm_left ni nk)
  have h2 : n % nk = 0 := Nat.mod_eq_zero_of_dvd (h ▸ Nat.dvd_lcm_right ni nk)
  obtain ⟨m, rfl⟩ : ∃ m, n = m + 1 := ⟨n - 1, by omega⟩
  have e : prs ni nk (m + 1) = (0, 0) :: (List.range m).map (fun j => ((j + 1) % ni, (j + 1) % nk)) := by
    simp [prs, List.range_succ_eq_map, Function.comp_def]
  refine ⟨by rw [h1, h2], by rw [e]; simp, by rw [e]; simp [ix]⟩
theorem prs_zero (ni nk : Nat) : prs ni nk 1 = [(0, 0)] := by simp [prs]
theorem prs_pk {ni nk n : Nat} (h : n ≤ 1000) (k : Nat × Nat) (hk : k ∈ prs ni nk n) : PK k := by
  obtain ⟨j, hj, rfl⟩ := List.mem_map.1 hk
  rw [List.mem_range] at hj
  exact ⟨Nat.lt_of_le_of_lt (Nat.mod_le _ _) (by omega), Nat.lt_of_le_of_lt (Nat.mod_le _ _) (by omega)⟩

/-- a family of rows, and beside it rows of another kind that turn -/
theorem RF.side {B N l} {w w' : World} (h : RF B N w l) {v v' : Value} (hv : ∀ g, v.ownBlock = some g → N g) (hg : w.grownBy w' v.ownBlock) (hat : v'.ownBlock = v.ownBlock ∨ v'.ownBlock = some w.heap.size ∨ v'.ownBlock = none)
    (hlt : ∀ g, v'.ownBlock = some g → g < w'.heap.size) {N' : Nat → Prop} (hN' : ∀ b, N' b → N b ∨ v'.ownBlock = some b) : RF B N' w' l := by
  have hf : Fr (fun b => v.ownBlock = some b) w w' := Fr.of_grown hg (fun k hk => hk)
  have h2 := h.fr hf (fun i e u xs g hi hgu hgv => h.av i e u xs g hi hgu (hv g hgv))
  refine ⟨h2.own, h2.ne, fun i e u xs g hi hgu hn => ?_, fun b hb => ?_, h2.bw⟩
  · rcases hN' g hn with hn | hn
    · exact h.av i e u xs g hi hgu hn
    · rcases hat with e2 | e2 | e2
      · exact h.av i e u xs g hi hgu (hv g (by rw [← e2]; exact hn))
      · rw [e2] at hn
        have := (h.lt hi hgu).1
        have := Option.some.inj hn
        omega
      · rw [e2] at hn; cases hn
  · rcases hN' b hb with hb | hb
    · exact Nat.lt_of_lt_of_le (h.nl b hb) hf.size
    · exact hlt b hb
theorem RF.lessN {B N N' w l} (h : RF B N w l) (hN : ∀ b, N' b → N b) : RF B N' w l :=
  ⟨h.own, h.ne, fun i e v xs g hi hg hn => h.av i e v xs g hi hg (hN g hn), fun b hb => h.nl b (hN b hb), h.bw⟩

/-- what stands beside the rows: the machine's block, a map, the columns, the list -/
def SN (bq bm : Nat) (bc : Option Nat) (v : Value) : Nat → Prop := fun b => b = bq ∨ b = bm ∨ bc = some b ∨ v.ownBlock = some b

/-- product's state -/
structure PS (B bq bm : Nat) (bc : Option Nat) (w2 : World) (l : List (Option Rw)) (v1 v2 v3 : Value) (lv : Value) (W V : List (Nat × Nat)) (wr : World) : Prop where
  rf : RF B (SN bq bm bc lv) wr l
  ct : CT wr bq 0 v1 v2 v3
  pp : PP wr bm W
  ro : Row wr B 97 2 lv V.length (pcells V)
  ds : bq ≠ bm ∧ lv.ownBlock ≠ some bq ∧ lv.ownBlock ≠ some bm ∧ B ≤ bq ∧ B ≤ bm
  cc : ∀ b, bc = some b → wr.cell? ⟨b, 0, none⟩ = some (.int .i64 0) ∧ wr.cell? ⟨b, 1, none⟩ = some (.int .i64 0) ∧ b ≠ bq ∧ b ≠ bm ∧ lv.ownBlock ≠ some b ∧ B ≤ b
  be : Below B w2 wr

section
variable {B bq bm : Nat} {bc : Option Nat} {w2 : World} {l : List (Option Rw)} {v1 v2 v3 lv : Value} {W V : List (Nat × Nat)} {wr w' : World}
theorem PS.low (h : PS B bq bm bc w2 l v1 v2 v3 lv W V wr) : B ≤ wr.heap.size := h.rf.bw
theorem PS.below (h : PS B bq bm bc w2 l v1 v2 v3 lv W V wr) (hb : Below wr.heap.size wr w') : PS B bq bm bc w2 l v1 v2 v3 lv W V w' :=
  ⟨h.rf.below hb, h.ct.below hb, h.pp.below hb, Row.below h.ro hb, h.ds, fun b hbc => by
    obtain ⟨c0, c1, r⟩ := h.cc b hbc
    exact ⟨below_cell hb c0, below_cell hb c1, r⟩, h.be.trans (hb.mono h.low)⟩
theorem PS.map (h : PS B bq bm bc w2 l v1 v2 v3 lv W V wr) {W' : List (Nat × Nat)} (hp : PP w' bm W') (hg : wr.grownBy w' (some bm)) : PS B bq bm bc w2 l v1 v2 v3 lv W' V w' := by
  have hf : Fr (fun b => b = bm) wr w' := Fr.of_grown hg (fun k hk => (Option.some.inj hk).symm)
  refine ⟨h.rf.cells (hf.mono (fun b e => .inr (.inl e))), h.ct.fr hf h.ds.1, hp, Row.fr h.ro hf (fun g hg2 e => h.ds.2.2.1 (by rw [hg2, e])), h.ds, fun b hbc => ?_, h.be.trans (hf.below (fun b e => by rw [e]; exact h.ds.2.2.2.2) h.low)⟩
  obtain ⟨c0, c1, d1, d2, d3⟩ := h.cc b hbc
  exact ⟨hf.cell c0 d2, hf.cell c1 d2, d1, d2, d3⟩
theorem PS.list (h : PS B bq bm bc w2 l v1 v2 v3 lv W V wr) {V' : List (Nat × Nat)} {lv' : Value} (hr : Row w' B 97 2 lv' V'.length (pcells V')) (hg : wr.grownBy w' lv.ownBlock) (hat : lv'.ownBlock = lv.ownBlock ∨ lv'.ownBlock = some wr.heap.size) : PS B bq bm bc w2 l v1 v2 v3 lv' W V' w' := by
  have hf : Fr (fun b => lv.ownBlock = some b) wr w' := Fr.of_grown hg (fun k hk => hk)
  have hne : ∀ b, b < wr.heap.size → lv.ownBlock ≠ some b → lv'.ownBlock ≠ some b := fun b hb hn e => by
    rcases hat with e2 | e2
    · exact hn (by rw [← e2]; exact e)
    · rw [e2] at e; have := Option.some.inj e; omega
  refine ⟨h.rf.side (v := lv) (v' := lv') (fun g hg2 => .inr (.inr (.inr hg2))) hg (hat.elim .inl (fun e => .inr (.inl e))) (fun g hg2 => (Row.block_lt hr hg2).1) (fun b hb => ?_), h.ct.fr hf h.ds.2.1, h.pp.fr hf h.ds.2.2.1, hr, ⟨h.ds.1, hne _ h.ct.lt h.ds.2.1, hne _ h.pp.lt h.ds.2.2.1, h.ds.2.2.2⟩, fun b hbc => ?_, h.be.trans (Row.grown h.ro hg h.low)⟩
  · rcases hb with hb | hb | hb | hb
    · exact .inl (.inl hb)
    · exact .inl (.inr (.inl hb))
    · exact .inl (.inr (.inr (.inl hb)))
    · exact .inr hb
  · obtain ⟨c0, c1, d1, d2, d3, d4⟩ := h.cc b hbc
    exact ⟨hf.cell c0 d3, hf.cell c1 d3, d1, d2, hne _ (World.block_lt_of_cell? _ _ c0) d3, d4⟩
theorem PS.rows (h : PS B bq bm bc w2 l v1 v2 v3 lv W V wr) {l' : List (Option Rw)} (hr : RF B (SN bq bm bc lv) w' l') (hf : Fr (fun b => ¬ SN bq bm bc lv b) wr w') (hb : Below B wr w') : PS B bq bm bc w2 l' v1 v2 v3 lv W V w' := by
  refine ⟨hr, h.ct.fr hf (fun hn => hn (.inl rfl)), h.pp.fr hf (fun hn => hn (.inr (.inl rfl))), Row.fr h.ro hf (fun g hg2 hn => hn (.inr (.inr (.inr hg2)))), h.ds, fun b hbc => ?_, h.be.trans hb⟩
  obtain ⟨c0, c1, r⟩ := h.cc b hbc
  exact ⟨hf.cell c0 (fun hn => hn (.inr (.inr (.inl hbc)))), hf.cell c1 (fun hn => hn (.inr (.inr (.inl hbc)))), r⟩
/-- a store into the machine's block -/
theorem PS.mach (h : PS B bq bm bc w2 l v1 v2 v3 lv W V wr) {u1 u2 u3 : Value} (hf : Fr (fun b => b = bq) wr w') (hc : CT w' bq 0 u1 u2 u3) : PS B bq bm bc w2 l u1 u2 u3 lv W V w' := by
  refine ⟨h.rf.cells (hf.mono (fun b e => .inl e)), hc, h.pp.fr hf (fun e => h.ds.1 e.symm), Row.fr h.ro hf (fun g hg2 e => h.ds.2.1 (by rw [hg2, e])), h.ds, fun b hbc => ?_, h.be.trans (hf.below (fun b e => by rw [e]; exact h.ds.2.2.2.1) h.low)⟩
  obtain ⟨c0, c1, d1, r⟩ := h.cc b hbc
  exact ⟨hf.cell c0 d1, hf.cell c1 d1, d1, r⟩
theorem PS.set2 (h : PS B bq bm bc w2 l v1 v2 v3 lv W V wr) (v : Value) : PS B bq bm bc w2 l v1 v v3 lv W V (wr.setCell ⟨bq, 2, none⟩ v) :=
  h.mach ((Fr.refl (fun b => b = bq) wr).setCell (p := ⟨bq, 2, none⟩) rfl v) (h.ct.set2 v)
theorem PS.set3 (h : PS B bq bm bc w2 l v1 v2 v3 lv W V wr) (v : Value) : PS B bq bm bc w2 l v1 v2 v lv W V (wr.setCell ⟨bq, 3, none⟩ v) :=
  h.mach ((Fr.refl (fun b => b = bq) wr).setCell (p := ⟨bq, 3, none⟩) rfl v) (h.ct.set3 v)
/-- an element of the list -/
theorem PS.elt (h : PS B bq bm bc w2 l v1 v2 v3 lv W V wr) {i : Nat} {k : Nat × Nat} (hk : V[i]? = some k) : ∃ g c, lv = .slice (some ⟨g, 0, none⟩) V.length c ∧ wr.cell? ⟨g, i * 2, none⟩ = some (.int .i64 (k.1 : Nat)) ∧ wr.cell? ⟨g, i * 2 + 1, none⟩ = some (.int .i64 (k.2 : Nat)) := by
  obtain ⟨c1, c2⟩ := pcells_get V i k hk
  rcases h.ro.2 with ⟨hv, h0⟩ | ⟨g, cap, cur, hv, hbb, hgg, hnc, hcm, hcs, htk⟩
  · have := (List.getElem?_eq_some_iff.1 hk).1; omega
  · refine ⟨g, cap, hv, ?_, ?_⟩
    · have hr := Row.rdG (show Row wr B 97 2 (.slice (some ⟨g, 0, none⟩) V.length cap) V.length (pcells V) by rw [← hv]; exact h.ro)
      obtain ⟨b, off, ha, hc⟩ := hr.cell _ _ c1
      cases ha
      simpa using hc
    · have hr := Row.rdG (show Row wr B 97 2 (.slice (some ⟨g, 0, none⟩) V.length cap) V.length (pcells V) by rw [← hv]; exact h.ro)
      obtain ⟨b, off, ha, hc⟩ := hr.cell _ _ c2
      cases ha
      simpa using hc

/-- the state ahead of the search -/
theorem PS.start2 {c : Option Rw} {gc cg : Nat} {wl w9 : World} (h : PS B bq bm none w2 [c] v1 v2 v3 (.slice (some ⟨gc, 0, none⟩) 1 cg) [(0, 0)] [(0, 0)] wr)
    (hwl : wl = (wr.alloc (.cells #[.int .i64 0, .int .i64 0] 97)).alloc (.map #[] 0)) (hp : PP w9 (wr.heap.size + 1) [(0, 0)]) (hg : wl.grownBy w9 (some (wr.heap.size + 1))) :
    PS B bq (wr.heap.size + 1) (some gc) w2 [c, some (22, .slice none 0 0, []), some (4, .slice none 0 0, [])] v1 v2 v3 (.slice (some ⟨wr.heap.size, 0, none⟩) 1 1) [(0, 0)] [(0, 0)] w9 := by
  have hs1 : (wr.alloc (.cells #[.int .i64 0, .int .i64 0] 97)).heap.size = wr.heap.size + 1 := by simp
  have hbl : Below wr.heap.size wr wl := by rw [hwl]; exact (below_alloc _ _).alloc (by simp) _
  have hf : Fr (fun b => b = wr.heap.size + 1) wl w9 := Fr.of_grown hg (fun k hk => (Option.some.inj hk).symm)
  have hb9 : Below wr.heap.size wr w9 := hbl.trans (hf.below (fun b e => by omega) hbl.size)
  have hq := h.ct.lt
  have hgcl : gc < wr.heap.size ∧ B ≤ gc := Row.block_lt h.ro rfl
  obtain ⟨k0, k1⟩ := pcells_get [(0, 0)] 0 (0, 0) rfl
  obtain ⟨g', c', e1, e2, e3⟩ := h.elt (i := 0) (k := (0, 0)) rfl
  have e1 := Value.slice.inj e1
  have eg : gc = g' := by have := e1.1; simpa using this
  subst eg
  have hown : (Value.slice (some ⟨wr.heap.size, 0, none⟩) 1 1).ownBlock = some wr.heap.size := rfl
  have hn0 : (Value.slice none 0 0).ownBlock = none := rfl
  have hrf : RF B (SN bq (wr.heap.size + 1) (some gc) (.slice (some ⟨wr.heap.size, 0, none⟩) 1 1)) w9 [c] := by
    have h1 := (h.rf.addN (.cells #[.int .i64 0, .int .i64 0] 97)).addN (.map #[] 0)
    rw [← hwl, hs1] at h1
    refine (h1.cells (hf.mono (fun b e => .inr e))).lessN (fun b hb => ?_)
    rcases hb with hb | hb | hb | hb
    · exact .inl (.inl (.inl hb))
    · exact .inr hb
    · exact .inl (.inl (.inr (.inr (.inr (by rw [← hb]; rfl)))))
    · exact .inl (.inr (by have := Option.some.inj (hown ▸ hb); exact this.symm))
  have hrf2 := hrf.new (e := 22) (v := .slice none 0 0) (xs := []) (World.ownsRow_nil _ _ _ _) (Below.refl _ _) (.inr rfl)
  have hrf3 := hrf2.new (e := 4) (v := .slice none 0 0) (xs := []) (World.ownsRow_nil _ _ _ _) (Below.refl _ _) (.inr rfl)
  refine ⟨hrf3, h.ct.below hb9, hp, ?_, ⟨by omega, ?_, ?_, h.ds.2.2.2.1, by have := h.low; omega⟩, fun b hb => ?_, h.be.trans (hb9.mono h.low)⟩
  · refine ⟨rfl, .inr ⟨wr.heap.size, 1, #[.int .i64 0, .int .i64 0], rfl, h.low, ?_, Nat.le_refl _, by unfold maxLen; omega, rfl, rfl⟩⟩
    rw [hf.block _ (by rw [hwl]; simp; omega) (by omega), hwl]
    rw [heap_alloc_old' _ _ _ (by simp)]
    exact heap_alloc_new _ _
  · rw [hown]; intro e; have := Option.some.inj e; omega
  · rw [hown]; intro e; have := Option.some.inj e; omega
  · obtain rfl : gc = b := Option.some.inj hb
    have d1 : gc ≠ bq := fun e => h.ds.2.1 (by rw [← e]; rfl)
    exact ⟨below_cell hb9 (by simpa using e2), below_cell hb9 (by simpa using e3), d1, by omega, by rw [hown]; intro e; have := Option.some.inj e; omega, hgcl.2⟩
end

end Go.Proofs.Ytajajkganamfiaa
