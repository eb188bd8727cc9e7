/-
  number: the machine of the blocks, in canonical order.
-/
import Derived.Test.YtajajkganamfiaaMRefi
namespace Go.Proofs.Ytajajkganamfiaa
open Go.RowKit Go.Maps
set_option linter.unusedVariables false
set_option linter.unusedSimpArgs false

theorem ESI : EltG Try.prog 23 22 (.slice none 0 0) 1 24 := ⟨Try.underlying23, info_parts (by kernel_rfl), rfl, by decide⟩

/-- a machine's four cells -/
structure CT (w : World) (g : Nat) (k : Int) (v1 v2 v3 : Value) : Prop where
  c0 : w.cell? ⟨g, 0, none⟩ = some (.int .i64 k)
  c1 : w.cell? ⟨g, 1, none⟩ = some v1
  c2 : w.cell? ⟨g, 2, none⟩ = some v2
  c3 : w.cell? ⟨g, 3, none⟩ = some v3
  fz : ∀ j, w.frozen? ⟨g, j, none⟩ = false
theorem CT.lt {w : World} {g k v1 v2 v3} (h : CT w g k v1 v2 v3) : g < w.heap.size := World.block_lt_of_cell? w _ h.c0
theorem CT.fr {w w' : World} {F : Nat → Prop} {g k v1 v2 v3} (h : CT w g k v1 v2 v3) (hf : Fr F w w') (hF : ¬ F g) : CT w' g k v1 v2 v3 :=
  ⟨hf.cell h.c0 hF, hf.cell h.c1 hF, hf.cell h.c2 hF, hf.cell h.c3 hF, fun j => (hf.frozen (x := ⟨g, j, none⟩) h.lt hF).trans (h.fz j)⟩
theorem CT.below {w w' : World} {g k v1 v2 v3} (h : CT w g k v1 v2 v3) (hb : Below w.heap.size w w') : CT w' g k v1 v2 v3 := h.fr (.of_below (S := fun _ => False) hb) (fun h => h)
theorem CT.set2 {w : World} {g k v1 v2 v3} (h : CT w g k v1 v2 v3) (v : Value) : CT (w.setCell ⟨g, 2, none⟩ v) g k v1 v v3 :=
  ⟨set_other (by simp) h.c0, set_other (by simp) h.c1, set_same h.c2, set_other (by simp) h.c3, fun j => (World.frozen?_setCell ..).trans (h.fz j)⟩
theorem CT.set3 {w : World} {g k v1 v2 v3} (h : CT w g k v1 v2 v3) (v : Value) : CT (w.setCell ⟨g, 3, none⟩ v) g k v1 v2 v :=
  ⟨set_other (by simp) h.c0, set_other (by simp) h.c1, set_other (by simp) h.c2, set_same h.c3, fun j => (World.frozen?_setCell ..).trans (h.fz j)⟩
theorem alloc_ct (w : World) (k : Int) (v1 v2 v3 : Value) (A : TypeId) : CT (w.alloc (.cells #[.int .i64 k, v1, v2, v3] A)) w.heap.size k v1 v2 v3 := ⟨by simp, by simp, by simp, by simp, fun j => by simp⟩

/-- how a column of blocks reads -/
def colk (next : List (List Int)) (b first : List Nat) (c : Nat) : List Nat := first.map fun q => b.getD (nxN next q c) 0

/-- the numbers of blocks, plus 1 -/
def numL (fl : Nat) (ord : List Nat) : List Nat := (List.range fl).map fun B => if B ∈ ord then ix ord B + 1 else 0
theorem numL_len (fl : Nat) (ord : List Nat) : (numL fl ord).length = fl := by simp [numL]
theorem numL_get {fl : Nat} (ord : List Nat) {B : Nat} (h : B < fl) : (numL fl ord)[B]? = some (if B ∈ ord then ix ord B + 1 else 0) := by simp [numL, h]
theorem numL_nil (fl : Nat) : numL fl [] = List.replicate fl 0 := by
  unfold numL
  apply List.ext_getElem (by simp)
  intro i h1 h2
  simp
theorem ix_app {ord : List Nat} {B x : Nat} (h : B ∈ ord) : ix (ord ++ [x]) B = ix ord B := by
  by_cases hx : x ∈ ord
  · unfold ix; rw [List.idxOf_append, if_pos h]
  · have := idx_old (k := x) h; rwa [ddStep_out hx] at this
theorem ix_last {ord : List Nat} {x : Nat} (h : x ∉ ord) : ix (ord ++ [x]) x = ord.length := by
  have := idx_new h; rwa [ddStep_out h] at this
theorem numL_push {fl : Nat} (ord : List Nat) {B : Nat} (h : B < fl) (hn : B ∉ ord) : (numL fl ord).set B (ord.length + 1) = numL fl (ord ++ [B]) := by
  unfold numL
  apply List.ext_getElem (by simp)
  intro i h1 h2
  simp only [List.getElem_set, List.getElem_map, List.getElem_range, List.mem_append, List.mem_singleton]
  by_cases e : B = i
  · subst e
    rw [if_pos rfl, if_pos (.inr rfl), ix_last hn]
  · rw [if_neg e]
    by_cases hi : i ∈ ord
    · rw [if_pos hi, if_pos (.inl hi), ix_app hi]
    · rw [if_neg hi, if_neg (fun h => h.elim hi (fun h => e h.symm))]

/-- the blocks in the order in which they are found; rows written for the first i -/
structure OI (next : List (List Int)) (b first cols : List Nat) (st i : Nat) (ord : List Nat) (rows : List (List Nat)) : Prop where
  nd : ord.Nodup
  lt : ∀ B ∈ ord, B < first.length
  st : ord[0]? = some (b.getD st 0)
  rl : rows.length = i
  row : ∀ j B, j < i → ord[j]? = some B → rows[j]? = some (cols.map fun c => ix ord (b.getD (nxN next (first.getD B 0) c) 0)) ∧ ∀ c ∈ cols, b.getD (nxN next (first.getD B 0) c) 0 ∈ ord
  bd : ord.length ≤ 1 + i * cols.length
  canon : ∀ j k, j < i → k < cols.length → ((rows.getD j []).getD k 0) ≤ j * cols.length + k + 1

/-- within a row: k columns done -/
structure OJ (next : List (List Int)) (b first cols : List Nat) (st i : Nat) (ord0 : List Nat) (rows : List (List Nat)) (B k : Nat) (ord row : List Nat) : Prop where
  pre : ord0 <+: ord
  nd : ord.Nodup
  lt : ∀ B ∈ ord, B < first.length
  rl : row.length = cols.length
  val : ∀ m c, m < k → cols[m]? = some c → b.getD (nxN next (first.getD B 0) c) 0 ∈ ord ∧ row.getD m 0 = ix ord (b.getD (nxN next (first.getD B 0) c) 0) ∧ row.getD m 0 ≤ i * cols.length + m + 1
  bd : ord.length ≤ 1 + i * cols.length + k

theorem ix_pre {ord0 ord : List Nat} (h : ord0 <+: ord) {B : Nat} (hB : B ∈ ord0) : ix ord B = ix ord0 B := by
  obtain ⟨t, rfl⟩ := h
  unfold ix; rw [List.idxOf_append, if_pos hB]

theorem OI.start {next b first cols st} (h : b.getD st 0 < first.length) : OI next b first cols st 0 [b.getD st 0] [] :=
  ⟨by simp, fun B hB => by rw [List.mem_singleton.1 hB]; exact h, rfl, rfl, fun j B hj => by omega, by simp, fun j k hj => by omega⟩

theorem OI.row0 {next b first cols st i ord rows} (h : OI next b first cols st i ord rows) (B : Nat) : OJ next b first cols st i ord rows B 0 ord (List.replicate cols.length 0) :=
  ⟨List.prefix_refl _, h.nd, h.lt, by simp, fun m c hm => by omega, h.bd⟩

theorem OJ.old {next b first cols st i ord0 rows B k ord row} (h : OJ next b first cols st i ord0 rows B k ord row) {c : Nat} (hc : cols[k]? = some c) {x : Nat} (hx : x = b.getD (nxN next (first.getD B 0) c) 0) (hm : x ∈ ord) :
    OJ next b first cols st i ord0 rows B (k + 1) ord (row.set k (ix ord x)) := by
  have hk : k < cols.length := (List.getElem?_eq_some_iff.1 hc).1
  refine ⟨h.pre, h.nd, h.lt, by rw [List.length_set]; exact h.rl, fun m c' hm' hc' => ?_, by have := h.bd; omega⟩
  rw [getD_set _ _ _ _ (by rw [h.rl]; exact hk)]
  by_cases e : m = k
  · subst e
    rw [hc] at hc'
    cases hc'
    rw [if_pos rfl, ← hx]
    refine ⟨hm, rfl, ?_⟩
    have := idx_lt hm
    have := h.bd
    omega
  · rw [if_neg e]
    exact h.val m c' (by omega) hc'

theorem OJ.new {next b first cols st i ord0 rows B k ord row} (h : OJ next b first cols st i ord0 rows B k ord row) {c : Nat} (hc : cols[k]? = some c) {x : Nat} (hx : x = b.getD (nxN next (first.getD B 0) c) 0) (hm : x ∉ ord) (hl : x < first.length) :
    OJ next b first cols st i ord0 rows B (k + 1) (ord ++ [x]) (row.set k ord.length) := by
  have h1 : OJ next b first cols st i ord0 rows B k (ord ++ [x]) row → OJ next b first cols st i ord0 rows B (k + 1) (ord ++ [x]) (row.set k (ix (ord ++ [x]) x)) := fun h => h.old hc hx (by simp)
  have hk : k < cols.length := (List.getElem?_eq_some_iff.1 hc).1
  refine ⟨h.pre.trans (List.prefix_append _ _), ?_, fun y hy => ?_, by rw [List.length_set]; exact h.rl, fun m c' hm' hc' => ?_, by have := h.bd; simp; omega⟩
  · rw [List.nodup_append]
    exact ⟨h.nd, by simp, fun a ha b hb e => hm (by rw [← List.mem_singleton.1 hb, ← e]; exact ha)⟩
  · rcases List.mem_append.1 hy with hy | hy
    · exact h.lt y hy
    · rw [List.mem_singleton.1 hy]; exact hl
  · rw [getD_set _ _ _ _ (by rw [h.rl]; exact hk)]
    by_cases e : m = k
    · subst e
      rw [hc] at hc'
      cases hc'
      rw [if_pos rfl, ← hx, ix_last hm]
      refine ⟨by simp, rfl, ?_⟩
      have := h.bd
      omega
    · rw [if_neg e]
      obtain ⟨k1, k2, k3⟩ := h.val m c' (by omega) hc'
      exact ⟨List.mem_append.2 (.inl k1), by rw [k2, ix_app k1], k3⟩

theorem OJ.done {next b first cols st i ord0 rows B ord row} (h0 : OI next b first cols st i ord0 rows) (hB : ord0[i]? = some B) (h : OJ next b first cols st i ord0 rows B cols.length ord row) : OI next b first cols st (i + 1) ord (rows ++ [row]) := by
  obtain ⟨t, ht⟩ := h.pre
  have hat : ∀ j y, ord0[j]? = some y → ord[j]? = some y := fun j y hy => by
    rw [← ht, List.getElem?_append_left (List.getElem?_eq_some_iff.1 hy).1]; exact hy
  have hi : i < ord0.length := (List.getElem?_eq_some_iff.1 hB).1
  refine ⟨h.nd, h.lt, hat 0 _ h0.st, by simp [h0.rl], fun j B' hj hB' => ?_, ?_, fun j k hj hk => ?_⟩
  · by_cases e : j = i
    · subst e
      rw [hat _ _ hB] at hB'
      cases hB'
      refine ⟨?_, fun c hc => ?_⟩
      · rw [List.getElem?_append_right (by rw [h0.rl]; exact Nat.le_refl _), h0.rl, Nat.sub_self]
        simp only [List.getElem?_cons_zero, Option.some.injEq]
        apply List.ext_getElem (by simp [h.rl])
        intro m h1 h2
        have hmc : m < cols.length := by rw [← h.rl]; exact h1
        have := (h.val m cols[m] hmc (List.getElem?_eq_getElem hmc)).2.1
        simp only [List.getElem_map]
        rw [← this]
        simp [List.getD, h1]
      · obtain ⟨m, hm, e⟩ := List.getElem_of_mem hc
        exact (h.val m c hm (by rw [List.getElem?_eq_getElem hm, e])).1
    · have hj' : j < i := by omega
      have hB0 : ord0[j]? = some B' := by
        rw [← ht, List.getElem?_append_left (by omega)] at hB'; exact hB'
      obtain ⟨k1, k2⟩ := h0.row j B' hj' hB0
      refine ⟨?_, fun c hc => by rw [← ht]; exact List.mem_append.2 (.inl (k2 c hc))⟩
      rw [List.getElem?_append_left (by rw [h0.rl]; exact hj'), k1]
      congr 1
      apply List.map_congr_left
      intro c hc
      exact (ix_pre h.pre (k2 c hc)).symm
  · have := h.bd
    rw [Nat.add_mul]
    omega
  · by_cases e : j = i
    · subst e
      have hmc : cols[k]? = some cols[k] := List.getElem?_eq_getElem hk
      have := (h.val k _ hk hmc).2.2
      rw [show (rows ++ [row]).getD j [] = row by simp [List.getD, List.getElem?_append, h0.rl]]
      exact this
    · have hj' : j < i := by omega
      rw [show (rows ++ [row]).getD j [] = rows.getD j [] by simp [List.getD, List.getElem?_append, h0.rl, hj']]
      exact h0.canon j k hj' hk

theorem RF.stepAppend {P : Program} {w : World} {ops : Array Oper} {o : Oper} {a : Act} {K : Act → World → Prop} {Q : Exit → Act → World → Prop} {G : Prop} {B N w1 l} (h : RF B N w1 l) {i e v xs} (hi : AtR l i e v xs) (n : Nat) (hn : n = xs.length) (hw : Below w1.heap.size w1 w) (s x : Operand) {t : TypeId} {z : Value} {bytes : Nat} (E : EltG P t e z 1 bytes)
    (hgd : o.guard = none) (ho : o.op = .call { callee := .builtin .append, args := #[s, x], argTypes := #[t, t] }) (hs : a.eval s = v) (ad : Option Addr) (m c : Nat) (news : List Value) (hx : a.eval x = .slice ad m c) (hr : RdG w 1 ad m news) (h1 : ∀ u ∈ news, u.oneCell' = true)
    (hlen : (n + m) * bytes ≤ 140737488355328) (hpos : 0 < bytes)
    (hK : ∀ a' c' w', RF B N w' (l.set i (some (e, .slice a' (n + m) c', xs ++ news))) → w.grownBy w' v.ownBlock → Below B w1 w' → Fr (fun b => ¬ N b) w1 w' → K (a.put o.dst (.slice a' (n + m) c')) w') : if Region.wanted o (yielded ops a.tmps) = true then Oper.wp P o a w K Q else G := by
  subst hn
  have hm : news.length = m := by have := hr.len; omega
  have h2 := h.below hw
  refine step_app_row_at s x E hgd ho B v xs.length xs hs (h2.own i _ _ _ hi) ad m c news hx hr h1 hlen hpos h2.bw ?_
  intro a' c' w' hr' hg hat
  refine hK a' c' w' ?_ hg ((hw.mono h.bw).trans (h2.grown hi hg)) ((Fr.of_below hw).trans (h2.frN hi hg))
  refine h2.turn hi (by rw [List.length_append, hm]; exact hr') hg ?_
  rcases hat with e | e
  · exact .inl e
  · exact .inr (.inl e)

theorem at7 {x0 x1 x2 x3 x4 x5 x6 : Option Rw} {rs : List (Option Rw)} {e v xs} {k : Nat} (hk : rs.length = k) : AtR (x0 :: x1 :: x2 :: x3 :: x4 :: x5 :: x6 :: (rs ++ [some (e, v, xs)])) (k + 7) e v xs := by
  show (rs ++ [some (e, v, xs)])[k]? = _
  rw [List.getElem?_append_right (by omega), hk, Nat.sub_self]; rfl
theorem set7 {x0 x1 x2 x3 x4 x5 x6 a b : Option Rw} {rs : List (Option Rw)} {k : Nat} (hk : rs.length = k) : (x0 :: x1 :: x2 :: x3 :: x4 :: x5 :: x6 :: (rs ++ [a])).set (k + 7) b = x0 :: x1 :: x2 :: x3 :: x4 :: x5 :: x6 :: (rs ++ [b]) := by
  show x0 :: x1 :: x2 :: x3 :: x4 :: x5 :: x6 :: ((rs ++ [a]).set k b) = _
  rw [List.set_append, if_neg (by omega), hk, Nat.sub_self]; rfl
theorem at7i {x0 x1 x2 x3 x4 x5 x6 : Option Rw} {rs : List (Option Rw)} {e v xs} {i : Nat} (hi : rs[i]? = some (some (e, v, xs))) : AtR (x0 :: x1 :: x2 :: x3 :: x4 :: x5 :: x6 :: rs) (i + 7) e v xs := hi

/-- the machine's rows: where each lies -/
def RowsAt (xs : List Value) (rs : List (Option Rw)) (R : List (List Nat)) (m : Nat) : Prop :=
  xs.length = R.length ∧ rs.length = R.length ∧ ∀ (j : Nat) (r : List Nat), R[j]? = some r → ∃ (g c : Nat), xs[j]? = some (Value.slice (some ⟨g, 0, none⟩) m c) ∧ rs[j]? = some (some (3, Value.slice (some ⟨g, 0, none⟩) m c, iv r))
theorem RowsAt.push {xs rs R m} (h : RowsAt xs rs R m) (g c : Nat) (row : List Nat) : RowsAt (xs ++ [.slice (some ⟨g, 0, none⟩) m c]) (rs ++ [some (3, .slice (some ⟨g, 0, none⟩) m c, iv row)]) (R ++ [row]) m := by
  obtain ⟨h1, h2, h3⟩ := h
  refine ⟨by simp [h1], by simp [h2], fun j r hr => ?_⟩
  rw [List.getElem?_append] at hr
  split at hr
  · rename_i hlt
    obtain ⟨g', c', e1, e2⟩ := h3 j r hr
    exact ⟨g', c', by rw [List.getElem?_append_left (by omega)]; exact e1, by rw [List.getElem?_append_left (by omega)]; exact e2⟩
  · rename_i hlt
    have hl := (List.getElem?_eq_some_iff.1 hr).1
    simp at hl
    have e : j = R.length := by omega
    subst e
    simp at hr
    subst hr
    exact ⟨g, c, by rw [← h1]; simp, by rw [← h2]; simp⟩

theorem iv_eq (us : List Nat) : iv us = (nints us).map (Value.int .i64) := by simp [iv, nints]

theorem RF.rdN {B N w l} (h : RF B N w l) {i a n c} {us : List Nat} (hi : AtR l i 3 (.slice a n c) (iv us)) (hw : ∀ u ∈ us, u < 4294967296) : Rd w .i64 a n (nints us) := by
  have hn := h.len hi
  rw [List.length_map] at hn
  have ho := h.own i _ _ _ hi
  have hown : Own w B 3 .i64 (.slice a (nints us).length c) (nints us) := by
    unfold Own
    rw [← iv_eq, show (nints us).length = n by simp [hn]]
    rw [List.length_map, ← hn] at ho
    exact ho
  have := Own.rd hown (fun x hx => by
    obtain ⟨u, hu, rfl⟩ := List.mem_map.1 hx
    exact wf_nat (hw u hu))
  rw [show (nints us).length = n by simp [hn]] at this
  exact this

theorem RF.rdB {B N w l} (h : RF B N w l) {i a n c} {bs : List Bool} (hi : AtR l i 4 (.slice a n c) (bs.map Value.bool)) (hmax : n ≤ 1000) : RdB w a n bs := by
  have hn := h.len hi
  rw [List.length_map] at hn
  refine ⟨hn.symm, by omega, fun j hj => ?_⟩
  obtain ⟨g, rfl⟩ := h.addr hi (by simp; omega)
  refine ⟨g, 0, rfl, ?_⟩
  rw [Nat.zero_add]
  refine h.cell hi ?_
  rw [List.getElem?_map, List.getElem?_eq_getElem (by omega)]
  simp [List.getD, List.getElem?_eq_getElem (show j < bs.length by omega)]

theorem fr4 (w : World) (g : Nat) (a b c d : Value) : Fr (fun x => x = g) w ((((w.setCell ⟨g, 0, none⟩ a).setCell ⟨g, 1, none⟩ b).setCell ⟨g, 2, none⟩ c).setCell ⟨g, 3, none⟩ d) := by
  have h4 : ∀ (x : World) (j : Nat) (u : Value), Fr (fun i => i = g) x (x.setCell ⟨g, j, none⟩ u) := fun x j u => (Fr.refl (fun i => i = g) x).setCell (p := ⟨g, j, none⟩) rfl u
  exact (((h4 w 0 a).trans (h4 _ 1 b)).trans (h4 _ 2 c)).trans (h4 _ 3 d)

/-- what number leaves: the machine of the blocks -/
def NumPost (st : Nat) (cls : List Int) (next : List (List Int)) (acc : List Bool) (b first : List Nat) (w : World) (e : Ending) (w' : World) : Prop :=
  ∃ (ac : Option Addr) (cc : Nat) (an : Option Addr) (nn cn : Nat) (aa : Option Addr) (ca : Nat) (fs clsv cols ord : List Nat) (W R : List (List Nat)) (accs : List Bool),
    e = .returned (.agg #[.int .i64 0, .slice ac 256 cc, .slice an nn cn, .slice aa nn ca]) ∧
    (∀ wg, Fr (fun x => x < w.heap.size) w' wg → RdM wg ac 256 an nn aa nn (nints clsv) (R.map nints) accs) ∧
    RI (fun x => colk next b first ((nats cls).getD x 0)) (List.range 256) 256 256 fs clsv W ∧ cols = fs.map (fun x => (nats cls).getD x 0) ∧
    OI next b first cols st ord.length ord R ∧ accs = ord.map (fun B => acc.getD (first.getD B 0) false) ∧ nn = ord.length ∧ Below w.heap.size w w'

end Go.Proofs.Ytajajkganamfiaa
