/-
  Copy of the reference: the same machine, in blocks of its own.
-/
import Derived.Test.YtajajkganamfiaaMNum
import Derived.Test.YtajajkganamfiaaApp0
import Derived.Deep.RegionHeld3
import Derived.Deep.RegionLaw
import Derived.Deep.DeepCutAuto
namespace Go.Proofs.Ytajajkganamfiaa
open Go.RowKit
set_option linter.unusedVariables false
set_option linter.unusedSimpArgs false

theorem heap_old {w : World} {o : Obj} {G : Nat} {x : Obj} (h : w.heap[G]? = some x) : (w.alloc o).heap[G]? = some x :=
  ((below_alloc w o).block G (Array.getElem?_eq_some_iff.1 h).1).trans h

theorem RdB.rdG {w : World} {a n l} (h : RdB w a n l) : RdG w 1 a n (l.map Value.bool) :=
  ⟨by simp [h.len], fun j u hu => by
    have hj : j < l.length := by simpa using (List.getElem?_eq_some_iff.1 hu).1
    obtain ⟨b, off, ha, hc⟩ := h.cell j (by rw [← h.len]; exact hj)
    refine ⟨b, off, ha, ?_⟩
    rw [hc]
    rw [List.getElem?_map, List.getElem?_eq_getElem hj] at hu
    simp only [Option.map_some, Option.some.injEq] at hu
    rw [← hu]
    simp [List.getD, hj]⟩

theorem Rd.rdG {w : World} {k a n l} (h : Rd w k a n l) : RdG w 1 a n (l.map (Value.int k)) :=
  ⟨by simp [h.len], fun j u hu => by
    have hj : j < l.length := by simpa using (List.getElem?_eq_some_iff.1 hu).1
    obtain ⟨b, off, ha, hc⟩ := h.cell j (by rw [← h.len]; exact hj)
    refine ⟨b, off, ha, ?_⟩
    rw [hc]
    rw [List.getElem?_map, List.getElem?_eq_getElem hj] at hu
    simp only [Option.map_some, Option.some.injEq] at hu
    rw [← hu]
    simp [List.getD, hj]⟩

/-- how long the slices of a machine are -/
structure SzM (cls : List Int) (next : List (List Int)) (acc : List Bool) : Prop where
  c : cls.length * 8 ≤ 140737488351232
  a : acc.length ≤ 140737488351232
  n : next.length ≤ 1000
  r : ∀ row ∈ next, row.length * 8 ≤ 140737488351232

/-- what lay there stays: three cells -/
theorem ks3 {wb w w' : World} {a b c : Addr} {x y z : Value} (h : w.cell? a = some x ∧ w.cell? b = some y ∧ w.cell? c = some z ∧ Below wb.heap.size wb w) (hb : Below w.heap.size w w') : w'.cell? a = some x ∧ w'.cell? b = some y ∧ w'.cell? c = some z ∧ Below wb.heap.size wb w' :=
  ⟨below_cell hb h.1, below_cell hb h.2.1, below_cell hb h.2.2.1, bthen h.2.2.2 hb⟩
theorem ks3b {wb w : World} {a b c : Addr} {x y z : Value} (h : w.cell? a = some x ∧ w.cell? b = some y ∧ w.cell? c = some z ∧ Below wb.heap.size wb w) : Below wb.heap.size wb w := h.2.2.2
/-- two rules for the walk -/
theorem old_cell {w w' : World} (hb : Below w.heap.size w w') : (∀ b o, b < w.heap.size → w'.cell? ⟨b, o, none⟩ = w.cell? ⟨b, o, none⟩) ∧ (∀ b o, b < w.heap.size → w'.frozen? ⟨b, o, none⟩ = w.frozen? ⟨b, o, none⟩) :=
  ⟨fun b o h => hb.cell (p := ⟨b, o, none⟩) h, fun b o h => hb.frozen (p := ⟨b, o, none⟩) h⟩
theorem sz_of {W w' : World} {n : Nat} (h : Below W.heap.size W w') (hn : n < W.heap.size) : n < w'.heap.size := Nat.lt_of_lt_of_le hn h.size

/-- a row of one-cell elements, to be read; from block lo on, in another block than gm and than r -/
structure RdX (w : World) (lo gm : Nat) (r : Option Nat) (a : Option Addr) (n : Nat) (xs : List Value) : Prop where
  rd : RdG w 1 a n xs
  lo : ∀ x, a = some x → 0 < n → lo ≤ x.block
  gm : ∀ x, a = some x → 0 < n → x.block ≠ gm
  ne : ∀ x, a = some x → 0 < n → some x.block ≠ r
theorem rdG_pos {w : World} {a : Option Addr} {n : Nat} {xs : List Value} (h : RdG w 1 a n xs) {x : Addr} (hx : a = some x) (hn : 0 < n) : x.block < w.heap.size := by
  have hl : 0 < xs.length := by have := h.len; omega
  obtain ⟨b, off, ha, hc⟩ := h.cell 0 xs[0] (by simp [hl])
  rw [ha] at hx; cases hx
  exact World.block_lt_of_cell? w _ hc
theorem RdX.fr {w w' : World} {lo gm : Nat} {r r' : Option Nat} {a : Option Addr} {n : Nat} {xs : List Value} {S : Nat → Prop} (h : RdX w lo gm r a n xs) (hf : Fr S w w') (hS : ∀ x, a = some x → 0 < n → ¬ S x.block) (hr : r' = r ∨ r' = some w.heap.size) : RdX w' lo gm r' a n xs :=
  ⟨⟨h.rd.len, fun j u hu => by
    obtain ⟨b, off, ha, hc⟩ := h.rd.cell j u hu
    have hj := (List.getElem?_eq_some_iff.1 hu).1
    exact ⟨b, off, ha, hf.cell hc (hS ⟨b, off, none⟩ ha (by have := h.rd.len; omega))⟩⟩, h.lo, h.gm, fun x hx hn => by
    rcases hr with e | e
    · rw [e]; exact h.ne x hx hn
    · rw [e]; intro h2
      have := rdG_pos h.rd hx hn
      have := Option.some.inj h2
      omega⟩
theorem RdX.below {w w' : World} {lo gm : Nat} {r : Option Nat} {a : Option Addr} {n : Nat} {xs : List Value} (h : RdX w lo gm r a n xs) (hb : Below w.heap.size w w') : RdX w' lo gm r a n xs :=
  h.fr (S := fun _ => False) (.of_below hb) (fun _ _ _ h => h) (.inl rfl)

theorem RdX.of {w5 wc : World} {lo gm lw : Nat} {a : Option Addr} {n : Nat} {xs : List Value} (h : RdG w5 1 a n xs) (hx : ∀ x, a = some x → 0 < n → lw ≤ x.block ∧ x.block < w5.heap.size) (hf : Fr (fun x => x = gm) w5 wc) (hlo : lo ≤ lw) (hgm : gm < lw ∨ w5.heap.size ≤ gm) : RdX wc lo gm none a n xs :=
  ⟨h.fr1 (by decide) hf (fun x h1 h2 => by have := hx x h1 h2; omega), fun x h1 h2 => by have := hx x h1 h2; omega, fun x h1 h2 => by have := hx x h1 h2; omega, fun _ _ _ h => by cases h⟩
theorem CT.set4 {w : World} {g : Nat} {k0 : Int} {u1 u2 u3 : Value} (h : CT w g k0 u1 u2 u3) (k : Int) (v1 v2 v3 : Value) : CT ((((w.setCell ⟨g, 0, none⟩ (.int .i64 k)).setCell ⟨g, 1, none⟩ v1).setCell ⟨g, 2, none⟩ v2).setCell ⟨g, 3, none⟩ v3) g k v1 v2 v3 := by
  obtain ⟨h0, h1, h2, h3, hf⟩ := h
  refine ⟨?_, ?_, ?_, ?_, fun j => ?_⟩
  · exact set_other (by simp) (set_other (by simp) (set_other (by simp) (set_same h0)))
  · exact set_other (by simp) (set_other (by simp) (set_same (set_other (by simp) h1)))
  · exact set_other (by simp) (set_same (set_other (by simp) (set_other (by simp) h2)))
  · exact set_same (set_other (by simp) (set_other (by simp) (set_other (by simp) h3)))
  · simpa using hf j

theorem Fr.set1 {g j : Nat} {a b : World} (h : Fr (fun x => x = g) a b) (u : Value) : Fr (fun x => x = g) a (b.setCell ⟨g, j, none⟩ u) := h.setCell (p := ⟨g, j, none⟩) rfl u

theorem Below.set1 {B g j : Nat} {a b : World} (h : Below B a b) (hg : B ≤ g) (u : Value) : Below B a (b.setCell ⟨g, j, none⟩ u) := h.setCell hg u

/-- behind the literal -/
def CopyMid (s : Int) (nc na : Nat) (cls : List Int) (acc : List Bool) (w2 : World) (s3 : Value) (wc : World) : Prop :=
  ∃ gm a5 c5 a6 c6, s3 = .pointer (some ⟨gm, 0, none⟩) ∧ w2.heap.size ≤ gm ∧ CT wc gm s (.slice a5 nc c5) (.slice none 0 0) (.slice a6 na c6) ∧ RdX wc w2.heap.size gm none a5 nc (cls.map (Value.int .i64)) ∧ RdX wc w2.heap.size gm none a6 na (acc.map Value.bool) ∧ Below w2.heap.size w2 wc

/-- i rows are copied -/
structure CI (w2 : World) (gm : Nat) (s : Int) (nc na : Nat) (cls : List Int) (next : List (List Int)) (acc : List Bool) (a5 : Option Addr) (c5 : Nat) (a6 : Option Addr) (c6 : Nat) (i : Nat) (an : Option Addr) (cn : Nat) (xs : List Value) (w : World) : Prop where
  ct : CT w gm s (.slice a5 nc c5) (.slice an i cn) (.slice a6 na c6)
  row : Row w w2.heap.size 22 1 (.slice an i cn) i xs
  gne : ∀ g, (Value.slice an i cn).ownBlock = some g → g ≠ gm
  x5 : RdX w w2.heap.size gm (Value.slice an i cn).ownBlock a5 nc (cls.map (Value.int .i64))
  x6 : RdX w w2.heap.size gm (Value.slice an i cn).ownBlock a6 na (acc.map Value.bool)
  rows : ∀ j, j < i → ∃ aj cj, xs[j]? = some (.slice aj (next.getD j []).length cj) ∧ (next.getD j []).length ≤ cj ∧ RdX w w2.heap.size gm (Value.slice an i cn).ownBlock aj (next.getD j []).length ((next.getD j []).map (Value.int .i64))
  b : Below w2.heap.size w2 w
  lo : w2.heap.size ≤ gm

theorem CI.below {w2 gm s nc na cls next acc a5 c5 a6 c6 i an cn xs w w'} (h : CI w2 gm s nc na cls next acc a5 c5 a6 c6 i an cn xs w) (hb : Below w.heap.size w w') : CI w2 gm s nc na cls next acc a5 c5 a6 c6 i an cn xs w' :=
  ⟨h.ct.below hb, h.row.below hb, h.gne, h.x5.below hb, h.x6.below hb, fun j hj => by
    obtain ⟨aj, cj, h1, h2, h3⟩ := h.rows j hj
    exact ⟨aj, cj, h1, h2, h3.below hb⟩, bthen h.b hb, h.lo⟩

theorem CI.fresh {w2 gm s nc na cls next acc a5 c5 a6 c6 i an cn xs} {w w1 w' : World} (h : CI w2 gm s nc na cls next acc a5 c5 a6 c6 i an cn xs w) (hb : Below w.heap.size w w1) {a : Option Addr} {n : Nat} {l : List Value} (hr : RdG w' 1 a n l)
    (hx : ∀ x, a = some x → 0 < n → w1.heap.size ≤ x.block ∧ x.block < w'.heap.size) : RdX w' w2.heap.size gm (Value.slice an i cn).ownBlock a n l :=
  ⟨hr, fun x h1 h2 => by have := (hx x h1 h2).1; have := hb.size; have := h.b.size; omega, fun x h1 h2 => by have := (hx x h1 h2).1; have := hb.size; have := h.ct.lt; omega, fun x h1 h2 e => by
    have := (hx x h1 h2).1
    have := hb.size
    have := (Row.block_lt h.row e.symm).1
    omega⟩
theorem RdG.rd {w : World} {k : IntKind} {a : Option Addr} {n : Nat} {l : List Int} (h : RdG w 1 a n (l.map (Value.int k))) (hm : n ≤ 9223372036854775807) (hw : ∀ x ∈ l, (Lit.int k x).wf = true) : Rd w k a n l := by
  have hl : l.length = n := by have := h.len; simpa using this
  refine ⟨hl, hm, fun i hi => ?_, hw⟩
  have hi2 : i < l.length := by omega
  obtain ⟨b, off, ha, hc⟩ := h.cell i (.int k (l.getD i 0)) (by rw [List.getElem?_map, List.getElem?_eq_getElem hi2]; simp [List.getD, hi2])
  exact ⟨b, off, ha, hc⟩
theorem RdG.rdB {w : World} {a : Option Addr} {n : Nat} {l : List Bool} (h : RdG w 1 a n (l.map Value.bool)) (hm : n ≤ 9223372036854775807) : RdB w a n l := by
  have hl : l.length = n := by have := h.len; simpa using this
  refine ⟨hl, hm, fun i hi => ?_⟩
  have hi2 : i < l.length := by omega
  obtain ⟨b, off, ha, hc⟩ := h.cell i (.bool (l.getD i false)) (by rw [List.getElem?_map, List.getElem?_eq_getElem hi2]; simp [List.getD, hi2])
  exact ⟨b, off, ha, hc⟩

/-- one row more: copied in the world w, appended, stored -/
theorem CI.push {w2 gm s nc na cls next acc a5 c5 a6 c6 i an cn xs} {w w' : World} (h : CI w2 gm s nc na cls next acc a5 c5 a6 c6 i an cn xs w) {aj : Option Addr} {nj cj : Nat} (hnj : (next.getD i []).length = nj) (hc : nj ≤ cj)
    (hx : RdX w w2.heap.size gm (Value.slice an i cn).ownBlock aj nj ((next.getD i []).map (Value.int .i64))) {an' : Option Addr} {cn' : Nat}
    (hr : Row w' w2.heap.size 22 1 (.slice an' (i + 1) cn') (i + 1) (xs ++ [.slice aj nj cj])) (hg : w.grownBy w' (Value.slice an i cn).ownBlock)
    (hat : (Value.slice an' (i + 1) cn').ownBlock = (Value.slice an i cn).ownBlock ∨ (Value.slice an' (i + 1) cn').ownBlock = some w.heap.size) :
    CI w2 gm s nc na cls next acc a5 c5 a6 c6 (i + 1) an' cn' (xs ++ [.slice aj nj cj]) (w'.setCell ⟨gm, 2, none⟩ (.slice an' (i + 1) cn')) := by
  subst hnj
  have hf : Fr (fun x => (Value.slice an i cn).ownBlock = some x) w w' := Fr.of_grown hg (fun k hk => hk)
  have hgl := h.ct.lt
  have hgm : ¬ (Value.slice an i cn).ownBlock = some gm := fun e => h.gne gm e rfl
  have hf2 : Fr (fun x => x = gm) w' (w'.setCell ⟨gm, 2, none⟩ (.slice an' (i + 1) cn')) := (Fr.refl (fun x => x = gm) w').setCell (p := ⟨gm, 2, none⟩) rfl _
  have hxl : xs.length = i := by have := h.row.1; omega
  have hstep : ∀ {a n l}, RdX w w2.heap.size gm (Value.slice an i cn).ownBlock a n l → RdX (w'.setCell ⟨gm, 2, none⟩ (.slice an' (i + 1) cn')) w2.heap.size gm (Value.slice an' (i + 1) cn').ownBlock a n l := fun {a n l} hx =>
    (hx.fr (r' := (Value.slice an' (i + 1) cn').ownBlock) hf (fun x hx2 hn e => hx.ne x hx2 hn e.symm) hat).fr hf2 (fun x hx2 hn => hx.gm x hx2 hn) (.inl rfl)
  have hgne : ∀ g, (Value.slice an' (i + 1) cn').ownBlock = some g → g ≠ gm := fun g hg2 => by
    rcases hat with e | e
    · rw [e] at hg2; exact h.gne g hg2
    · rw [e] at hg2; cases hg2; omega
  refine ⟨(h.ct.fr hf hgm).set2 _, Row.fr hr hf2 (fun g hg2 e => hgne g hg2 e), hgne, hstep h.x5, hstep h.x6, fun j hj => ?_, ?_, h.lo⟩
  · by_cases e : j = i
    · subst e
      exact ⟨aj, cj, by rw [List.getElem?_append_right (by omega), hxl, Nat.sub_self]; rfl, hc, hstep hx⟩
    · obtain ⟨a', c', h1, h2, h3⟩ := h.rows j (by omega)
      exact ⟨a', c', by rw [List.getElem?_append_left (by omega)]; exact h1, h2, hstep h3⟩
  · refine (h.b.grown hg h.b.size (fun x hx => ?_)).trans (hf2.below (fun x e => by rw [e]; exact h.lo) (Nat.le_trans h.b.size hf.size))
    exact (Row.block_lt h.row hx).2

theorem CI.done {w w2 : World} {gm s ac nc an0 nn aa na cls next acc a5 c5 a6 c6 an cn xs} {wr wf : World} (h : CI w2 gm s nc na cls next acc a5 c5 a6 c6 nn an cn xs wr) (hm : RdM w ac nc an0 nn aa na cls next acc) {r : Nat} (hr : r < w2.heap.size) (hf : Fr (fun x => x = r) wr wf) :
    RdM wf a5 nc an nn a6 na cls next acc := by
  have keep : ∀ {a n l}, RdX wr w2.heap.size gm (Value.slice an nn cn).ownBlock a n l → RdG wf 1 a n l := fun {a n l} hx => (hx.fr (r' := (Value.slice an nn cn).ownBlock) hf (fun x h1 h2 e => by have := hx.lo x h1 h2; omega) (.inl rfl)).rd
  refine ⟨(keep h.x5).rd hm.c.max hm.c.wf, ⟨hm.n.len, hm.n.max, fun i hi => ?_⟩, (keep h.x6).rdB hm.a.max⟩
  obtain ⟨aj, cj, h1, h2, h3⟩ := h.rows i hi
  obtain ⟨g, hg⟩ : ∃ g, an = some ⟨g, 0, none⟩ := by
    rcases h.row.2 with ⟨hv, h0⟩ | ⟨g', cap, cur, hv, _⟩
    · omega
    · simp only [Value.slice.injEq] at hv; exact ⟨g', hv.1⟩
  subst hg
  obtain ⟨b, off, ha, hc⟩ := (Row.rdG h.row).cell i _ h1
  simp only [Option.some.injEq, Addr.mk.injEq, and_true] at ha
  obtain ⟨rfl, rfl⟩ := ha
  have hlt := (Row.block_lt h.row (g := g) rfl).2
  obtain ⟨b1, o1, a1, n1, c1, _, _, hrd, _⟩ := hm.n.cell i hi
  exact ⟨g, 0, aj, _, cj, rfl, hf.cell hc (by simp; omega), (keep h3).rd (by have := hrd.max; have := hrd.len; omega) hrd.wf, h2⟩

def CopyMPost (s : Int) (cls : List Int) (next : List (List Int)) (acc : List Bool) (w : World) (e : Ending) (w' : World) : Prop :=
  ∃ ac cc an cn aa ca, e = .returned (.agg #[.int .i64 s, .slice ac cls.length cc, .slice an next.length cn, .slice aa acc.length ca]) ∧ RdM w' ac cls.length an next.length aa acc.length cls next acc ∧ Below w.heap.size w w'

set_option maxRecDepth 100000 in
set_option maxHeartbeats 40000000 in
theorem copyM_any (s : Int) (ac : Option Addr) (nc cc : Nat) (an : Option Addr) (nn cn : Nat) (aa : Option Addr) (na ca : Nat) (cls : List Int) (next : List (List Int)) (acc : List Bool) (w : World)
    (hm : RdM w ac nc an nn aa na cls next acc) (hz : SzM cls next acc) :
    Calls Try.prog 20 #[.agg #[.int .i64 s, .slice ac nc cc, .slice an nn cn, .slice aa na ca]] w (CopyMPost s cls next acc w) := by
  obtain ⟨w1, hw1⟩ : ∃ w1, w1 = w.alloc (.cells #[.int .i64 s, .slice ac nc cc, .slice an nn cn, .slice aa na ca] 26) := ⟨_, rfl⟩
  obtain ⟨w2, hw2⟩ : ∃ w2, w2 = w1.alloc (.cells #[.int .i64 0, .slice none 0 0, .slice none 0 0, .slice none 0 0] 26) := ⟨_, rfl⟩
  have hb1 : Below w.heap.size w w1 := by rw [hw1]; exact below_alloc _ _
  have hs1 : w1.heap.size = w.heap.size + 1 := by rw [hw1]; simp
  have hb12 : Below w1.heap.size w1 w2 := by rw [hw2]; exact below_alloc _ _
  have hb2 : Below w.heap.size w w2 := bthen hb1 hb12
  have hct : CT w2 w.heap.size s (.slice ac nc cc) (.slice an nn cn) (.slice aa na ca) := (show CT w1 w.heap.size s (.slice ac nc cc) (.slice an nn cn) (.slice aa na ca) by rw [hw1]; exact alloc_ct _ _ _ _ _ _).below hb12
  have hres : CT w2 (w.heap.size + 1) 0 (.slice none 0 0) (.slice none 0 0) (.slice none 0 0) := by rw [← hs1, hw2]; exact alloc_ct _ _ _ _ _ _
  have HW2 : Hid (w2 = _) := Lib.hid (hw2.trans (by rw [hw1]))
  have hs2 : w2.heap.size = w.heap.size + 2 := by rw [hw2]; simp [hs1]
  have HS2 := Lib.hid hs2
  have HM := Lib.hid (fun (wx : World) (hb : Below w2.heap.size w2 wx) => (hm.below hb2).below hb)
  have HCT := Lib.hid hct
  have HRES := Lib.hid hres
  have HB2 := Lib.hid hb2
  have HZ := Lib.hid hz
  have hnc : nc = cls.length := hm.c.len.symm
  have hna : na = acc.length := hm.a.len.symm
  have hnn : nn = next.length := hm.n.len.symm
  have HL := Lib.hid (And.intro hnc (And.intro hna hnn))
  have HRC := Lib.hid (fun (wx : World) (hb : Below w2.heap.size w2 wx) => (((hm.below hb2).below hb).c).rdG)
  have HRA := Lib.hid (fun (wx : World) (hb : Below w2.heap.size w2 wx) => (((hm.below hb2).below hb).a).rdG)
  have HZC : Hid (nc * 8 ≤ 140737488355328) := Lib.hid (by rw [hnc]; have := hz.c; omega)
  have HZA : Hid (na * 1 ≤ 140737488355328) := Lib.hid (by rw [hna]; have := hz.a; omega)
  have HO1 : Hid (∀ u ∈ cls.map (Value.int .i64), u.oneCell' = true) := Lib.hid (fun u hu => by obtain ⟨y, _, rfl⟩ := List.mem_map.1 hu; rfl)
  have HO2 : Hid (∀ u ∈ acc.map Value.bool, u.oneCell' = true) := Lib.hid (fun u hu => by obtain ⟨y, _, rfl⟩ := List.mem_map.1 hu; rfl)
  clear hm hz hw1 hw2 hb1 hb12 hs1 hs2 hres hnc hna hnn
  have HBB : Hid (Below w2.heap.size w2 w2.drew) := Lib.hid (Below.refl _ _).drew
  obtain ⟨z0, z1, z2, z3, -⟩ := HCT.out.below HBB.out
  have HS0 : Hid (w2.drew.cell? ⟨w.heap.size, 0, none⟩ = some (.int .i64 s) ∧ w2.drew.cell? ⟨w.heap.size, 1, none⟩ = some (.slice ac nc cc) ∧ w2.drew.cell? ⟨w.heap.size, 3, none⟩ = some (.slice aa na ca) ∧ Below w2.heap.size w2 w2.drew) := Lib.hid ⟨z0, z1, z3, HBB.out⟩
  have HKS : Hid (∀ wx, Below w2.heap.size w2 wx → wx.cell? ⟨w.heap.size, 0, none⟩ = some (.int .i64 s) ∧ wx.cell? ⟨w.heap.size, 1, none⟩ = some (.slice ac nc cc) ∧ wx.cell? ⟨w.heap.size, 3, none⟩ = some (.slice aa na ca) ∧ Below w2.heap.size w2 wx) := Lib.hid (fun wx hb => ⟨below_cell hb HCT.out.c0, below_cell hb HCT.out.c1, below_cell hb HCT.out.c3, hb⟩)
  clear hct hb2 z0 z1 z2 z3
  have hacl : ∀ (v : World) (cs : Array Value) (e : TypeId) (k j : Nat), k = v.heap.size → (v.alloc (.cells cs e)).cell? ⟨k, j, none⟩ = cs[j]? := fun v cs e k j h => by subst h; simp
  have hafz : ∀ (v : World) (cs : Array Value) (e : TypeId) (k j : Nat), k = v.heap.size → (v.alloc (.cells cs e)).frozen? ⟨k, j, none⟩ = false := fun v cs e k j h => by subst h; simp
  go_enter Try.func20, Try.ntmps20
  go_upto_region 1 with fail
  rw [← HW2.out]
  go_cut [3] (fun s3 wc => CopyMid s nc na cls acc w2 s3 wc)
  case first =>
    go_region_held3 (fun w' => w'.cell? ⟨w.heap.size, 0, none⟩ = some (.int .i64 s) ∧ w'.cell? ⟨w.heap.size, 1, none⟩ = some (.slice ac nc cc) ∧ w'.cell? ⟨w.heap.size, 3, none⟩ = some (.slice aa na ca) ∧ Below w2.heap.size w2 w') (first
      | with_reducible exact HS0.out
      | with_reducible exact ks3 (by assumption) (below_alloc _ _)
      | with_reducible exact ks3 (by assumption) (by assumption)
      | exact HKS.out _ (by repeat (first | with_reducible exact HWW5.out | with_reducible exact HWW6.out | with_reducible exact Below.refl _ _ | with_reducible refine Below.set1 ?_ (by first | (simp; done) | (simp; omega) | omega) _ | with_reducible refine Below.drew ?_ | with_reducible refine bthen ?_ (below_alloc _ _)))) (first
      | (refine step_app_empty (.tmp 7) (.tmp 9) EIG rfl rfl _ rfl ac nc cc _ rfl (HRC.out _ (ks3b (by assumption))) HO1.out (by have := HZC.out; omega) (by decide) ?_; intro a5 c5 w5 hr5 hb5 hc5 hx5; have HWW5 : Hid (Below w2.heap.size w2 w5) := Lib.hid (bthen (ks3b (by assumption)) hb5); have HX5 := Lib.hid hx5; obtain ⟨kc5, kf5⟩ := old_cell hb5; (try have q5a : w2.heap.size < w5.heap.size := sz_of hb5 (by first | (simp; done) | (simp; omega) | omega)); (try have q5b : w2.heap.size + 1 < w5.heap.size := sz_of hb5 (by first | (simp; done) | (simp; omega) | omega)); (try have q5e : w2.heap.size + 2 < w5.heap.size := sz_of hb5 (by first | (simp; done) | (simp; omega) | omega)); (try have q5c : w6.heap.size < w5.heap.size := sz_of hb5 (by first | (simp; done) | (simp; omega) | omega)); (try have q5d : w6.heap.size + 1 < w5.heap.size := sz_of hb5 (by first | (simp; done) | (simp; omega) | omega)); have HR5 := Lib.hid hr5; clear hr5 hc5 hx5)
      | (refine step_app_empty (.tmp 11) (.tmp 13) EBG rfl rfl _ rfl aa na ca _ rfl (HRA.out _ (ks3b (by assumption))) HO2.out (by have := HZA.out; omega) (by decide) ?_; intro a6 c6 w6 hr6 hb6 hc6 hx6; have HWW6 : Hid (Below w2.heap.size w2 w6) := Lib.hid (bthen (ks3b (by assumption)) hb6); have HX6 := Lib.hid hx6; obtain ⟨kc6, kf6⟩ := old_cell hb6; (try have q6a : w2.heap.size < w6.heap.size := sz_of hb6 (by first | (simp; done) | (simp; omega) | omega)); (try have q6b : w2.heap.size + 1 < w6.heap.size := sz_of hb6 (by first | (simp; done) | (simp; omega) | omega)); (try have q6e : w2.heap.size + 2 < w6.heap.size := sz_of hb6 (by first | (simp; done) | (simp; omega) | omega)); (try have q6c : w5.heap.size < w6.heap.size := sz_of hb6 (by first | (simp; done) | (simp; omega) | omega)); (try have q6d : w5.heap.size + 1 < w6.heap.size := sz_of hb6 (by first | (simp; done) | (simp; omega) | omega)); have HR6 := Lib.hid hr6; clear hr6 hc6 hx6))
    all_goals
      go_wp2
      go_meet
      refine ⟨_, a5, c5, a6, c6, rfl, ?_, ?_, RdX.of HR5.out HX5.out (by repeat (first | with_reducible exact Fr.refl _ _ | with_reducible refine Fr.set1 ?_ _ | with_reducible refine Fr.alloc ?_ _ | with_reducible refine Fr.drew ?_ | with_reducible refine Fr.trans ?_ (Fr.of_below (by assumption)))) (by first | (simp; done) | (simp; omega) | omega) (by first | exact .inl (by first | (simp; done) | (simp; omega) | omega) | exact .inr (by first | (simp; done) | (simp; omega) | omega) | exact .inr hb6.size | exact .inr hb5.size), RdX.of HR6.out HX6.out (by repeat (first | with_reducible exact Fr.refl _ _ | with_reducible refine Fr.set1 ?_ _ | with_reducible refine Fr.alloc ?_ _ | with_reducible refine Fr.drew ?_ | with_reducible refine Fr.trans ?_ (Fr.of_below (by assumption)))) (by first | (simp; done) | (simp; omega) | omega) (by first | exact .inl (by first | (simp; done) | (simp; omega) | omega) | exact .inr (by first | (simp; done) | (simp; omega) | omega) | exact .inr hb6.size | exact .inr hb5.size), ks3b (by assumption)⟩
      · first | (simp; done) | (simp; omega) | omega
      · first
          | exact alloc_ct _ _ _ _ _ _
          | exact CT.set4 (k0 := 0) (u1 := .slice none 0 0) (u2 := .slice none 0 0) (u3 := .slice none 0 0) ⟨by go_simp, by go_simp, by go_simp, by go_simp, fun j => by go_simp⟩ _ _ _ _
  case rest =>
    obtain ⟨gm, a5, c5, a6, c6, rfl, hlo, hct5, hx5, hx6, hbm⟩ := hcut
    have HCI0 : Hid (CI w2 gm s nc na cls next acc a5 c5 a6 c6 0 none 0 [] wc) := Lib.hid ⟨hct5, World.ownsRow_nil _ _ _ _, fun g hg => (by cases hg), hx5, hx6, fun j hj => by omega, hbm, hlo⟩
    have HBOXW : Hid (w.heap.size + 2 ≤ w2.heap.size) := Lib.hid (by rw [HS2.out]; exact Nat.le_refl _)
    clear hlo hct5 hx5 hx6 hbm
    go_wp2
    go_loopw [4] (fun iv wr => ∃ (i : Nat) (an2 : Option Addr) (cn2 : Nat) (xs : List Value), iv = .int .i64 i ∧ i ≤ nn ∧ CI w2 gm s nc na cls next acc a5 c5 a6 c6 i an2 cn2 xs wr) (fun iv _ => nn - (intOf iv).toNat)
    case atStart => exact ⟨0, none, 0, [], rfl, by omega, HCI0.out⟩
    case round =>
      obtain ⟨i, an2, cn2, xs, rfl, hi, hci⟩ := hrel
      have HCI := Lib.hid hci
      obtain ⟨-, -, y2, -, -⟩ := HCT.out.fr (F := fun _ => False) (.of_below (hci.b.mono (Nat.le_refl _))) (fun h => h)
      by_cases hlt : i < nn
      · obtain ⟨b, off, ai, ni, ci, rfl, hcr, hrd, hcap⟩ := (HM.out wr hci.b).n.cell i hlt
        have HNI := Lib.hid hrd.len
        have HLT := Lib.hid hlt
        have hii : (i : Int) < (nn : Int) := by omega
        have HNN9 : Hid (nn ≤ 1000) := Lib.hid (by rw [HL.out.2.2]; exact HZ.out.n)
        have hi9 : (i : Int) ≤ 1000 := by have := HNN9.out; omega
        have HNIB : Hid (ni * 8 ≤ 140737488351232) := Lib.hid (by rw [← HNI.out]; exact HZ.out.r _ (getD_mem (by have := HL.out.2.2; omega)))
        have HRI := Lib.hid (fun (wx : World) (hb : Below wr.heap.size wr wx) => (hrd.below hb).rdG)
        have HOI : Hid (∀ u ∈ (next.getD i []).map (Value.int .i64), u.oneCell' = true) := Lib.hid (fun u hu => by obtain ⟨y, _, rfl⟩ := List.mem_map.1 hu; rfl)
        have HCELLS : Hid (∀ wx, Below wr.heap.size wr wx → wx.cell? ⟨gm, 2, none⟩ = some (.slice an2 i cn2) ∧ wx.cell? ⟨w.heap.size, 2, none⟩ = some (.slice (some ⟨b, off, none⟩) nn cn) ∧ wx.cell? ⟨b, off + i, none⟩ = some (.slice ai ni ci)) := Lib.hid (fun wx hb => ⟨below_cell hb hci.ct.c2, below_cell hb y2, below_cell hb hcr⟩)
        obtain ⟨d0, d1, d2⟩ := HCELLS.out wr.drew (Below.refl _ _).drew
        have d3 : ∀ o, (wr.alloc o).drew.cell? ⟨gm, 2, none⟩ = some (.slice an2 i cn2) := fun o => (HCELLS.out _ (below_alloc wr o).drew).1
        have d4 : ∀ o, (wr.alloc o).drew.cell? ⟨w.heap.size, 2, none⟩ = some (.slice (some ⟨b, off, none⟩) nn cn) := fun o => (HCELLS.out _ (below_alloc wr o).drew).2.1
        have d5 : ∀ o, (wr.alloc o).drew.cell? ⟨b, off + i, none⟩ = some (.slice ai ni ci) := fun o => (HCELLS.out _ (below_alloc wr o).drew).2.2
        have HGMF : Hid (gm < wr.heap.size) := Lib.hid hci.ct.lt
        clear hci hlt hi hrd hcap hcr
        go_upto_region 5 with fail
        go_region_law (first
          | (refine step_app_empty (.tmp 25) (.tmp 30) EIG rfl rfl _ rfl ai ni ci _ rfl (HRI.out _ (by repeat (first | with_reducible exact Below.refl _ _ | with_reducible refine Below.drew ?_ | with_reducible refine bthen ?_ (below_alloc _ _)))) HOI.out (by have := HNIB.out; omega) (by decide) ?_; intro a31 c31 w31 hr31 hb31 hc31 hx31; have HB31 : Hid (Below wr.heap.size wr w31) := Lib.hid (bthen (by repeat (first | with_reducible exact Below.refl _ _ | with_reducible refine Below.drew ?_ | with_reducible refine bthen ?_ (below_alloc _ _))) hb31); obtain ⟨e0, e1, e2⟩ := HCELLS.out w31 HB31.out; have e3 : ∀ o, (w31.alloc o).cell? ⟨gm, 2, none⟩ = some (.slice an2 i cn2) := fun o => (HCELLS.out _ (bthen HB31.out (below_alloc w31 o))).1; have HX31 := Lib.hid (HCI.out.fresh (w1 := _) (by repeat (first | with_reducible exact Below.refl _ _ | with_reducible refine Below.drew ?_ | with_reducible refine bthen ?_ (below_alloc _ _))) hr31 hx31); have HC31 := Lib.hid hc31; clear hr31 hb31 hc31 hx31)
          | (refine step_app_row_at (.tmp 24) (.tmp 32) ESI rfl rfl w2.heap.size (.slice an2 i cn2) i xs rfl (Row.below HCI.out.row (bthen HB31.out (below_alloc _ _))) (some ⟨_, 0, none⟩) 1 1 [.slice a31 ni c31] rfl (RdG.lits _ 1 _ 1 [.slice a31 ni c31] rfl) (by simp [Value.oneCell']) (by have := HNN9.out; have := HLT.out; omega) (by decide) (Nat.le_trans HCI.out.b.size (Nat.le_trans HB31.out.size (below_alloc _ _).size)) ?_; intro a33 c33 w33 hr33 hg33 hat33; have HPUSH := Lib.hid (CI.push (HCI.out.below (bthen HB31.out (below_alloc _ _))) HNI.out HC31.out (HX31.out.below (below_alloc _ _)) hr33 hg33 hat33); have f0 : w33.cell? ⟨gm, 2, none⟩ = some (.slice an2 i cn2) := hg33.cell (e3 _) (fun e => HCI.out.gne gm e.symm rfl); have f1 : w33.frozen? ⟨gm, 2, none⟩ = false := ((Fr.of_grown (S := fun x => (Value.slice an2 i cn2).ownBlock = some x) hg33 (fun k hk => hk)).frozen (x := ⟨gm, 2, none⟩) (by have h1 := HGMF.out; have h2 := HB31.out.size; simp; omega) (fun e => HCI.out.gne gm e rfl)).trans ((HCI.out.below (bthen HB31.out (below_alloc _ _))).ct.fz 2); clear hr33 hg33 hat33))
        all_goals
          go_wp2
          go_roundw
          case rel => exact ⟨i + 1, a33, c33, _, by go_num, HLT.out, HPUSH.out⟩
          case measure => have := HLT.out; simp [intOf]; omega
      · obtain rfl : nn = i := by omega
        have HEND : Hid (∀ wf, Fr (fun x => x = w.heap.size + 1) wr wf → CopyMPost s cls next acc w (.returned (.agg #[.int .i64 s, .slice a5 nc c5, .slice an2 nn cn2, .slice a6 na c6])) wf) := Lib.hid (fun wf hf => by
          have h1 := hci.done (HM.out w2 (Below.refl _ _)) (r := w.heap.size + 1) (by have := HBOXW.out; omega) hf
          obtain ⟨e1, e2, e3⟩ := HL.out
          rw [e1, e2, e3] at h1 ⊢
          exact ⟨a5, c5, an2, cn2, a6, c6, rfl, h1, (bthen HB2.out hci.b).trans (hf.below (fun x e => by omega) (Nat.le_trans (bthen HB2.out hci.b).size (Nat.le_refl _)))⟩)
        obtain ⟨c0, c1, c2, c3, -⟩ := hci.ct
        obtain ⟨r0, r1, r2, r3, rf⟩ := HRES.out.fr (F := fun _ => False) (.of_below hci.b) (fun h => h)
        have rf0 := rf 0
        have rf1 := rf 1
        have rf2 := rf 2
        have rf3 := rf 3
        clear hci hlt hi rf
        go_wp2
        exact bodyPost_ret (v := .agg #[.int .i64 s, .slice a5 nc c5, .slice an2 nn cn2, .slice a6 na c6]) (by simp [results, Try.results20, go_sem, r0, r1, r2, r3]) rfl (HEND.out _ (fr4 wr (w.heap.size + 1) (.int .i64 s) (.slice a5 nc c5) (.slice an2 nn cn2) (.slice a6 na c6)))

end Go.Proofs.Ytajajkganamfiaa
