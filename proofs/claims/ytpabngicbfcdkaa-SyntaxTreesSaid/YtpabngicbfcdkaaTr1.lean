/-
  Trees that a list of nodes describes: what is read of the list.
-/
import Derived.Test.YtpabngicbfcdkaaPar7
namespace Go.Proofs.Ytpabngicbfcdkaa
open Go.RowKit
set_option linter.unusedVariables false
set_option linter.unusedSimpArgs false

/-- a node of a list: kind, text, number, arguments -/
abbrev Nd := Int × ByteArray × Int × List Int

/-- numbers as they are read, in blocks of T -/
structure RdI (w : World) (T : Nat → Prop) (a : Option Addr) (l : List Int) : Prop where
  max : l.length ≤ 9223372036854775807
  cell : ∀ j y, l[j]? = some y → ∃ b off, a = some ⟨b, off, none⟩ ∧ T b ∧ w.cell? ⟨b, off + j, none⟩ = some (.int .i64 y)
  wf : ∀ y ∈ l, (Lit.int .i64 y).wf = true
theorem RdI.fr {w w' : World} {T S : Nat → Prop} {a l} (h : RdI w T a l) (hf : Fr S w w') (hd : ∀ i, T i → ¬ S i) : RdI w' T a l :=
  ⟨h.max, fun j y hy => by
    obtain ⟨b, off, ha, hT, hc⟩ := h.cell j y hy
    exact ⟨b, off, ha, hT, hf.cell hc (hd b hT)⟩, h.wf⟩

/-- a list of nodes as it is read, in blocks of T -/
structure RdN (w : World) (T : Nat → Prop) (a : Option Addr) (n : Nat) (L : List Nd) : Prop where
  len : L.length = n
  max : n ≤ 9223372036854775807
  cell : ∀ i x, L[i]? = some x → ∃ b off aa cc, a = some ⟨b, off, none⟩ ∧ T b ∧ w.cell? ⟨b, off + i * 4, none⟩ = some (.int .i64 x.1) ∧ w.cell? ⟨b, off + i * 4 + 1, none⟩ = some (.string x.2.1) ∧ w.cell? ⟨b, off + i * 4 + 2, none⟩ = some (.int .i64 x.2.2.1) ∧ w.cell? ⟨b, off + i * 4 + 3, none⟩ = some (.slice aa x.2.2.2.length cc) ∧ RdI w T aa x.2.2.2
theorem RdN.fr {w w' : World} {T S : Nat → Prop} {a n L} (h : RdN w T a n L) (hf : Fr S w w') (hd : ∀ i, T i → ¬ S i) : RdN w' T a n L :=
  ⟨h.len, h.max, fun i x hx => by
    obtain ⟨b, off, aa, cc, ha, hT, c0, c1, c2, c3, hI⟩ := h.cell i x hx
    exact ⟨b, off, aa, cc, ha, hT, hf.cell c0 (hd b hT), hf.cell c1 (hd b hT), hf.cell c2 (hd b hT), hf.cell c3 (hd b hT), hI.fr hf hd⟩⟩
theorem RdN.below {w w' : World} {T : Nat → Prop} {a n L} (h : RdN w T a n L) (hb : Below w.heap.size w w') : RdN w' T a n L := h.fr (S := fun _ => False) (.of_below hb) (fun _ _ h => h)

/-- the counter -/
structure CtA (w : World) (pb : Nat) (x : Int) : Prop where
  c : w.cell? ⟨pb, 0, none⟩ = some (.int .i64 x)
  z : w.frozen? ⟨pb, 0, none⟩ = false
theorem CtA.lt {w : World} {pb x} (h : CtA w pb x) : pb < w.heap.size := World.block_lt_of_cell? w _ h.c
theorem CtA.fr {w w' : World} {S : Nat → Prop} {pb x} (h : CtA w pb x) (hf : Fr S w w') (hn : ¬ S pb) : CtA w' pb x := ⟨hf.cell h.c hn, (hf.frozen h.lt hn).trans h.z⟩
theorem CtA.below {w w' : World} {pb x} (h : CtA w pb x) (hb : Below w.heap.size w w') : CtA w' pb x := h.fr (S := fun _ => False) (.of_below hb) (fun h => h)
theorem CtA.drew {w : World} {pb x} (h : CtA w pb x) : CtA w.drew pb x := ⟨h.c, h.z⟩
theorem CtA.set {w : World} {pb x} (h : CtA w pb x) (y : Int) : CtA (w.setCell ⟨pb, 0, none⟩ (.int .i64 y)) pb y := ⟨set_same h.c, by simp [h.z]⟩

/-- what holds of a node's own fields -/
def goodE (good : Int → ByteArray → Int → Bool) (e : Ex) : Bool := good e.kind e.text e.num

/-- what tree returns, and how far the counter has run -/
def TreePost (good : Int → ByteArray → Int → Bool) (x : Int) (pb : Nat) (w : World) (e : Ending) (w' : World) : Prop :=
  ∃ (t : Ex) (a : Option Addr) (c : Nat) (x' : Int), e = .returned (exV t a c) ∧ t.args.length ≤ c ∧ RdA (fun b => w.heap.size ≤ b) w' t.args a ∧ CtA w' pb x' ∧ -1 ≤ x' ∧ x' < x ∧ (0 ≤ x' → (t.size : Int) = x - x') ∧ t.all (goodE good) ∧ Fr (fun b => b = pb) w w'

theorem fin_tree {good : Int → ByteArray → Int → Bool} {w wr wf : World} {pb : Nat} {x x' : Int} {t : Ex} {aa : Option Addr} {cc : Nat} (hc : CtA wr pb x') (hpl : pb < w.heap.size) (hcc : t.args.length ≤ cc) (hra : RdA (fun b => w.heap.size < b) wr t.args aa)
    (hfr : Fr (fun b => b = pb) w wr) (hf : Fr (fun b => b = w.heap.size) wr wf) (h1 : -1 ≤ x') (h2 : x' < x) (h3 : 0 ≤ x' → (t.size : Int) = x - x') (h4 : t.all (goodE good)) : TreePost good x pb w (.returned (exV t aa cc)) wf :=
  ⟨t, aa, cc, x', rfl, hcc, (hra.fr hf (fun i hi e => by omega)).mono (fun i _ hi => by omega), hc.fr hf (by omega), h1, h2, h3, h4, hfr.then hf (fun i e => .inr (by omega))⟩

/-- the loop over a node's arguments, between its rounds -/
structure TLp (good : Int → ByteArray → Int → Bool) (w : World) (pb be : Nat) (x : Int) (kd : Int) (s : ByteArray) (nm : Int) (wr : World) (L : List TV) (ra : Option Addr) (rc : Nat) (xk : Int) : Prop where
  ct : CtA wr pb xk
  ec : EC wr be (.mk kd s nm (L.map (·.1))) ra rc
  tc : EC wr w.heap.size eE none 0
  row : Row wr (be + 1) 38 4 (.slice ra L.length rc) L.length (cellsX L)
  tr : ∀ y ∈ L, y.1.args.length ≤ y.2.2 ∧ RdA (fun i => w.heap.size < i ∧ i ≠ be ∧ (Value.slice ra L.length rc).ownBlock ≠ some i) wr y.1.args y.2.1
  fr : Fr (fun b => b = pb) w wr
  lo : -1 ≤ xk
  hi : xk + L.length < x
  sz : 0 ≤ xk → (Ex.sizes (L.map (·.1)) : Int) = x - 1 - xk
  al : ∀ y ∈ L, y.1.all (goodE good)

theorem TLp.rd {good w pb be x kd s nm wr L ra rc xk} (h : TLp good w pb be x kd s nm wr L ra rc xk) (hbe : w.heap.size < be) : RdA (fun i => w.heap.size < i) wr (L.map (·.1)) ra := by
  refine rdA_row L h.row (fun g hg => ?_) (fun x hx => ⟨(h.tr x hx).1, (h.tr x hx).2.mono (fun i _ hi => hi.1)⟩)
  have := (Row.block_lt h.row hg).2
  omega
theorem TLp.size {good w pb be x kd s nm wr L ra rc xk} (h : TLp good w pb be x kd s nm wr L ra rc xk) (h0 : 0 ≤ xk) : ((Ex.mk kd s nm (L.map (·.1))).size : Int) = x - xk := by
  have := h.sz h0
  simp only [Ex.size]; omega
theorem TLp.all {good w pb be x kd s nm wr L ra rc xk} (h : TLp good w pb be x kd s nm wr L ra rc xk) (hg : good kd s nm = true) : (Ex.mk kd s nm (L.map (·.1))).all (goodE good) := by
  rw [Ex.all_eq]
  refine ⟨hg, fun i u hu => ?_⟩
  simp only [Ex.args, List.getElem?_map] at hu
  obtain ⟨y, hy, rfl⟩ := Option.map_eq_some_iff.1 hu
  exact h.al y (List.mem_of_getElem? hy)

theorem TLp.push {good : Int → ByteArray → Int → Bool} {w wr w6 w7 : World} {pb be : Nat} {x : Int} {kd : Int} {s : ByteArray} {nm : Int} {L : List TV} {ra a7 aa6 : Option Addr} {rc c7 cc6 : Nat} {xk x6 : Int} {t6 : Ex} {o : Obj}
    (h : TLp good w pb be x kd s nm wr L ra rc xk) (hpl : pb < w.heap.size) (hbe : w.heap.size < be) (hxk : 0 ≤ xk)
    (hf6 : Fr (fun b => b = pb) wr w6) (hct6 : CtA w6 pb x6) (hcc6 : t6.args.length ≤ cc6) (hra6 : RdA (fun i => wr.heap.size ≤ i) w6 t6.args aa6) (h1 : -1 ≤ x6) (h2 : x6 < xk) (h3 : 0 ≤ x6 → (t6.size : Int) = xk - x6) (h4 : t6.all (goodE good))
    (hr7 : Row w7 (be + 1) 38 4 (.slice a7 (L.length + 1) c7) (L.length + 1) (cellsX L ++ [.int .i64 t6.kind, .string t6.text, .int .i64 t6.num, .slice aa6 t6.args.length cc6]))
    (hgf : Fr (fun b => (Value.slice ra L.length rc).ownBlock = some b) (w6.alloc o) w7) (hat : (Value.slice a7 (L.length + 1) c7).ownBlock = (Value.slice ra L.length rc).ownBlock ∨ (Value.slice a7 (L.length + 1) c7).ownBlock = some (w6.alloc o).heap.size) :
    TLp good w pb be x kd s nm (w7.setCell ⟨be, 3, none⟩ (.slice a7 (L.length + 1) c7)) (L ++ [(t6, aa6, cc6)]) a7 c7 x6 := by
  obtain ⟨ct, ec0, tc, row, tr, fr, lo, hi, sz, al⟩ := h
  have hbw : be < wr.heap.size := ec0.lt
  have hob : ∀ g, (Value.slice ra L.length rc).ownBlock = some g → be < g ∧ g < wr.heap.size := fun g hg => by have := Row.block_lt row hg; omega
  have h6 := hf6.size
  have hsa : (w6.alloc o).heap.size = w6.heap.size + 1 := by simp
  have hs : Fr (fun b => b = be) w7 (w7.setCell ⟨be, 3, none⟩ (.slice a7 (L.length + 1) c7)) := (Fr.refl (fun b => b = be) w7).setCell (p := ⟨be, 3, none⟩) rfl _
  have hnb : ∀ g, (Value.slice a7 (L.length + 1) c7).ownBlock = some g → be < g := fun g hg => (by
    rcases hat with h | h
    · rw [h] at hg; exact (hob g hg).1
    · rw [h] at hg; cases hg; omega)
  have hlen : (L ++ [(t6, aa6, cc6)]).length = L.length + 1 := by simp
  have ec7 : EC w7 be (.mk kd s nm (L.map (·.1))) ra rc := (((ec0.fr hf6 (by omega))).below (below_alloc w6 o)).fr hgf (fun e => by have := hob _ e; omega)
  have fwd : ∀ (us : List Ex) (a : Option Addr), RdA (fun i => w.heap.size < i ∧ i ≠ be ∧ (Value.slice ra L.length rc).ownBlock ≠ some i) w6 us a → RdA (fun i => w.heap.size < i ∧ i ≠ be ∧ (Value.slice a7 (L.length + 1) c7).ownBlock ≠ some i) (w7.setCell ⟨be, 3, none⟩ (.slice a7 (L.length + 1) c7)) us a := fun us a h => by
    have h1 : RdA (fun i => w.heap.size < i ∧ i ≠ be ∧ (Value.slice ra L.length rc).ownBlock ≠ some i ∧ i < w6.heap.size) w6 us a := h.mono (fun i hi hh => ⟨hh.1, hh.2.1, hh.2.2, hi⟩)
    have h2 := ((h1.below (below_alloc w6 o)).fr hgf (fun i hi e => hi.2.2.1 e)).fr hs (fun i hi e => hi.2.1 e)
    refine h2.mono (fun i _ hi => ⟨hi.1, hi.2.1, fun e => ?_⟩)
    rcases hat with h | h
    · rw [h] at e; exact hi.2.2.1 e
    · rw [h] at e; cases e; have := hi.2.2.2; omega
  refine ⟨?_, ⟨set_other (by simp) ec7.c0, set_other (by simp) ec7.c1, set_other (by simp) ec7.c2, ?_, fun j => by simp [ec7.fz j]⟩, ?_, ?_, fun y hy => ?_, ?_, h1, by rw [hlen]; push_cast; omega, fun h0 => ?_, fun y hy => ?_⟩
  · exact ((hct6.below (below_alloc w6 o)).fr hgf (fun e => by have := hob _ e; omega)).fr hs (by omega)
  · have := set_same (v := .slice a7 (L.length + 1) c7) ec7.c3
    simpa [Ex.args] using this
  · exact (((tc.fr hf6 (by omega)).below (below_alloc w6 o)).fr hgf (fun e => by have := hob _ e; omega)).fr hs (by omega)
  · rw [hlen, cellsX_snoc]
    exact Row.fr hr7 hs (fun g hg e => by have := hnb g hg; omega)
  · rw [hlen]
    rcases List.mem_append.1 hy with hy | hy
    · exact ⟨(tr y hy).1, fwd _ _ ((tr y hy).2.fr hf6 (fun i hi e => by omega))⟩
    · rcases List.mem_cons.1 hy with rfl | hy
      · exact ⟨hcc6, fwd _ _ (hra6.mono (fun i hi hh => ⟨by have := fr.size; omega, by omega, fun e => by have := hob i e; omega⟩))⟩
      · cases hy
  · exact (((fr.trans hf6).trans (.of_below (below_alloc w6 o))).then hgf (fun i e => .inr (by have := hob i e; have := fr.size; omega))).then hs (fun i e => .inr (by omega))
  · rw [List.map_append, Ex.sizes_append]
    have := sz hxk
    have := h3 h0
    simp only [List.map_cons, List.map_nil, Ex.sizes]
    omega
  · rcases List.mem_append.1 hy with hy | hy
    · exact al y hy
    · rcases List.mem_cons.1 hy with rfl | hy
      · exact h4
      · cases hy

end Go.Proofs.Ytpabngicbfcdkaa
