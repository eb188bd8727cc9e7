/-
  Joined texts: Trees that a list of nodes describes: what is read of the list. · evergreenlaw54.tree: the walk. · evergreenlaw54.Tree: the walk. · What the laws of the Door over lists of nodes have in common: the tree of a list, its box. · The reference's decimal and quote. · The reference's bytes of references.
-/
import Derived.Test.YtpabngicbfcdkaaDoorFo5
import Derived.Deep.RegionLaw
import Derived.Deep.RegionHeld3
import Derived.Deep.LoopGhost
import Derived.Deep.DeepCutAuto
import Derived.Test.YtpabngicbfcdkaaDoorFo9
import Derived.Test.YtpabngicbfcdkaaDoorFo7
import Derived.Test.YtpabngicbfcdkaaDoorFo6

/- Trees that a list of nodes describes: what is read of the list. -/
namespace Go.Proofs.YtpabngicbfcdkaaDoor
open Go.RowKit
set_option linter.unusedVariables false
set_option linter.unusedSimpArgs false

/-- a node of a list: kind, text, number, arguments -/
abbrev Nd := Int × ByteArray × Int × List Int

/-- numbers as they are read, in blocks of T -/
structure RdI (w : World) (T : Nat → Prop) (a : Option Addr) (l : List Int) : Prop where
  max : l.length ≤ 9223372036854775807
  cell : ∀ j y, l[j]? = some y → ∃ b off, a = some ⟨b, off, none⟩ ∧ T b ∧ w.cell? ⟨b, off + j, none⟩ = some (.int .i64 y)
  wf : ∀ y ∈ l, (Lit.int .i64 y).wf = true
theorem RdI.fr {w w' : World} {T S : Nat → Prop} {a l} (h : RdI w T a l) (hf : Fr S w w') (hd : ∀ i, T i → ¬ S i) : RdI w' T a l :=
  ⟨h.max, fun j y hy => by
    obtain ⟨b, off, ha, hT, hc⟩ := h.cell j y hy
    exact ⟨b, off, ha, hT, hf.cell hc (hd b hT)⟩, h.wf⟩

/-- a list of nodes as it is read, in blocks of T -/
structure RdN (w : World) (T : Nat → Prop) (a : Option Addr) (n : Nat) (L : List Nd) : Prop where
  len : L.length = n
  max : n ≤ 9223372036854775807
  cell : ∀ i x, L[i]? = some x → ∃ b off aa cc, a = some ⟨b, off, none⟩ ∧ T b ∧ w.cell? ⟨b, off + i * 4, none⟩ = some (.int .i64 x.1) ∧ w.cell? ⟨b, off + i * 4 + 1, none⟩ = some (.string x.2.1) ∧ w.cell? ⟨b, off + i * 4 + 2, none⟩ = some (.int .i64 x.2.2.1) ∧ w.cell? ⟨b, off + i * 4 + 3, none⟩ = some (.slice aa x.2.2.2.length cc) ∧ RdI w T aa x.2.2.2
theorem RdN.fr {w w' : World} {T S : Nat → Prop} {a n L} (h : RdN w T a n L) (hf : Fr S w w') (hd : ∀ i, T i → ¬ S i) : RdN w' T a n L :=
  ⟨h.len, h.max, fun i x hx => by
    obtain ⟨b, off, aa, cc, ha, hT, c0, c1, c2, c3, hI⟩ := h.cell i x hx
    exact ⟨b, off, aa, cc, ha, hT, hf.cell c0 (hd b hT), hf.cell c1 (hd b hT), hf.cell c2 (hd b hT), hf.cell c3 (hd b hT), hI.fr hf hd⟩⟩
theorem RdN.below {w w' : World} {T : Nat → Prop} {a n L} (h : RdN w T a n L) (hb : Below w.heap.size w w') : RdN w' T a n L := h.fr (S := fun _ => False) (.of_below hb) (fun _ _ h => h)

/-- the counter -/
structure CtA (w : World) (pb : Nat) (x : Int) : Prop where
  c : w.cell? ⟨pb, 0, none⟩ = some (.int .i64 x)
  z : w.frozen? ⟨pb, 0, none⟩ = false
theorem CtA.lt {w : World} {pb x} (h : CtA w pb x) : pb < w.heap.size := World.block_lt_of_cell? w _ h.c
theorem CtA.fr {w w' : World} {S : Nat → Prop} {pb x} (h : CtA w pb x) (hf : Fr S w w') (hn : ¬ S pb) : CtA w' pb x := ⟨hf.cell h.c hn, (hf.frozen h.lt hn).trans h.z⟩
theorem CtA.below {w w' : World} {pb x} (h : CtA w pb x) (hb : Below w.heap.size w w') : CtA w' pb x := h.fr (S := fun _ => False) (.of_below hb) (fun h => h)
theorem CtA.drew {w : World} {pb x} (h : CtA w pb x) : CtA w.drew pb x := ⟨h.c, h.z⟩
theorem CtA.set {w : World} {pb x} (h : CtA w pb x) (y : Int) : CtA (w.setCell ⟨pb, 0, none⟩ (.int .i64 y)) pb y := ⟨set_same h.c, by simp [h.z]⟩

/-- what holds of a node's own fields -/
def goodE (good : Int → ByteArray → Int → Bool) (e : Ex) : Bool := good e.kind e.text e.num

/-- what tree returns, and how far the counter has run -/
def TreePost (good : Int → ByteArray → Int → Bool) (x : Int) (pb : Nat) (w : World) (e : Ending) (w' : World) : Prop :=
  ∃ (t : Ex) (a : Option Addr) (c : Nat) (x' : Int), e = .returned (exV t a c) ∧ t.args.length ≤ c ∧ RdA (fun b => w.heap.size ≤ b) w' t.args a ∧ CtA w' pb x' ∧ -1 ≤ x' ∧ x' < x ∧ (0 ≤ x' → (t.size : Int) = x - x') ∧ t.all (goodE good) ∧ Fr (fun b => b = pb) w w'

theorem fin_tree {good : Int → ByteArray → Int → Bool} {w wr wf : World} {pb : Nat} {x x' : Int} {t : Ex} {aa : Option Addr} {cc : Nat} (hc : CtA wr pb x') (hpl : pb < w.heap.size) (hcc : t.args.length ≤ cc) (hra : RdA (fun b => w.heap.size < b) wr t.args aa)
    (hfr : Fr (fun b => b = pb) w wr) (hf : Fr (fun b => b = w.heap.size) wr wf) (h1 : -1 ≤ x') (h2 : x' < x) (h3 : 0 ≤ x' → (t.size : Int) = x - x') (h4 : t.all (goodE good)) : TreePost good x pb w (.returned (exV t aa cc)) wf :=
  ⟨t, aa, cc, x', rfl, hcc, (hra.fr hf (fun i hi e => by omega)).mono (fun i _ hi => by omega), hc.fr hf (by omega), h1, h2, h3, h4, hfr.then hf (fun i e => .inr (by omega))⟩

/-- the loop over a node's arguments, between its rounds -/
structure TLp (good : Int → ByteArray → Int → Bool) (w : World) (pb be : Nat) (x : Int) (kd : Int) (s : ByteArray) (nm : Int) (wr : World) (L : List TV) (ra : Option Addr) (rc : Nat) (xk : Int) : Prop where
  ct : CtA wr pb xk
  ec : EC wr be (.mk kd s nm (L.map (·.1))) ra rc
  tc : EC wr w.heap.size eE none 0
  row : Row wr (be + 1) 25 4 (.slice ra L.length rc) L.length (cellsX L)
  tr : ∀ y ∈ L, y.1.args.length ≤ y.2.2 ∧ RdA (fun i => w.heap.size < i ∧ i ≠ be ∧ (Value.slice ra L.length rc).ownBlock ≠ some i) wr y.1.args y.2.1
  fr : Fr (fun b => b = pb) w wr
  lo : -1 ≤ xk
  hi : xk + L.length < x
  sz : 0 ≤ xk → (Ex.sizes (L.map (·.1)) : Int) = x - 1 - xk
  al : ∀ y ∈ L, y.1.all (goodE good)

theorem TLp.rd {good w pb be x kd s nm wr L ra rc xk} (h : TLp good w pb be x kd s nm wr L ra rc xk) (hbe : w.heap.size < be) : RdA (fun i => w.heap.size < i) wr (L.map (·.1)) ra := by
  refine rdA_row L h.row (fun g hg => ?_) (fun x hx => ⟨(h.tr x hx).1, (h.tr x hx).2.mono (fun i _ hi => hi.1)⟩)
  have := (Row.block_lt h.row hg).2
  omega
theorem TLp.size {good w pb be x kd s nm wr L ra rc xk} (h : TLp good w pb be x kd s nm wr L ra rc xk) (h0 : 0 ≤ xk) : ((Ex.mk kd s nm (L.map (·.1))).size : Int) = x - xk := by
  have := h.sz h0
  simp only [Ex.size]; omega
theorem TLp.all {good w pb be x kd s nm wr L ra rc xk} (h : TLp good w pb be x kd s nm wr L ra rc xk) (hg : good kd s nm = true) : (Ex.mk kd s nm (L.map (·.1))).all (goodE good) := by
  rw [Ex.all_eq]
  refine ⟨hg, fun i u hu => ?_⟩
  simp only [Ex.args, List.getElem?_map] at hu
  obtain ⟨y, hy, rfl⟩ := Option.map_eq_some_iff.1 hu
  exact h.al y (List.mem_of_getElem? hy)

theorem TLp.push {good : Int → ByteArray → Int → Bool} {w wr w6 w7 : World} {pb be : Nat} {x : Int} {kd : Int} {s : ByteArray} {nm : Int} {L : List TV} {ra a7 aa6 : Option Addr} {rc c7 cc6 : Nat} {xk x6 : Int} {t6 : Ex} {o : Obj}
    (h : TLp good w pb be x kd s nm wr L ra rc xk) (hpl : pb < w.heap.size) (hbe : w.heap.size < be) (hxk : 0 ≤ xk)
    (hf6 : Fr (fun b => b = pb) wr w6) (hct6 : CtA w6 pb x6) (hcc6 : t6.args.length ≤ cc6) (hra6 : RdA (fun i => wr.heap.size ≤ i) w6 t6.args aa6) (h1 : -1 ≤ x6) (h2 : x6 < xk) (h3 : 0 ≤ x6 → (t6.size : Int) = xk - x6) (h4 : t6.all (goodE good))
    (hr7 : Row w7 (be + 1) 25 4 (.slice a7 (L.length + 1) c7) (L.length + 1) (cellsX L ++ [.int .i64 t6.kind, .string t6.text, .int .i64 t6.num, .slice aa6 t6.args.length cc6]))
    (hgf : Fr (fun b => (Value.slice ra L.length rc).ownBlock = some b) (w6.alloc o) w7) (hat : (Value.slice a7 (L.length + 1) c7).ownBlock = (Value.slice ra L.length rc).ownBlock ∨ (Value.slice a7 (L.length + 1) c7).ownBlock = some (w6.alloc o).heap.size) :
    TLp good w pb be x kd s nm (w7.setCell ⟨be, 3, none⟩ (.slice a7 (L.length + 1) c7)) (L ++ [(t6, aa6, cc6)]) a7 c7 x6 := by
  obtain ⟨ct, ec0, tc, row, tr, fr, lo, hi, sz, al⟩ := h
  have hbw : be < wr.heap.size := ec0.lt
  have hob : ∀ g, (Value.slice ra L.length rc).ownBlock = some g → be < g ∧ g < wr.heap.size := fun g hg => by have := Row.block_lt row hg; omega
  have h6 := hf6.size
  have hsa : (w6.alloc o).heap.size = w6.heap.size + 1 := by simp
  have hs : Fr (fun b => b = be) w7 (w7.setCell ⟨be, 3, none⟩ (.slice a7 (L.length + 1) c7)) := (Fr.refl (fun b => b = be) w7).setCell (p := ⟨be, 3, none⟩) rfl _
  have hnb : ∀ g, (Value.slice a7 (L.length + 1) c7).ownBlock = some g → be < g := fun g hg => (by
    rcases hat with h | h
    · rw [h] at hg; exact (hob g hg).1
    · rw [h] at hg; cases hg; omega)
  have hlen : (L ++ [(t6, aa6, cc6)]).length = L.length + 1 := by simp
  have ec7 : EC w7 be (.mk kd s nm (L.map (·.1))) ra rc := (((ec0.fr hf6 (by omega))).below (below_alloc w6 o)).fr hgf (fun e => by have := hob _ e; omega)
  have fwd : ∀ (us : List Ex) (a : Option Addr), RdA (fun i => w.heap.size < i ∧ i ≠ be ∧ (Value.slice ra L.length rc).ownBlock ≠ some i) w6 us a → RdA (fun i => w.heap.size < i ∧ i ≠ be ∧ (Value.slice a7 (L.length + 1) c7).ownBlock ≠ some i) (w7.setCell ⟨be, 3, none⟩ (.slice a7 (L.length + 1) c7)) us a := fun us a h => by
    have h1 : RdA (fun i => w.heap.size < i ∧ i ≠ be ∧ (Value.slice ra L.length rc).ownBlock ≠ some i ∧ i < w6.heap.size) w6 us a := h.mono (fun i hi hh => ⟨hh.1, hh.2.1, hh.2.2, hi⟩)
    have h2 := ((h1.below (below_alloc w6 o)).fr hgf (fun i hi e => hi.2.2.1 e)).fr hs (fun i hi e => hi.2.1 e)
    refine h2.mono (fun i _ hi => ⟨hi.1, hi.2.1, fun e => ?_⟩)
    rcases hat with h | h
    · rw [h] at e; exact hi.2.2.1 e
    · rw [h] at e; cases e; have := hi.2.2.2; omega
  refine ⟨?_, ⟨set_other (by simp) ec7.c0, set_other (by simp) ec7.c1, set_other (by simp) ec7.c2, ?_, fun j => by simp [ec7.fz j]⟩, ?_, ?_, fun y hy => ?_, ?_, h1, by rw [hlen]; push_cast; omega, fun h0 => ?_, fun y hy => ?_⟩
  · exact ((hct6.below (below_alloc w6 o)).fr hgf (fun e => by have := hob _ e; omega)).fr hs (by omega)
  · have := set_same (v := .slice a7 (L.length + 1) c7) ec7.c3
    simpa [Ex.args] using this
  · exact (((tc.fr hf6 (by omega)).below (below_alloc w6 o)).fr hgf (fun e => by have := hob _ e; omega)).fr hs (by omega)
  · rw [hlen, cellsX_snoc]
    exact Row.fr hr7 hs (fun g hg e => by have := hnb g hg; omega)
  · rw [hlen]
    rcases List.mem_append.1 hy with hy | hy
    · exact ⟨(tr y hy).1, fwd _ _ ((tr y hy).2.fr hf6 (fun i hi e => by omega))⟩
    · rcases List.mem_cons.1 hy with rfl | hy
      · exact ⟨hcc6, fwd _ _ (hra6.mono (fun i hi hh => ⟨by have := fr.size; omega, by omega, fun e => by have := hob i e; omega⟩))⟩
      · cases hy
  · exact (((fr.trans hf6).trans (.of_below (below_alloc w6 o))).then hgf (fun i e => .inr (by have := hob i e; have := fr.size; omega))).then hs (fun i e => .inr (by omega))
  · rw [List.map_append, Ex.sizes_append]
    have := sz hxk
    have := h3 h0
    simp only [List.map_cons, List.map_nil, Ex.sizes]
    omega
  · rcases List.mem_append.1 hy with hy | hy
    · exact al y hy
    · rcases List.mem_cons.1 hy with rfl | hy
      · exact h4
      · cases hy

end Go.Proofs.YtpabngicbfcdkaaDoor

/- evergreenlaw54.tree: the walk. -/
namespace Go.Proofs.YtpabngicbfcdkaaDoor
open Go.RowKit
set_option linter.unusedVariables false
set_option linter.unusedSimpArgs false

set_option maxRecDepth 100000 in
set_option maxHeartbeats 4000000 in
theorem tree_any (good : Int → ByteArray → Int → Bool) (h0 : good 0 ⟨#[]⟩ 0 = true) (ns : List Nd) (hg : ∀ x ∈ ns, good x.1 x.2.1 x.2.2.1 = true) : ∀ (m : Nat) (T : Nat → Prop) (a : Option Addr) (n c i pb : Nat) (x : Int) (w : World), RdN w T a n ns → ¬ T pb → CtA w pb x → 0 ≤ x → x ≤ 300 → x < m → i ≤ n →
    Calls Tryd.prog 20 #[.slice a n c, .int .i64 (i : Nat), .pointer (some ⟨pb, 0, none⟩)] w (TreePost good x pb w)
  | 0, _, _, _, _, _, _, x, _, _, _, _, h, _, h', _ => absurd h' (by omega)
  | m + 1, T, a, n, c, i, pb, x, w, hr, hT, hc, hx0, hx3, hxm, hin => by
    have IH := Lib.hid (tree_any good h0 ns hg m)
    obtain ⟨w1, hw1⟩ : ∃ w1, w1 = w.alloc (.cells #[.int .i64 0, .string ⟨#[]⟩, .int .i64 0, .slice none 0 0] 25) := ⟨_, rfl⟩
    have HB1 : Hid (Below w.heap.size w w1) := Lib.hid (by rw [hw1]; exact below_alloc _ _)
    have HS1 : Hid (w1.heap.size = w.heap.size + 1) := Lib.hid (by rw [hw1]; simp)
    have HTC : Hid (EC w1 w.heap.size eE none 0) := Lib.hid (by rw [hw1]; exact alloc_ec w eE none 0 _)
    have HPL : Hid (pb < w.heap.size) := Lib.hid hc.lt
    have HC1 := Lib.hid (hc.below HB1.out)
    obtain ⟨c1, z1⟩ := HC1.out
    obtain ⟨w2, hw2⟩ : ∃ w2, w2 = w1.setCell ⟨pb, 0, none⟩ (.int .i64 (x - 1)) := ⟨_, rfl⟩
    have HF12 : Hid (Fr (fun b => b = pb) w1 w2) := Lib.hid (by rw [hw2]; exact (Fr.refl (fun b => b = pb) w1).setCell (p := ⟨pb, 0, none⟩) rfl _)
    have HF2 : Hid (Fr (fun b => b = pb) w w2) := Lib.hid ((Fr.of_below (S := fun b => b = pb) HB1.out).trans HF12.out)
    have HC2 : Hid (CtA w2 pb (x - 1)) := Lib.hid (by rw [hw2]; exact HC1.out.set _)
    have HTC2 : Hid (EC w2 w.heap.size eE none 0) := Lib.hid (HTC.out.fr HF12.out (by have := HPL.out; omega))
    have HR0 := Lib.hid hr
    have HFR : Hid (∀ wx, Fr (fun b => b = pb) w wx → RdN wx T a n ns) := Lib.hid (fun wx hf => hr.fr hf (fun j hj e => hT (by rw [← e]; exact hj)))
    have HW1 := Lib.hid hw1
    have HW2 := Lib.hid hw2
    have HNT := Lib.hid hT
    have HIN := Lib.hid hin
    have HXM := Lib.hid hxm
    have HX3 := Lib.hid hx3
    have HX0 := Lib.hid hx0
    have HG := Lib.hid hg
    have HFIN0 : Hid ((¬ (i < n) ∨ x - 1 < 0) → ∀ wf, Fr (fun b => b = w.heap.size) w2 wf → TreePost good x pb w (.returned (exV eE none 0)) wf) := Lib.hid (fun hh wf hf => fin_tree (t := eE) HC2.out HPL.out (Nat.le_refl _) (.inl rfl) HF2.out hf (by omega) (by omega) (fun h => by simp only [eE, Ex.size, Ex.sizes]; omega) (by rw [Ex.all_eq]; exact ⟨h0, fun j u hu => by simp [eE, Ex.args] at hu⟩))
    clear hw1 hw2 hr hc hxm hg
    by_cases hlt : i < n
    · have hlti : decide ((n : Int) ≤ (i : Int)) = false := decide_eq_false (by omega)
      have hltn : decide (n ≤ i) = false := decide_eq_false (by omega)
      by_cases hx1 : x - 1 < 0
      · have HFINZ := Lib.hid (HFIN0.out (.inr hx1))
        obtain rfl : x = 0 := by omega
        clear hlt hx1
        go_enter Tryd.func20, Tryd.ntmps20
        go_upto_region 1 with fail
        rw [← HW1.out]
        go_upto_region 2 with fail
        have HW2' := Lib.hid HW2.out
        simp only [Int.zero_sub] at HW2' HC2
        rw [← HW2'.out]
        obtain ⟨c2, z2⟩ := HC2.out
        obtain ⟨y0, y1, y2, y3, yf⟩ := HTC2.out
        have yf0 := yf 0
        have yf1 := yf 1
        have yf2 := yf 2
        have yf3 := yf 3
        clear yf
        go_wp2
        exact bodyPost_ret (v := .agg #[.int .i64 0, .string ⟨#[]⟩, .int .i64 0, .slice none 0 0]) (by simp [results, Tryd.results20, go_sem, y0, y1, y2, y3]; try rfl) rfl (HFINZ.out _ (fr4 _ w.heap.size (.int .i64 0) (.string ⟨#[]⟩) (.int .i64 0) (.slice none 0 0)))
      · obtain ⟨nd, hnd⟩ : ∃ nd, ns[i]? = some nd := ⟨_, List.getElem?_eq_getElem (by rw [HR0.out.len]; exact hlt)⟩
        obtain ⟨kd, s, nm, gs⟩ := nd
        have HGD : Hid (good kd s nm = true) := Lib.hid (HG.out _ (List.mem_of_getElem? hnd))
        obtain ⟨b, off, aa, cc, rfl, hTb, k0, k1, k2, k3, hI⟩ := HR0.out.cell i _ hnd
        simp only at k0 k1 k2 k3 hI
        have hbp : ¬ (b = pb) := fun e => HNT.out (by rw [← e]; exact hTb)
        have HBP := Lib.hid hbp
        obtain ⟨N, hN⟩ : ∃ N, N = gs.length := ⟨_, rfl⟩
        rw [← hN] at k3
        have HN := Lib.hid hN
        have HTB := Lib.hid hTb
        have HI := Lib.hid hI
        have HK3 := Lib.hid k3
        have hb0 : b < w.heap.size := World.block_lt_of_cell? w _ k0
        have k0 := HF2.out.cell k0 hbp
        have k1 := HF2.out.cell k1 hbp
        have k2 := HF2.out.cell k2 hbp
        have hli : (i : Int) < (n : Int) := by omega
        have hN9 : (N : Int) ≤ 9223372036854775807 := by have := hI.max; omega
        have hn9 : (n : Int) ≤ 9223372036854775807 := by have := HR0.out.max; omega
        have HLT := Lib.hid hlt
        have hx2 : decide (x - 1 < 0) = false := decide_eq_false hx1
        obtain ⟨c2, z2⟩ := HC2.out
        have hbl : b < w2.heap.size := World.block_lt_of_cell? w2 _ k0
        have hnb : ¬ (b = w2.heap.size) := by omega
        have hnb' : ¬ (w2.heap.size = b) := by omega
        have HXG : Hid (¬ (x - 1 < 0)) := Lib.hid hx1
        have HEX0 : Hid (∀ (be : Nat) (wr : World) (L : List TV) (ra : Option Addr) (rc : Nat) (xk : Int), w.heap.size < be → TLp good w pb be x kd s nm wr L ra rc xk → ∀ wf, Fr (fun b => b = w.heap.size) wr wf → TreePost good x pb w (.returned (.agg #[.int .i64 kd, .string s, .int .i64 nm, .slice ra L.length rc])) wf) := Lib.hid (fun be wr L ra rc xk hbe h wf hf => by
          obtain ⟨U, hU⟩ : ∃ U, U = L.map (·.1) := ⟨_, rfl⟩
          have hrd := h.rd hbe
          have hal := h.all HGD.out
          have hsi := h.size
          have hul : U.length = L.length := by rw [hU]; simp
          rw [← hU] at hrd hal hsi
          have h9 := fin_tree (good := good) (x := x) (t := .mk kd s nm U) (aa := ra) (cc := rc) h.ct HPL.out (by simp only [Ex.args]; rw [hul]; exact Row.cap h.row) hrd h.fr hf h.lo (by have := h.hi; omega) hsi hal
          simpa [exV, Ex.args, Ex.kind, Ex.text, Ex.num, hul] using h9)
        clear hlt hnd hTb hI hN HFIN0 k3 hb0 hbp
        go_enter Tryd.func20, Tryd.ntmps20
        go_upto_region 1 with fail
        rw [← HW1.out]
        go_upto_region 2 with fail
        rw [← HW2.out]
        go_upto_region 4 with fail
        go_region_held3 (fun w' => w'.cell? ⟨b, off + i * 4, none⟩ = some (.int .i64 kd) ∧ w'.cell? ⟨b, off + i * 4 + 1, none⟩ = some (.string s) ∧ w'.cell? ⟨b, off + i * 4 + 2, none⟩ = some (.int .i64 nm)) (go_keep) (fail)
        obtain ⟨w3, hw3⟩ : ∃ w3, w3 = (w2.alloc (.cells #[.int .i64 kd, .string s, .int .i64 nm, .slice none 0 0] 25)).drew := ⟨_, rfl⟩
        rw [← hw3]
        obtain ⟨be, hbe⟩ : ∃ be, be = w2.heap.size := ⟨_, rfl⟩
        rw [← hbe]
        have HB3 : Hid (Below w2.heap.size w2 w3) := Lib.hid (by rw [hw3]; exact (below_alloc _ _).drew)
        have HBE : Hid (w.heap.size < be) := Lib.hid (by have h1 := HF12.out.size; have h2 := HS1.out; omega)
        have HTL : Hid (TLp good w pb be x kd s nm w3 [] none 0 (x - 1)) := Lib.hid ⟨HC2.out.below HB3.out, (by rw [hw3, hbe]; have h := alloc_ec w2 (.mk kd s nm []) none 0 25; exact ⟨h.c0, h.c1, h.c2, h.c3, h.fz⟩), HTC2.out.below HB3.out, World.ownsRow_nil _ _ _ _, (fun y hy => by cases hy), HF2.out.trans (.of_below HB3.out), by have := HXG.out; omega, by simp only [List.length_nil]; omega, fun _ => by simp only [List.map_nil, Ex.sizes]; omega, fun y hy => by cases hy⟩
        have HEX := Lib.hid (fun wr L ra rc xk => HEX0.out be wr L ra rc xk HBE.out)
        have HIN2 : Hid (i + 1 ≤ n) := Lib.hid HLT.out
        clear hw3 hbe k0 k1 k2 c2 z2 hbl hnb hnb'
        go_wp2
        go_loopg [8] N (fun gg kv wr => ∃ (L : List TV) (ra : Option Addr) (rc : Nat) (xk : Int), kv = .int .i64 (L.length : Nat) ∧ L.length ≤ N ∧ N ≤ L.length + gg ∧ TLp good w pb be x kd s nm wr L ra rc xk)
        case atStart => exact ⟨[], none, 0, x - 1, rfl, by simp, by simp, HTL.out⟩
        case round =>
          clear HTL
          obtain ⟨L, ra, rc, xk, rfl, hLN, hgg, htl⟩ := hrel
          have HTL := Lib.hid htl
          have HGG := Lib.hid hgg
          have HLN := Lib.hid hLN
          obtain ⟨c4, z4⟩ := htl.ct
          have hxklo := htl.lo
          have hxkhi := htl.hi
          have hxk9 : xk ≤ 300 := by have := HX3.out; omega
          have hL9 : (L.length : Int) ≤ 400 := by have := HX3.out; omega
          have k3 : wr.cell? ⟨b, off + i * 4 + 3, none⟩ = some (.slice aa N cc) := HTL.out.fr.cell HK3.out HBP.out
          have htlrow := htl.row
          clear htl hgg
          by_cases hkl : L.length < N
          · have hkli : (L.length : Int) < (N : Int) := by omega
            have hkln : decide (L.length < N) = true := decide_eq_true hkl
            by_cases hxk : 0 ≤ xk
            · have HXK := Lib.hid hxk
              obtain ⟨y, hy⟩ : ∃ y, gs[L.length]? = some y := ⟨_, List.getElem?_eq_getElem (by rw [← HN.out]; exact hkl)⟩
              obtain ⟨b2, o2, rfl, hTb2, hc5⟩ := HI.out.cell _ y hy
              have hyw := HI.out.wf y (List.mem_of_getElem? hy)
              have c5 : wr.cell? ⟨b2, o2 + L.length, none⟩ = some (.int .i64 y) := HTL.out.fr.cell hc5 (fun e => HNT.out (by rw [← e]; exact hTb2))
              have HKL := Lib.hid hkl
              have hway : ∃ j : Nat, j ≤ n ∧ ((y = (j : Int) ∧ decide (j ≤ i) = false ∧ decide (n ≤ j) = false) ∨ (y ≤ (i : Int) ∧ (i : Int) + 1 = (j : Int)) ∨ (decide (y ≤ (i : Int)) = false ∧ (n : Int) ≤ y ∧ (i : Int) + 1 = (j : Int))) := by
                by_cases e1 : y ≤ (i : Int)
                · exact ⟨i + 1, HIN2.out, .inr (.inl ⟨e1, by push_cast; rfl⟩)⟩
                · by_cases e2 : (n : Int) ≤ y
                  · exact ⟨i + 1, HIN2.out, .inr (.inr ⟨decide_eq_false e1, e2, by push_cast; rfl⟩)⟩
                  · exact ⟨y.toNat, by omega, .inl ⟨by omega, decide_eq_false (by omega), decide_eq_false (by omega)⟩⟩
              obtain ⟨j, hjn, hway⟩ := hway
              have hjn9 : (j : Int) ≤ (n : Int) := by omega
              have hC : Calls Tryd.prog 20 #[.slice (some ⟨b, off, none⟩) n c, .int .i64 (j : Nat), .pointer (some ⟨pb, 0, none⟩)] wr.drew (TreePost good xk pb wr.drew) := IH.out T _ n c j pb xk wr.drew (HFR.out _ HTL.out.fr.drew) HNT.out HTL.out.ct.drew hxk (by omega) (by have := HXM.out; have := HTL.out.hi; omega) hjn
              have HC := Lib.hid hC
              have HROW := Lib.hid htlrow
              have hx3 : wr.cell? ⟨be, 3, none⟩ = some (.slice ra L.length rc) := by have := HTL.out.ec.c3; simpa [Ex.args] using this
              have HX3 := Lib.hid hx3
              have HROWB : Hid (∀ g, (Value.slice ra L.length rc).ownBlock = some g → be < g) := Lib.hid (fun g hg => by have := (Row.block_lt HROW.out hg).2; omega)
              have HBW : Hid (be < wr.heap.size) := Lib.hid HTL.out.ec.lt
              have HBEP : Hid (¬ (be = pb)) := Lib.hid (by have := HBE.out; have := HPL.out; omega)
              have hx3d : wr.drew.cell? ⟨be, 3, none⟩ = some (.slice ra L.length rc) := hx3
              have HL9 := Lib.hid hL9
              have HXKLO := Lib.hid hxklo
              clear hyw hy hc5 hTb2 hkl hLN hjn hC htlrow
              rcases hway with ⟨rfl, e1, e2⟩ | ⟨e1, e2⟩ | ⟨e1, e2, e3⟩
              all_goals
                go_wp2
                clear hx3
                go_region_law (first
                  | (refine step_app_row_at (.tmp 78) (.tmp 83) EExpr rfl rfl (be + 1) (.slice ra L.length rc) L.length (cellsX L) rfl (Row.below HROW6.out (below_alloc w6 _)) (some ⟨_, 0, none⟩) 1 1 [.int .i64 t6.kind, .string t6.text, .int .i64 t6.num, .slice aa6 t6.args.length cc6] rfl (RdG.lits w6 4 25 1 [.int .i64 t6.kind, .string t6.text, .int .i64 t6.num, .slice aa6 t6.args.length cc6] rfl) (by simp [Value.oneCell']) (by have := HL9.out; omega) (by decide) (by have := HBW.out; have := HW6.out; simp; omega) ?_; intro a7 c7 w7 hr7 hg7 hat7; have HR7 := Lib.hid hr7; have HG7 := Lib.hid hg7; have HAT7 := Lib.hid hat7; have HGF7 : Hid (Fr (fun x => (Value.slice ra L.length rc).ownBlock = some x) (w6.alloc (.cells #[.int .i64 t6.kind, .string t6.text, .int .i64 t6.num, .slice aa6 t6.args.length cc6] 25)) w7) := Lib.hid (Fr.of_grown hg7 (fun k hk => hk)); have HEC7 := Lib.hid ((HEC6.out.below (below_alloc _ _)).fr HGF7.out (fun e => by have := HROWB.out _ e; omega)); have p3 := HEC7.out.c3; have pf3 := HEC7.out.fz 3; clear hr7 hg7 hat7)
                  | (go_simp; go_at_call 20; refine HC.out.mono ?_; rintro e9 w6 ⟨t6, aa6, cc6, x6, rfl, hcc6, hra6, hct6, h61, h62, h63, h64, hf6⟩; simp only [exV]; have HF6 : Hid (Fr (fun x => x = pb) wr w6) := Lib.hid ((Fr.refl (fun x => x = pb) wr).drew.trans hf6); have HEC6 := Lib.hid (HTL.out.ec.fr HF6.out HBEP.out); have HW6 := Lib.hid HF6.out.size; have HROW6 := Lib.hid (HROW.out.fr HF6.out (fun g hg e => by have h1 := HROWB.out g hg; have h2 := HBE.out; have h3 := HPL.out; omega)); have hx36 : w6.cell? ⟨be, 3, none⟩ = some (.slice ra L.length rc) := HF6.out.cell HX3.out HBEP.out; have hx3a : (w6.alloc (.cells #[.int .i64 t6.kind, .string t6.text, .int .i64 t6.num, .slice aa6 t6.args.length cc6] 25)).cell? ⟨be, 3, none⟩ = some (.slice ra L.length rc) := below_cell (below_alloc _ _) hx36))
                all_goals
                  have hpush := TLp.push HTL.out HPL.out HBE.out HXK.out HF6.out hct6 hcc6 (hra6.mono (fun i _ hi => hi)) h61 h62 h63 h64 HR7.out HGF7.out HAT7.out
                  obtain ⟨wA, hwA⟩ : ∃ wA, wA = w7.setCell ⟨be, 3, none⟩ (.slice a7 (L.length + 1) c7) := ⟨_, rfl⟩
                  rw [← hwA] at hpush ⊢
                  have HPUSH := Lib.hid hpush
                  clear hpush hwA hct6 hcc6 hra6 h61 h62 h63 h64 hf6 hx36 hx3a p3 pf3 hx3d
                  go_wp2
                  go_roundg (N - L.length - 1)
                  case measure => have h1 := HGG.out; have h2 := HKL.out; omega
                  case rel => exact ⟨L ++ [(t6, aa6, cc6)], a7, c7, x6, by simp, by have := HKL.out; simp only [List.length_append, List.length_cons, List.length_nil]; omega, by have := HKL.out; simp only [List.length_append, List.length_cons, List.length_nil]; omega, HPUSH.out⟩
            · have hxkd : xk < 0 := by omega
              have hxkd2 : decide (0 ≤ xk) = false := decide_eq_false hxk
              clear hkl hLN hxk hxklo
              obtain ⟨y0, y1, y2, y3, yf⟩ := HTL.out.tc
              have yf0 := yf 0
              have yf1 := yf 1
              have yf2 := yf 2
              have yf3 := yf 3
              clear yf
              obtain ⟨p0, p1, p2, p3, pf⟩ := HTL.out.ec
              change wr.cell? ⟨be, 0, none⟩ = some (.int .i64 kd) at p0
              change wr.cell? ⟨be, 1, none⟩ = some (.string s) at p1
              change wr.cell? ⟨be, 2, none⟩ = some (.int .i64 nm) at p2
              replace p3 : wr.cell? ⟨be, 3, none⟩ = some (.slice ra L.length rc) := by simpa [Ex.args] using p3
              clear pf
              go_wp2
              have hz := HEX.out wr L ra rc xk HTL.out _ (fr4 _ w.heap.size (.int .i64 kd) (.string s) (.int .i64 nm) (.slice ra L.length rc))
              exact bodyPost_ret (v := .agg #[.int .i64 kd, .string s, .int .i64 nm, .slice ra L.length rc]) (by simp [results, Tryd.results20, go_sem, y0, y1, y2, y3]; try rfl) rfl hz
          · obtain hkk : N = L.length := by omega
            have hkli : decide ((L.length : Int) < (N : Int)) = false := decide_eq_false (by omega)
            have hkln : decide (L.length < N) = false := decide_eq_false (by omega)
            subst hkk
            clear hkl hLN
            obtain ⟨y0, y1, y2, y3, yf⟩ := HTL.out.tc
            have yf0 := yf 0
            have yf1 := yf 1
            have yf2 := yf 2
            have yf3 := yf 3
            clear yf
            obtain ⟨p0, p1, p2, p3, pf⟩ := HTL.out.ec
            change wr.cell? ⟨be, 0, none⟩ = some (.int .i64 kd) at p0
            change wr.cell? ⟨be, 1, none⟩ = some (.string s) at p1
            change wr.cell? ⟨be, 2, none⟩ = some (.int .i64 nm) at p2
            replace p3 : wr.cell? ⟨be, 3, none⟩ = some (.slice ra L.length rc) := by simpa [Ex.args] using p3
            clear pf
            go_wp2
            have hz := HEX.out wr L ra rc xk HTL.out _ (fr4 _ w.heap.size (.int .i64 kd) (.string s) (.int .i64 nm) (.slice ra L.length rc))
            exact bodyPost_ret (v := .agg #[.int .i64 kd, .string s, .int .i64 nm, .slice ra L.length rc]) (by simp [results, Tryd.results20, go_sem, y0, y1, y2, y3]; try rfl) rfl hz
    · have HFINZ := Lib.hid (HFIN0.out (.inl hlt))
      obtain rfl : i = n := by omega
      clear hlt
      go_enter Tryd.func20, Tryd.ntmps20
      go_upto_region 1 with fail
      rw [← HW1.out]
      go_upto_region 2 with fail
      rw [← HW2.out]
      obtain ⟨c2, z2⟩ := HC2.out
      obtain ⟨y0, y1, y2, y3, yf⟩ := HTC2.out
      have yf0 := yf 0
      have yf1 := yf 1
      have yf2 := yf 2
      have yf3 := yf 3
      clear yf
      go_wp2
      exact bodyPost_ret (v := .agg #[.int .i64 0, .string ⟨#[]⟩, .int .i64 0, .slice none 0 0]) (by simp [results, Tryd.results20, go_sem, y0, y1, y2, y3]; try rfl) rfl (HFINZ.out _ (fr4 _ w.heap.size (.int .i64 0) (.string ⟨#[]⟩) (.int .i64 0) (.slice none 0 0)))

end Go.Proofs.YtpabngicbfcdkaaDoor

/- evergreenlaw54.Tree: the walk. -/
namespace Go.Proofs.YtpabngicbfcdkaaDoor
open Go.RowKit
set_option linter.unusedVariables false
set_option linter.unusedSimpArgs false

/-- what Tree returns -/
def TreeRet (good : Int → ByteArray → Int → Bool) (w : World) (e : Ending) (w' : World) : Prop :=
  ∃ (t : Ex) (a : Option Addr) (c : Nat) (ok : Bool), e = .returned (.tuple #[exV t a c, .bool ok]) ∧ t.args.length ≤ c ∧ RdA (fun b => w.heap.size ≤ b) w' t.args a ∧ (ok = true → t.size ≤ 300) ∧ t.all (goodE good) ∧ Below w.heap.size w w'

theorem fin_Tree {good : Int → ByteArray → Int → Bool} {w w2 w4 wf : World} {pb : Nat} {x' : Int} {t : Ex} {aa : Option Addr} {cc : Nat} (h2 : Below w.heap.size w w2) (hs : w.heap.size + 1 < w2.heap.size) (hpb : w.heap.size < pb) (hcc : t.args.length ≤ cc) (hra : RdA (fun b => w2.heap.size ≤ b) w4 t.args aa)
    (h3 : 0 ≤ x' → (t.size : Int) = 300 - x') (h4 : t.all (goodE good)) (hf : Fr (fun b => b = pb) w2 w4) (hfr : Fr (fun b => b = w.heap.size) w4 wf) (ok : Bool) (hok : ok = decide (0 ≤ x')) :
    TreeRet good w (.returned (.tuple #[exV t aa cc, .bool ok])) wf :=
  ⟨t, aa, cc, ok, rfl, hcc, (hra.fr hfr (fun i hi e => by omega)).mono (fun i _ hi => by omega), fun h => by
    rw [hok, decide_eq_true_eq] at h
    have := h3 h; omega, h4, (((Fr.of_below (S := fun b => w.heap.size ≤ b) h2).then hf (fun i e => .inl (by omega))).then hfr (fun i e => .inl (by omega))).below (fun i h => h) (Nat.le_refl _)⟩

set_option maxRecDepth 100000 in
set_option maxHeartbeats 3000000 in
theorem Tree_any (good : Int → ByteArray → Int → Bool) (h0 : good 0 ⟨#[]⟩ 0 = true) (ns : List Nd) (hg : ∀ x ∈ ns, good x.1 x.2.1 x.2.2.1 = true) (a : Option Addr) (n c : Nat) (w : World) (hr : RdN w (fun b => b < w.heap.size) a n ns) :
    Calls Tryd.prog 8 #[.slice a n c] w (TreeRet good w) := by
  obtain ⟨w1, hw1⟩ : ∃ w1, w1 = w.alloc (.cells #[.int .i64 0, .string ⟨#[]⟩, .int .i64 0, .slice none 0 0] 25) := ⟨_, rfl⟩
  obtain ⟨pb, hpb⟩ : ∃ pb, pb = w1.heap.size := ⟨_, rfl⟩
  obtain ⟨w2, hw2⟩ : ∃ w2, w2 = w1.alloc (.cells #[.int .i64 300] 3) := ⟨_, rfl⟩
  have HB1 : Hid (Below w.heap.size w w1) := Lib.hid (by rw [hw1]; exact below_alloc _ _)
  have HS1 : Hid (w1.heap.size = w.heap.size + 1) := Lib.hid (by rw [hw1]; simp)
  have HB12 : Hid (Below w1.heap.size w1 w2) := Lib.hid (by rw [hw2]; exact below_alloc _ _)
  have HB2 : Hid (Below w.heap.size w w2) := Lib.hid (bthen HB1.out HB12.out)
  have HS2 : Hid (w2.heap.size = w1.heap.size + 1) := Lib.hid (by rw [hw2]; simp)
  have HTC : Hid (EC w2 w.heap.size eE none 0) := Lib.hid ((by rw [hw1]; exact alloc_ec w eE none 0 _ : EC w1 w.heap.size eE none 0).below HB12.out)
  have hct : CtA w2 pb 300 := by rw [hw2, hpb]; exact ⟨by simp, by simp⟩
  have HPB : Hid (w.heap.size < pb) := Lib.hid (by have := HS1.out; omega)
  have HC : Hid (Calls Tryd.prog 20 #[.slice a n c, .int .i64 0, .pointer (some ⟨pb, 0, none⟩)] w2 (TreePost good 300 pb w2)) := Lib.hid (by
    have := tree_any good h0 ns hg 301 (fun b => b < w.heap.size) a n c 0 pb 300 w2 (hr.below HB2.out) (by have := HPB.out; omega) hct (by omega) (by omega) (by omega) (by omega)
    exact this)
  have HPB2 : Hid (pb < w2.heap.size) := Lib.hid hct.lt
  have HW1 := Lib.hid hw1
  have HW2 := Lib.hid hw2
  have HPW := Lib.hid hpb
  clear hw1 hpb hw2 hct hr
  go_enter Tryd.func8, Tryd.ntmps8
  go_upto_region 1 with fail
  rw [← HW1.out]
  go_upto_region 2 with fail
  rw [← HW2.out, ← HPW.out]
  go_upto_region 3 with (go_at_call 20; refine HC.out.mono ?_; rintro e w3 ⟨t, aa, cc, x', rfl, hcc, hra, hct, h1, h2, h3, h4, hf⟩; simp only [exV])
  obtain ⟨w4, hw4⟩ : ∃ w4, w4 = w3.alloc (.cells #[.int .i64 t.kind, .string t.text, .int .i64 t.num, .slice aa t.args.length cc] 25) := ⟨_, rfl⟩
  rw [← hw4]
  obtain ⟨be, hbe⟩ : ∃ be, be = w3.heap.size := ⟨_, rfl⟩
  rw [← hbe]
  have HB4 : Hid (Below w3.heap.size w3 w4) := Lib.hid (by rw [hw4]; exact below_alloc _ _)
  have HEC : Hid (EC w4 be t aa cc) := Lib.hid (by rw [hw4, hbe]; exact alloc_ec w3 t aa cc _)
  have HTC4 : Hid (EC w4 w.heap.size eE none 0) := Lib.hid ((HTC.out.fr hf (by have := HPB.out; omega)).below HB4.out)
  have hct4 := hct.below HB4.out
  have HF : Hid (Fr (fun b => b = pb) w2 w4) := Lib.hid (hf.trans (.of_below HB4.out))
  have n1 : ¬ (be = w.heap.size) := by have h1 := hf.size; have h2 := HPB2.out; have h3 := HPB.out; omega
  have n1' : ¬ (w.heap.size = be) := fun e => n1 e.symm
  have n2 : ¬ (pb = w.heap.size) := by have h3 := HPB.out; omega
  have n2' : ¬ (w.heap.size = pb) := fun e => n2 e.symm
  obtain ⟨x0, x1, x2, x3, xf⟩ := HEC.out
  obtain ⟨y0, y1, y2, y3, yf⟩ := HTC4.out
  obtain ⟨z0, zf⟩ := hct4
  have yf0 := yf 0
  have yf1 := yf 1
  have yf2 := yf 2
  have yf3 := yf 3
  have HFIN : Hid (∀ (wd wf : World) (ok : Bool), Below w4.heap.size w4 wd → ok = decide (0 ≤ x') → Fr (fun b => b = w.heap.size) wd wf → TreeRet good w (.returned (.tuple #[.agg #[.int .i64 t.kind, .string t.text, .int .i64 t.num, .slice aa t.args.length cc], .bool ok])) wf) := Lib.hid (fun wd wf ok hbd hok hfr => fin_Tree (w2 := w2) (w4 := wd) (pb := pb) (x' := x') (t := t) HB2.out (by have h1 := HS1.out; have h2 := HS2.out; omega) HPB.out hcc ((hra.below HB4.out).below hbd) h3 h4 (HF.out.trans (.of_below hbd)) hfr ok hok)
  clear hw4 hbe hcc hra hct h2 h3 h4 hf xf yf
  by_cases hx : 0 ≤ x'
  all_goals
    go_region_held3 (fun w' => w'.cell? ⟨be, 0, none⟩ = some (.int .i64 t.kind) ∧ w'.cell? ⟨be, 1, none⟩ = some (.string t.text) ∧ w'.cell? ⟨be, 2, none⟩ = some (.int .i64 t.num) ∧ w'.cell? ⟨be, 3, none⟩ = some (.slice aa t.args.length cc) ∧ w'.cell? ⟨pb, 0, none⟩ = some (.int .i64 x')) (go_keep) (fail)
    go_wp2
    have HX := Lib.hid hx
    exact bodyPost_ret (v := .tuple #[.agg #[.int .i64 t.kind, .string t.text, .int .i64 t.num, .slice aa t.args.length cc], .bool (decide (0 ≤ x'))]) (by simp [results, Tryd.results8, go_sem, y0, y1, y2, y3, hx]; try rfl) rfl (HFIN.out _ _ _ (by first | exact Below.refl _ _ | exact (Below.refl _ _).drew) rfl (fr4 _ w.heap.size (.int .i64 t.kind) (.string t.text) (.int .i64 t.num) (.slice aa t.args.length cc)).drew)

end Go.Proofs.YtpabngicbfcdkaaDoor

/- What the laws of the Door over lists of nodes have in common: the tree of a list, its box. -/
namespace Go.Proofs.YtpabngicbfcdkaaDoor
open Go.RowKit
set_option linter.unusedVariables false
set_option linter.unusedSimpArgs false

def goodU (k : Int) (s : ByteArray) (n : Int) : Bool := decide (s.size ≤ 1048576)
mutual
theorem wt_good : ∀ t : Ex, t.all (goodE goodU) → wt t + 64 ≤ t.size * 4194432
  | .mk k s n us, h => by
    have h1 : s.size ≤ 1048576 := of_decide_eq_true (((Ex.all_eq _ _).1 h).1)
    have h2 := wts_good us (fun i u hu => ((Ex.all_eq _ _).1 h).2 i u hu)
    simp only [wt, Ex.size]; omega
theorem wts_good : ∀ us : List Ex, (∀ (i : Nat) (u : Ex), us[i]? = some u → u.all (goodE goodU)) → wts us ≤ Ex.sizes us * 4194432
  | [], _ => by simp [wts]
  | t :: r, h => by
    have h1 := wt_good t (h 0 t rfl)
    have h2 := wts_good r (fun i u hu => h (i + 1) u (by simpa using hu))
    simp only [wts, Ex.sizes]; omega
end
theorem good_wt {t : Ex} (h : t.all (goodE goodU)) (hs : t.size ≤ 300) : wt t ≤ 1300000000 := by
  have := wt_good t h; omega
/-- what Tree returns, boxed -/
structure TB (W : World) (w : World) (t : Ex) (k m : Int) (x : ByteArray) (n : Nat) (a : Option Addr) (c : Nat) (be : Nat) (ok : Bool) : Prop where
  tv : TrV 0 w t k m x n a c
  ec : EC w be t a c
  bw : Below W.heap.size W w
  sz : ok = true → t.size ≤ 300 ∧ wt t ≤ 1300000000
theorem TB.cl {W w t k m x n a c be ok} (h : TB W w t k m x n a c be ok) {wx : World} (hb : Below w.heap.size w wx) : wx.cell? ⟨be, 0, none⟩ = some (.int .i64 k) ∧ wx.cell? ⟨be, 1, none⟩ = some (.string x) ∧ wx.cell? ⟨be, 2, none⟩ = some (.int .i64 m) ∧ wx.cell? ⟨be, 3, none⟩ = some (.slice a n c) := by
  obtain ⟨y0, y1, y2, y3, -⟩ := h.ec.below hb
  rw [h.tv.hk, h.tv.hx, h.tv.hm, h.tv.hn]
  exact ⟨y0, y1, y2, y3⟩
theorem TB.tab {W w t k m x n a c be ok} (h : TB W w t k m x n a c be ok) (ht : TAB W.heap.size W) {wx : World} (hb : Below w.heap.size w wx) : TAB wx.heap.size wx :=
  (ht.next (bthen h.bw hb)).mono (bthen h.bw hb).size
/-- Tree, and the box that takes its tree -/
theorem Tree_box (a : Option Addr) (len cap : Nat) (l : List Nd) (W : World) (h0 : RdN W (fun b => b < W.heap.size) a len l) (hs : ∀ x ∈ l, x.2.1.size ≤ 1048576) :
    Calls Tryd.prog 8 #[.slice a len cap] W fun e w1 => ∃ (t : Ex) (k m : Int) (x : ByteArray) (n : Nat) (b : Option Addr) (c : Nat) (ok : Bool), e = .returned (.tuple #[.agg #[.int .i64 k, .string x, .int .i64 m, .slice b n c], .bool ok]) ∧
      ∀ w2 be, w2 = w1.alloc (.cells #[.int .i64 k, .string x, .int .i64 m, .slice b n c] 25) → be = w1.heap.size → TB W w2 t k m x n b c be ok := by
  refine (Tree_any goodU rfl l (fun x hx => by simp only [goodU, decide_eq_true_eq]; exact hs x hx) a len cap W h0).mono ?_
  rintro e w1 ⟨t, b, c, ok, rfl, h1, h2, h3, h4, h5⟩
  refine ⟨t, t.kind, t.num, t.text, t.args.length, b, c, ok, rfl, ?_⟩
  rintro w2 be rfl rfl
  exact ⟨⟨rfl, rfl, rfl, rfl, ⟨_, h2.below (below_alloc _ _)⟩, h1⟩, alloc_ec _ _ _ _ _, bthen h5 (below_alloc _ _), fun h => ⟨h3 h, good_wt h4 (h3 h)⟩⟩

end Go.Proofs.YtpabngicbfcdkaaDoor

/- The reference's decimal and quote. -/
namespace Go.Proofs.YtpabngicbfcdkaaDoor
open Go.RowKit
set_option linter.unusedVariables false
set_option linter.unusedSimpArgs false

theorem bs_app {a b : List Nat} (ha : ∀ c ∈ a, c < 256) (hb : ∀ c ∈ b, c < 256) : bs a ++ bs b = bs (a ++ b) := by
  rw [← bs_ns (bs a ++ bs b), ns_append, ns_bs' ha, ns_bs' hb]
theorem dig_ext {n : Nat} (h : n < 10) : (⟨#[48, 49, 50, 51, 52, 53, 54, 55, 56, 57]⟩ : ByteArray).extract n (n + 1) = bs [48 + n] := by
  have : ∀ d : Fin 10, (⟨#[48, 49, 50, 51, 52, 53, 54, 55, 56, 57]⟩ : ByteArray).extract d.1 (d.1 + 1) = bs [48 + d.1] := by decide +kernel
  exact this ⟨n, h⟩
theorem decP_len' : ∀ (m n : Nat), n ≤ m → (decP n).length ≤ n + 1
  | 0, n, h => by rw [decP_small (by omega)]; simp
  | m + 1, n, h => by
    by_cases h10 : n < 10
    · rw [decP_small h10]; simp
    · rw [decP_big h10, List.length_append]
      have := decP_len' m (n / 10) (by omega)
      simp only [List.length_singleton]; omega

set_option maxRecDepth 100000 in
set_option maxHeartbeats 1500000 in
theorem rdec_any : ∀ (m n : Nat), n ≤ m → n ≤ 1152921504606846976 → ∀ w : World, Calls Tryd.prog 46 #[.int .i64 (n : Int)] w fun e w' => e = .returned (.string (bs (decP n))) ∧ w = w' := by
  have small : ∀ n : Nat, n < 10 → ∀ w : World, Calls Tryd.prog 46 #[.int .i64 (n : Int)] w fun e w' => e = .returned (.string (bs (decP n))) ∧ w = w' := by
    intro n h10 w
    have hni : (n : Int) < 10 := by omega
    have HX := Lib.hid (dig_ext h10)
    have HD := Lib.hid (decP_small h10)
    obtain ⟨K1, hK⟩ : ∃ K1, K1 = n + 1 := ⟨_, rfl⟩
    rw [← hK] at HX
    have hK1 : (n : Int) + 1 = (K1 : Int) := by omega
    have hK2 : (K1 : Int) ≤ 10 := by omega
    have hK3 : K1 ≤ (⟨#[48, 49, 50, 51, 52, 53, 54, 55, 56, 57]⟩ : ByteArray).size := by have : (⟨#[48, 49, 50, 51, 52, 53, 54, 55, 56, 57]⟩ : ByteArray).size = 10 := rfl; omega
    have hK4 : K1 ≤ 10 := by omega
    clear hK
    go_enter Tryd.func46, Tryd.ntmps46
    go_wp2
    go_ret
    exact ⟨by rw [HX.out, HD.out]; rfl, rfl⟩
  intro m
  induction m with
  | zero => exact fun n h _ w => small n (by omega) w
  | succ m ih =>
    intro n hm h9 w
    by_cases h10 : n < 10
    · exact small n h10 w
    · obtain ⟨q, hq⟩ : ∃ q, q = n / 10 := ⟨_, rfl⟩
      obtain ⟨r, hr⟩ : ∃ r, r = n % 10 := ⟨_, rfl⟩
      have H1 := Lib.hid (ih q (by omega) (by omega))
      have H2 := Lib.hid (small r (by omega))
      have hni : decide ((n : Int) < 10) = false := decide_eq_false (by omega)
      have hq1 : (n : Int).tdiv 10 = (q : Int) := by rw [Int.tdiv_eq_ediv_of_nonneg (by omega)]; omega
      have hr1 : (n : Int).tmod 10 = (r : Int) := by rw [Int.tmod_eq_emod_of_nonneg (by omega)]; omega
      obtain ⟨A, hA⟩ : ∃ A, A = bs (decP q) := ⟨_, rfl⟩
      obtain ⟨B, hB⟩ : ∃ B, B = bs (decP r) := ⟨_, rfl⟩
      have h8 : ∀ c ∈ decP q, c < 256 := dec8 q
      have h8' : ∀ c ∈ decP r, c < 256 := dec8 r
      have HS : Hid (A ++ B = bs (decP n)) := Lib.hid (by rw [hA, hB, bs_app h8 h8', decP_big h10, ← hq, ← hr, decP_small (n := r) (by omega)])
      have hsz : ¬ 9223372036854775807 < A.size + B.size := by
        rw [hA, hB, bs_sz h8, bs_sz h8']
        have := decP_len' q q (Nat.le_refl _)
        have := decP_len' r r (Nat.le_refl _)
        omega
      rw [← hA] at H1
      rw [← hB] at H2
      have hqi : (q : Int) ≤ 1152921504606846976 := by omega
      have hri : (r : Int) ≤ 10 := by omega
      clear ih hm h9 h10 hq hr hA hB h8 h8'
      go_enter Tryd.func46, Tryd.ntmps46
      go_wp2_with (first
        | (go_at_call_of 46 ((q : Nat) : Int); refine (H1.out _).mono ?_; rintro e w2 ⟨rfl, rfl⟩)
        | (go_at_call_of 46 ((r : Nat) : Int); refine (H2.out _).mono ?_; rintro e w3 ⟨rfl, rfl⟩))
      go_ret
      exact ⟨by rw [HS.out]; rfl, rfl⟩

set_option maxRecDepth 100000 in
set_option maxHeartbeats 8000000 in
theorem rquote_any (s : ByteArray) (hs : s.size ≤ 4000000000) (w : World) :
    Calls Tryd.prog 47 #[.string s] w fun e w' => e = .returned (.string (bs (quX (ns s)))) ∧ Below w.heap.size w w' := by
  have HL := Lib.hid hs
  have HNL := Lib.hid (ns_len s)
  have HLT := Lib.hid (ns_lt s)
  clear hs
  go_enter Tryd.func47, Tryd.ntmps47
  go_wp2
  go_loopw [3, 4] (fun sv kv wr => ∃ (k N : Nat) (a : Option Addr) (c : Nat), kv = .int .i64 k ∧ k ≤ s.size ∧ sv = .slice a N c ∧ (quB s k).length = N ∧ N ≤ 4 * k + 1 ∧ Own wr w.heap.size 5 .u8 (.slice a N c) (nints (quB s k)) ∧ Below w.heap.size w wr) (fun _ kv _ => s.size - (intOf kv).toNat)
  case atStart => exact ⟨0, 1, some ⟨w.heap.size, 0, none⟩, 1, rfl, by omega, rfl, by simp [quB], by omega, by have h := Own.lits w .u8 5 [34] w.heap.size (Nat.le_refl _) (by simp); simpa [quB, nints] using h, below_alloc _ _⟩
  case round =>
    obtain ⟨k, N, a, c, rfl, hk, rfl, hN, hN4, ho, hb⟩ := hrel
    have HO := Lib.hid ho
    have HB := Lib.hid hb
    have HNN := Lib.hid hN
    have HN9 : Hid (N ≤ 16000000001) := Lib.hid (by have h1 := HL.out; omega)
    have HN4 := Lib.hid hN4
    have H80 : Hid (∀ k, ∀ u ∈ quB s k, u < 256) := Lib.hid (fun k u hu => by
      rcases List.mem_cons.1 hu with rfl | hu
      · decide
      · obtain ⟨x, hx, hcx⟩ := List.mem_flatMap.1 hu
        exact quC8 (HLT.out x (List.mem_of_mem_take hx)) u hcx)
    clear ho hb hN hN4
    have hkI : (k : Int) ≤ (s.size : Int) := by omega
    have hsI : (s.size : Int) ≤ 4000000000 := by have := HL.out; omega
    have hni : (N : Int) ≤ 16000000001 := by have := HN9.out; omega
    by_cases hks : k = s.size
    · subst hks
      have HF : Hid (strOfNums (nints (quB s s.size) ++ [34]) = bs (quX (ns s))) := Lib.hid (by rw [← quB_all]; unfold bs; rw [nints_app]; rfl)
      have HRD : Hid (∀ w6 a6 c6 n6, Own w6 w.heap.size 5 .u8 (.slice a6 n6 c6) (nints (quB s s.size) ++ [34]) → (convert 60 9 (.slice a6 n6 c6)).run Tryd.prog w6 = .ok (.string (strOfNums (nints (quB s s.size) ++ [34]))) w6) := Lib.hid (fun w6 a6 c6 n6 h => run_str w6 c6 (Own.rd h (fun y hy => by
        rcases List.mem_append.1 hy with hy | hy
        · obtain ⟨u, hu, rfl⟩ := List.mem_map.1 hy
          have := H80.out _ u hu; simp [Lit.wf, IntKind.min, IntKind.max, IntKind.signed, IntKind.bits]; omega
        · simp at hy; subst hy; decide)) rfl 60 9 5 Tryd.underlying60 Tryd.underlying5 Tryd.underlying9)
      obtain ⟨str, hstr⟩ : ∃ str, str = strOfNums (nints (quB s s.size) ++ [34]) := ⟨_, rfl⟩
      rw [← hstr] at HF HRD
      clear hstr
      go_wp2_with (at_builtin; refine app_rd (.tmp 65) (.tmp 66) EU8' rfl rfl w.heap.size (.slice a N c) (nints (quB s s.size)) rfl (HO.out.alloc _) (some ⟨_, 0, none⟩) 1 1 [(34 : Int)] rfl (Rd.one _ .u8 _ _ (by decide)) (by have := HNN.out; have := HN9.out; simp; omega) (by decide) (by have h1 := HB.out.size; simp; omega) ?_; intro a6 c6 w6 ho6 hg6; have HB6 : Hid (Below w.heap.size w w6) := Lib.hid ((HB.out.alloc (by exact HB.out.size) _).trans (grown_below (HO.out.alloc _) hg6 (by have := HB.out.size; simp; omega))); rw [show (nints (quB s s.size) ++ [(34 : Int)]).length = N + 1 by simp [HNN.out]] at ho6 ⊢; have hcv := HRD.out w6 a6 c6 (N + 1) ho6; clear ho6 hg6)
      go_ret
      exact ⟨by rw [← HF.out]; rfl, HB6.out⟩
    · have hki : (k : Int) < (s.size : Int) := by omega
      have hkl : k < s.size := by omega
      have HG := Lib.hid (ns_get hkl)
      obtain ⟨x, hx⟩ : ∃ x, (s[k]'hkl).toNat = x := ⟨_, rfl⟩
      rw [hx] at HG
      have HX9 : Hid (x < 256) := Lib.hid (HLT.out x (List.mem_of_getElem? HG.out))
      have hx9 : (x : Int) ≤ 255 := by have := HX9.out; omega
      have HSTEP : Hid (∀ p : List Nat, quC x = p → nints (quB s k) ++ nints p = nints (quB s (k + 1)) ∧ (quB s (k + 1)).length = N + p.length) := Lib.hid (fun p hp => by
        rw [quB_succ HG.out, hp]
        exact ⟨(nints_app _ _).symm, by rw [List.length_append, HNN.out]⟩)
      have HKS := Lib.hid hkl
      clear hks
      by_cases e1 : x = 10
      · subst e1
        have HQ : Hid (quC 10 = [92, 110]) := Lib.hid (by decide)
        skip
        go_wp2_with (at_builtin; refine app_rd (.tmp 23) (.tmp 24) EU8' rfl rfl w.heap.size (.slice a N c) (nints (quB s k)) rfl (HO.out.alloc _) (some ⟨_, 0, none⟩) 2 2 ([92, 110] : List Int) rfl (Rd.two _ _ _ _ (by omega) (by omega)) (by have := HNN.out; have := HN9.out; simp; omega) (by decide) (by have h1 := HB.out.size; simp; omega) ?_; intro a6 c6 w6 ho6 hg6; have HO6 : Hid (Own w6 w.heap.size 5 .u8 (.slice a6 (N + 2) c6) (nints (quB s (k + 1)))) := Lib.hid (by rw [← (HSTEP.out _ HQ.out).1]; have h := ho6; rw [show (nints (quB s k) ++ ([92, 110] : List Int)).length = N + 2 by simp [HNN.out]] at h; exact h); have HB6 : Hid (Below w.heap.size w w6) := Lib.hid ((HB.out.alloc (by exact HB.out.size) _).trans (grown_below (HO.out.alloc _) hg6 (by have := HB.out.size; simp; omega))); rw [show (nints (quB s k) ++ ([92, 110] : List Int)).length = N + 2 by simp [HNN.out]]; clear ho6 hg6)
        exact ⟨⟨k + 1, N + 2, a6, c6, by go_num, HKS.out, rfl, by rw [(HSTEP.out _ HQ.out).2]; rfl, by have := HN4.out; omega, HO6.out, HB6.out⟩, by have := HKS.out; simp only [intOf]; omega⟩
      have b1 : ((x : Int) == 10) = false := by rw [beq_eq_false_iff_ne]; omega
      by_cases e2 : x = 9
      · subst e2
        have HQ : Hid (quC 9 = [92, 116]) := Lib.hid (by decide)
        skip
        go_wp2_with (at_builtin; refine app_rd (.tmp 29) (.tmp 30) EU8' rfl rfl w.heap.size (.slice a N c) (nints (quB s k)) rfl (HO.out.alloc _) (some ⟨_, 0, none⟩) 2 2 ([92, 116] : List Int) rfl (Rd.two _ _ _ _ (by omega) (by omega)) (by have := HNN.out; have := HN9.out; simp; omega) (by decide) (by have h1 := HB.out.size; simp; omega) ?_; intro a6 c6 w6 ho6 hg6; have HO6 : Hid (Own w6 w.heap.size 5 .u8 (.slice a6 (N + 2) c6) (nints (quB s (k + 1)))) := Lib.hid (by rw [← (HSTEP.out _ HQ.out).1]; have h := ho6; rw [show (nints (quB s k) ++ ([92, 116] : List Int)).length = N + 2 by simp [HNN.out]] at h; exact h); have HB6 : Hid (Below w.heap.size w w6) := Lib.hid ((HB.out.alloc (by exact HB.out.size) _).trans (grown_below (HO.out.alloc _) hg6 (by have := HB.out.size; simp; omega))); rw [show (nints (quB s k) ++ ([92, 116] : List Int)).length = N + 2 by simp [HNN.out]]; clear ho6 hg6)
        exact ⟨⟨k + 1, N + 2, a6, c6, by go_num, HKS.out, rfl, by rw [(HSTEP.out _ HQ.out).2]; rfl, by have := HN4.out; omega, HO6.out, HB6.out⟩, by have := HKS.out; simp only [intOf]; omega⟩
      have b2 : ((x : Int) == 9) = false := by rw [beq_eq_false_iff_ne]; omega
      by_cases e3 : x = 13
      · subst e3
        have HQ : Hid (quC 13 = [92, 114]) := Lib.hid (by decide)
        skip
        go_wp2_with (at_builtin; refine app_rd (.tmp 35) (.tmp 36) EU8' rfl rfl w.heap.size (.slice a N c) (nints (quB s k)) rfl (HO.out.alloc _) (some ⟨_, 0, none⟩) 2 2 ([92, 114] : List Int) rfl (Rd.two _ _ _ _ (by omega) (by omega)) (by have := HNN.out; have := HN9.out; simp; omega) (by decide) (by have h1 := HB.out.size; simp; omega) ?_; intro a6 c6 w6 ho6 hg6; have HO6 : Hid (Own w6 w.heap.size 5 .u8 (.slice a6 (N + 2) c6) (nints (quB s (k + 1)))) := Lib.hid (by rw [← (HSTEP.out _ HQ.out).1]; have h := ho6; rw [show (nints (quB s k) ++ ([92, 114] : List Int)).length = N + 2 by simp [HNN.out]] at h; exact h); have HB6 : Hid (Below w.heap.size w w6) := Lib.hid ((HB.out.alloc (by exact HB.out.size) _).trans (grown_below (HO.out.alloc _) hg6 (by have := HB.out.size; simp; omega))); rw [show (nints (quB s k) ++ ([92, 114] : List Int)).length = N + 2 by simp [HNN.out]]; clear ho6 hg6)
        exact ⟨⟨k + 1, N + 2, a6, c6, by go_num, HKS.out, rfl, by rw [(HSTEP.out _ HQ.out).2]; rfl, by have := HN4.out; omega, HO6.out, HB6.out⟩, by have := HKS.out; simp only [intOf]; omega⟩
      have b3 : ((x : Int) == 13) = false := by rw [beq_eq_false_iff_ne]; omega
      by_cases e4 : x = 34
      · subst e4
        have HQ : Hid (quC 34 = [92, 34]) := Lib.hid (by decide)
        skip
        go_wp2_with (at_builtin; refine app_rd (.tmp 45) (.tmp 47) EU8' rfl rfl w.heap.size (.slice a N c) (nints (quB s k)) rfl (HO.out.alloc _) (some ⟨_, 0, none⟩) 2 2 ([92, 34] : List Int) rfl (Rd.two _ _ _ _ (by omega) (by omega)) (by have := HNN.out; have := HN9.out; simp; omega) (by decide) (by have h1 := HB.out.size; simp; omega) ?_; intro a6 c6 w6 ho6 hg6; have HO6 : Hid (Own w6 w.heap.size 5 .u8 (.slice a6 (N + 2) c6) (nints (quB s (k + 1)))) := Lib.hid (by rw [← (HSTEP.out _ HQ.out).1]; have h := ho6; rw [show (nints (quB s k) ++ ([92, 34] : List Int)).length = N + 2 by simp [HNN.out]] at h; exact h); have HB6 : Hid (Below w.heap.size w w6) := Lib.hid ((HB.out.alloc (by exact HB.out.size) _).trans (grown_below (HO.out.alloc _) hg6 (by have := HB.out.size; simp; omega))); rw [show (nints (quB s k) ++ ([92, 34] : List Int)).length = N + 2 by simp [HNN.out]]; clear ho6 hg6)
        exact ⟨⟨k + 1, N + 2, a6, c6, by go_num, HKS.out, rfl, by rw [(HSTEP.out _ HQ.out).2]; rfl, by have := HN4.out; omega, HO6.out, HB6.out⟩, by have := HKS.out; simp only [intOf]; omega⟩
      have b4 : ((x : Int) == 34) = false := by rw [beq_eq_false_iff_ne]; omega
      by_cases e5 : x = 92
      · subst e5
        have HQ : Hid (quC 92 = [92, 92]) := Lib.hid (by decide)
        skip
        go_wp2_with (at_builtin; refine app_rd (.tmp 45) (.tmp 47) EU8' rfl rfl w.heap.size (.slice a N c) (nints (quB s k)) rfl (HO.out.alloc _) (some ⟨_, 0, none⟩) 2 2 ([92, 92] : List Int) rfl (Rd.two _ _ _ _ (by omega) (by omega)) (by have := HNN.out; have := HN9.out; simp; omega) (by decide) (by have h1 := HB.out.size; simp; omega) ?_; intro a6 c6 w6 ho6 hg6; have HO6 : Hid (Own w6 w.heap.size 5 .u8 (.slice a6 (N + 2) c6) (nints (quB s (k + 1)))) := Lib.hid (by rw [← (HSTEP.out _ HQ.out).1]; have h := ho6; rw [show (nints (quB s k) ++ ([92, 92] : List Int)).length = N + 2 by simp [HNN.out]] at h; exact h); have HB6 : Hid (Below w.heap.size w w6) := Lib.hid ((HB.out.alloc (by exact HB.out.size) _).trans (grown_below (HO.out.alloc _) hg6 (by have := HB.out.size; simp; omega))); rw [show (nints (quB s k) ++ ([92, 92] : List Int)).length = N + 2 by simp [HNN.out]]; clear ho6 hg6)
        exact ⟨⟨k + 1, N + 2, a6, c6, by go_num, HKS.out, rfl, by rw [(HSTEP.out _ HQ.out).2]; rfl, by have := HN4.out; omega, HO6.out, HB6.out⟩, by have := HKS.out; simp only [intOf]; omega⟩
      have b5 : ((x : Int) == 92) = false := by rw [beq_eq_false_iff_ne]; omega
      by_cases e6 : 32 ≤ x ∧ x < 127
      · have b6 : decide ((x : Int) < 32) = false := decide_eq_false (by omega)
        have b7 : decide ((127 : Int) ≤ (x : Int)) = false := decide_eq_false (by omega)
        have HQ : Hid (quC x = [x]) := Lib.hid (by unfold quC; rw [if_neg e1, if_neg e2, if_neg e3, if_neg (by omega), if_neg (by omega)])
        skip
        go_wp2_with (at_builtin; refine app_rd (.tmp 16) (.tmp 18) EU8' rfl rfl w.heap.size (.slice a N c) (nints (quB s k)) rfl (HO.out.alloc _) (some ⟨_, 0, none⟩) 1 1 ([(x : Int)] : List Int) rfl (Rd.one _ .u8 _ _ (by have := HX9.out; simp [Lit.wf, IntKind.min, IntKind.max, IntKind.signed, IntKind.bits]; omega)) (by have := HNN.out; have := HN9.out; simp; omega) (by decide) (by have h1 := HB.out.size; simp; omega) ?_; intro a6 c6 w6 ho6 hg6; have HO6 : Hid (Own w6 w.heap.size 5 .u8 (.slice a6 (N + 1) c6) (nints (quB s (k + 1)))) := Lib.hid (by rw [← (HSTEP.out _ HQ.out).1]; have h := ho6; rw [show (nints (quB s k) ++ ([(x : Int)] : List Int)).length = N + 1 by simp [HNN.out]] at h; exact h); have HB6 : Hid (Below w.heap.size w w6) := Lib.hid ((HB.out.alloc (by exact HB.out.size) _).trans (grown_below (HO.out.alloc _) hg6 (by have := HB.out.size; simp; omega))); rw [show (nints (quB s k) ++ ([(x : Int)] : List Int)).length = N + 1 by simp [HNN.out]]; clear ho6 hg6)
        exact ⟨⟨k + 1, N + 1, a6, c6, by go_num, HKS.out, rfl, by rw [(HSTEP.out _ HQ.out).2]; rfl, by have := HN4.out; omega, HO6.out, HB6.out⟩, by have := HKS.out; simp only [intOf]; omega⟩
      obtain ⟨d1, hd1⟩ : ∃ d, d = x / 16 := ⟨_, rfl⟩
      obtain ⟨d2, hd2⟩ : ∃ d, d = x % 16 := ⟨_, rfl⟩
      have k1 : d1 < 16 := by have := HX9.out; omega
      have k2 : d2 < 16 := by omega
      have k1i : (d1 : Int) < 16 := by omega
      have k2i : (d2 : Int) < 16 := by omega
      have hshr : (x : Int).tdiv 16 = (d1 : Int) := by rw [Int.tdiv_eq_ediv_of_nonneg (by omega)]; omega
      have hand : (x : Int).tmod 16 = (d2 : Int) := by rw [Int.tmod_eq_emod_of_nonneg (by omega)]; omega
      obtain ⟨c1, hc1⟩ : ∃ c, ((⟨#[48, 49, 50, 51, 52, 53, 54, 55, 56, 57, 97, 98, 99, 100, 101, 102]⟩ : ByteArray)[d1]'k1).toNat = c := ⟨_, rfl⟩
      obtain ⟨c2, hc2⟩ : ∃ c, ((⟨#[48, 49, 50, 51, 52, 53, 54, 55, 56, 57, 97, 98, 99, 100, 101, 102]⟩ : ByteArray)[d2]'k2).toNat = c := ⟨_, rfl⟩
      have HC1 : Hid (c1 = hexC d1 ∧ c1 < 256) := Lib.hid ⟨by rw [← hc1]; exact hexL d1 k1, by rw [← hc1, hexL d1 k1]; unfold hexC; split <;> omega⟩
      have HC2 : Hid (c2 = hexC d2 ∧ c2 < 256) := Lib.hid ⟨by rw [← hc2]; exact hexL d2 k2, by rw [← hc2, hexL d2 k2]; unfold hexC; split <;> omega⟩
      have HQ : Hid (quC x = [92, 120, c1, c2]) := Lib.hid (by unfold quC; rw [if_neg e1, if_neg e2, if_neg e3, if_neg (by omega), if_pos (by omega), HC1.out.1, HC2.out.1, hd1, hd2])
      have g1 : (c1 : Int) ≤ 255 := by have := HC1.out.2; omega
      have g2 : (c2 : Int) ≤ 255 := by have := HC2.out.2; omega
      have HLT9 : Hid (x < 32 ∨ x ≥ 127) := Lib.hid (by omega)
      have hwd1 : IntKind.u8.wrap (d1 : Int) = (d1 : Int) := by unfold IntKind.wrap; simp [IntKind.signed, IntKind.bits]; omega
      have hwd2 : IntKind.u8.wrap (d2 : Int) = (d2 : Int) := by unfold IntKind.wrap; simp [IntKind.signed, IntKind.bits]; omega
      clear e1 e2 e3 e4 e5 e6 hd1 hd2
      have e7' : ((x : Int) < 32) ∨ (decide ((x : Int) < 32) = false ∧ (127 : Int) ≤ (x : Int)) := by
        by_cases h : x < 32
        · exact .inl (by omega)
        · exact .inr ⟨decide_eq_false (by omega), by have := HLT9.out; omega⟩
      rcases e7' with e7 | ⟨e7, e7'⟩
      all_goals
        go_upto_region 16 with fail
        go_region_law (refine step_app_rd (.tmp 56) (.tmp 63) EU8' rfl rfl w.heap.size (.slice a N c) (nints (quB s k)) rfl (Own.drew (HO.out.alloc _)) (some ⟨_, 0, none⟩) 4 4 ([92, 120, (c1 : Int), (c2 : Int)] : List Int) rfl ((Rd.four _ _ _ _ _ _ (by omega) (by omega) (by omega) (by omega)).below (Below.drew (Below.refl _ _))) (by have := HNN.out; have := HN9.out; simp; omega) (by decide) (by have h1 := HB.out.size; simp; omega) ?_; intro a6 c6 w6 ho6 hg6; have HO6 : Hid (Own w6 w.heap.size 5 .u8 (.slice a6 (N + 4) c6) (nints (quB s (k + 1)))) := Lib.hid (by rw [← (HSTEP.out _ HQ.out).1]; have h := ho6; rw [show (nints (quB s k) ++ ([92, 120, (c1 : Int), (c2 : Int)] : List Int)).length = N + 4 by simp [HNN.out]] at h; exact h); have HB6 : Hid (Below w.heap.size w w6) := Lib.hid ((HB.out.alloc (by exact HB.out.size) _).drew.trans (grown_below (Own.drew (HO.out.alloc _)) hg6 (by have := HB.out.size; simp; omega))); rw [show (nints (quB s k) ++ ([92, 120, (c1 : Int), (c2 : Int)] : List Int)).length = N + 4 by simp [HNN.out]]; clear ho6 hg6)
      all_goals
        go_wp2
        exact ⟨⟨k + 1, N + 4, a6, c6, by go_num, HKS.out, rfl, by rw [(HSTEP.out _ HQ.out).2]; rfl, by have := HN4.out; omega, HO6.out, HB6.out⟩, by have := HKS.out; simp only [intOf]; omega⟩

end Go.Proofs.YtpabngicbfcdkaaDoor

/- The reference's bytes of references. -/
namespace Go.Proofs.YtpabngicbfcdkaaDoor
open Go.RowKit
set_option linter.unusedVariables false
set_option linter.unusedSimpArgs false

set_option maxRecDepth 100000 in
theorem refByte_any (c : Nat) (hc : c < 256) (w : World) : Calls Tryd.prog 28 #[.int .u8 c] w fun e w' => e = .returned (.bool (refB c)) ∧ w = w' := by
  have hca : c ≤ 255 := by omega
  by_cases h1 : 97 ≤ c
  · by_cases h2 : c ≤ 122
    · have d1 : decide ((97 : Int) ≤ (c : Int)) = true := decide_eq_true (by omega)
      have d2 : decide ((c : Int) ≤ 122) = true := decide_eq_true (by omega)
      have HE : Hid (refB c = true) := Lib.hid (by simp [refB, letB, digB]; omega)
      clear hca hc h1 h2
      go_enter Tryd.func28, Tryd.ntmps28
      go_wp2
      go_ret
      exact ⟨ret_eq (by rw [HE.out]; rfl), rfl⟩
    · by_cases h3 : c = 126
      · have d1 : decide ((97 : Int) ≤ (c : Int)) = true := decide_eq_true (by omega)
        have d2 : decide ((c : Int) ≤ 122) = false := decide_eq_false (by omega)
        have d3 : decide ((48 : Int) ≤ (c : Int)) = true := decide_eq_true (by omega)
        have d4 : decide ((c : Int) ≤ 57) = false := decide_eq_false (by omega)
        have d5 : ((c : Int) == 45) = false := by rw [beq_eq_false_iff_ne]; omega
        have d6 : ((c : Int) == 126) = true := by rw [beq_iff_eq]; omega
        have HE : Hid (refB c = true) := Lib.hid (by simp [refB, letB, digB]; omega)
        clear hca hc h1 h2 h3
        go_enter Tryd.func28, Tryd.ntmps28
        go_wp2
        go_ret
        exact ⟨ret_eq (by rw [HE.out]; rfl), rfl⟩
      · have d1 : decide ((97 : Int) ≤ (c : Int)) = true := decide_eq_true (by omega)
        have d2 : decide ((c : Int) ≤ 122) = false := decide_eq_false (by omega)
        have d3 : decide ((48 : Int) ≤ (c : Int)) = true := decide_eq_true (by omega)
        have d4 : decide ((c : Int) ≤ 57) = false := decide_eq_false (by omega)
        have d5 : ((c : Int) == 45) = false := by rw [beq_eq_false_iff_ne]; omega
        have d6 : ((c : Int) == 126) = false := by rw [beq_eq_false_iff_ne]; omega
        have d7 : ((c : Int) == 35) = false := by rw [beq_eq_false_iff_ne]; omega
        have HE : Hid (refB c = false) := Lib.hid (by simp [refB, letB, digB]; omega)
        clear hca hc h1 h2 h3
        go_enter Tryd.func28, Tryd.ntmps28
        go_wp2
        go_ret
        exact ⟨ret_eq (by rw [HE.out]; rfl), rfl⟩
  · by_cases h2 : 48 ≤ c
    · by_cases h3 : c ≤ 57
      · have d1 : decide ((97 : Int) ≤ (c : Int)) = false := decide_eq_false (by omega)
        have d3 : decide ((48 : Int) ≤ (c : Int)) = true := decide_eq_true (by omega)
        have d4 : decide ((c : Int) ≤ 57) = true := decide_eq_true (by omega)
        have HE : Hid (refB c = true) := Lib.hid (by simp [refB, letB, digB]; omega)
        clear hca hc h1 h2 h3
        go_enter Tryd.func28, Tryd.ntmps28
        go_wp2
        go_ret
        exact ⟨ret_eq (by rw [HE.out]; rfl), rfl⟩
      · have d1 : decide ((97 : Int) ≤ (c : Int)) = false := decide_eq_false (by omega)
        have d3 : decide ((48 : Int) ≤ (c : Int)) = true := decide_eq_true (by omega)
        have d4 : decide ((c : Int) ≤ 57) = false := decide_eq_false (by omega)
        have d5 : ((c : Int) == 45) = false := by rw [beq_eq_false_iff_ne]; omega
        have d6 : ((c : Int) == 126) = false := by rw [beq_eq_false_iff_ne]; omega
        have d7 : ((c : Int) == 35) = false := by rw [beq_eq_false_iff_ne]; omega
        have HE : Hid (refB c = false) := Lib.hid (by simp [refB, letB, digB]; omega)
        clear hca hc h1 h2 h3
        go_enter Tryd.func28, Tryd.ntmps28
        go_wp2
        go_ret
        exact ⟨ret_eq (by rw [HE.out]; rfl), rfl⟩
    · by_cases h3 : c = 45
      · have d1 : decide ((97 : Int) ≤ (c : Int)) = false := decide_eq_false (by omega)
        have d3 : decide ((48 : Int) ≤ (c : Int)) = false := decide_eq_false (by omega)
        have d5 : ((c : Int) == 45) = true := by rw [beq_iff_eq]; omega
        have HE : Hid (refB c = true) := Lib.hid (by simp [refB, letB, digB]; omega)
        clear hca hc h1 h2 h3
        go_enter Tryd.func28, Tryd.ntmps28
        go_wp2
        go_ret
        exact ⟨ret_eq (by rw [HE.out]; rfl), rfl⟩
      · by_cases h4 : c = 35
        · have d1 : decide ((97 : Int) ≤ (c : Int)) = false := decide_eq_false (by omega)
          have d3 : decide ((48 : Int) ≤ (c : Int)) = false := decide_eq_false (by omega)
          have d5 : ((c : Int) == 45) = false := by rw [beq_eq_false_iff_ne]; omega
          have d6 : ((c : Int) == 126) = false := by rw [beq_eq_false_iff_ne]; omega
          have d7 : ((c : Int) == 35) = true := by rw [beq_iff_eq]; omega
          have HE : Hid (refB c = true) := Lib.hid (by simp [refB, letB, digB]; omega)
          clear hca hc h1 h2 h3 h4
          go_enter Tryd.func28, Tryd.ntmps28
          go_wp2
          go_ret
          exact ⟨ret_eq (by rw [HE.out]; rfl), rfl⟩
        · have d1 : decide ((97 : Int) ≤ (c : Int)) = false := decide_eq_false (by omega)
          have d3 : decide ((48 : Int) ≤ (c : Int)) = false := decide_eq_false (by omega)
          have d5 : ((c : Int) == 45) = false := by rw [beq_eq_false_iff_ne]; omega
          have d6 : ((c : Int) == 126) = false := by rw [beq_eq_false_iff_ne]; omega
          have d7 : ((c : Int) == 35) = false := by rw [beq_eq_false_iff_ne]; omega
          have HE : Hid (refB c = false) := Lib.hid (by simp [refB, letB, digB]; omega)
          clear hca hc h1 h2 h3 h4
          go_enter Tryd.func28, Tryd.ntmps28
          go_wp2
          go_ret
          exact ⟨ret_eq (by rw [HE.out]; rfl), rfl⟩

end Go.Proofs.YtpabngicbfcdkaaDoor
