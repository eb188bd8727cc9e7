/-
  Joined texts: the table's map: keyed by numbers of rules, its values whole. · machines as they are read: rows of integers, lists of bools; when a machine is valid. · the table in memory; Store, Back, check. · transfer.entry of a Letter: the walk.
-/
import Derived.Test.YtflgmodofemifaaWC8
import Derived.Maps.OwnSet
import Derived.Test.YtflgmodofemifaaWC1

/- the table's map: keyed by numbers of rules, its values whole. -/
namespace Go.Proofs.Ytflgmodofemifaa
open Go.RowKit Go.Maps
set_option linter.unusedVariables false
set_option linter.unusedSimpArgs false

theorem idLaw : Keyed Try.prog 39 := int_keyed Try.underlying39
/-- a value read as itself -/
def heldR (v : Value) : Option (DataW Value × List MemPlace) := some (.held v, [])
/-- no entry -/
def entZ : Value := .agg #[.slice none 0 0, .slice none 0 0, .slice none 0 0]
theorem zeroEnt (w : World) : (zeroValue 116).run Try.prog w = .ok entZ w := by kernel_rfl

/-- the map at block b holds K -/
def KM (w : World) (b n : Nat) (K : Nat → Option Value) : Prop :=
  ∃ D : DataW Value, w.ownsMap Try.prog 39 heldR b n D ∧ ∀ id : Nat, id < 9223372036854775808 → Maps.has D (.int .i64 (id : Int)) = (K id).isSome ∧ ∀ v, K id = some v → ∀ z, D.atKey (.int .i64 (id : Int)) z = .held v

theorem KM.fr {w w' : World} {b n K} {S : Nat → Prop} (h : KM w b n K) (hf : Fr S w w') (hn : ¬ S b) : KM w' b n K := by
  obtain ⟨D, h1, h2⟩ := h
  exact ⟨D, ownsMap_fr h1 hf hn, h2⟩
theorem KM.below {w w' : World} {b n K} (h : KM w b n K) (hb : Below w.heap.size w w') : KM w' b n K := h.fr (S := fun _ => False) (.of_below hb) (fun h => h)
theorem KM.lt {w : World} {b n K} (h : KM w b n K) : b < w.heap.size := by obtain ⟨D, h1, _⟩ := h; exact h1.lt
theorem KM.made (w : World) : KM (w.alloc (.map #[] 0)) w.heap.size 0 (fun _ => none) :=
  ⟨.map [], World.ownsMap_made w Try.prog 39 heldR, fun id hid => ⟨rfl, fun v h => by cases h⟩⟩

theorem KM.hit {w : World} {b n K} (h : KM w b n K) {id : Nat} {v : Value} (hid : id < 9223372036854775808) (hv : K id = some v) :
    (Instr.lookup 85 (.map (some b)) (.int .i64 (id : Int)) true).run Try.prog w = .ok (.tuple #[v, .bool true]) w ∧ (Instr.lookup 85 (.map (some b)) (.int .i64 (id : Int)) false).run Try.prog w = .ok v w := by
  obtain ⟨D, h1, h2⟩ := h
  obtain ⟨g1, g2⟩ := h2 id hid
  have hk := keyOf_int_mk Try.underlying39 (wfI hid)
  obtain ⟨x, ps, hrun, hx⟩ := h1.look_ok idLaw Try.underlying85 (zeroEnt w) (zd := .held entZ) (zp := []) rfl hk
  obtain ⟨y, qs, hrun2, hy⟩ := h1.lookup idLaw Try.underlying85 (zeroEnt w) (zd := .held entZ) (zp := []) rfl hk
  rw [g2 v hv] at hx hy
  have e1 : x = v := (show x = v ∧ ps = [] by simpa [heldR] using hx).1
  have e2 : y = v := (show y = v ∧ qs = [] by simpa [heldR] using hy).1
  rw [e1, g1, hv] at hrun
  rw [e2] at hrun2
  exact ⟨hrun, hrun2⟩
theorem KM.miss {w : World} {b n K} (h : KM w b n K) {id : Nat} (hid : id < 9223372036854775808) (hv : K id = none) :
    (Instr.lookup 85 (.map (some b)) (.int .i64 (id : Int)) true).run Try.prog w = .ok (.tuple #[entZ, .bool false]) w := by
  obtain ⟨D, h1, h2⟩ := h
  obtain ⟨g1, g2⟩ := h2 id hid
  have hk := keyOf_int_mk Try.underlying39 (wfI hid)
  obtain ⟨x, ps, hrun, hx⟩ := h1.look_ok idLaw Try.underlying85 (zeroEnt w) (zd := .held entZ) (zp := []) rfl hk
  rw [hv] at g1
  rw [atKey_of_not_has g1] at hx
  have e1 : x = entZ := (show x = entZ ∧ ps = [] by simpa [heldR] using hx).1
  rw [e1, g1] at hrun
  exact hrun
theorem KM.put {w : World} {b n K} (h : KM w b n K) {id : Nat} (v : Value) (hid : id < 9223372036854775808) (hn : n < 9223372036854775807) :
    ∃ w', (Instr.mapUpdate 85 (.map (some b)) (.int .i64 (id : Int)) v).run Try.prog w = .ok () w' ∧ KM w' b (n + 1) (fun j => if j = id then some v else K j) ∧ w.grownBy w' (some b) := by
  obtain ⟨D, h1, h2⟩ := h
  have hk := keyOf_int_mk Try.underlying39 (wfI hid)
  obtain ⟨w', hrun, hown, hg⟩ := h1.update (d := .held v) (ps := []) (val := v) idLaw Try.underlying85 (by unfold maxLen; omega) hk rfl
  refine ⟨w', hrun, ⟨_, hown, fun j hj => ?_⟩, hg⟩
  by_cases e : j = id
  · subst e
    have hkl := idLaw.key hk
    refine ⟨by rw [has_put_same h1.isMap hkl]; simp, fun u hu z => ?_⟩
    simp only [if_true] at hu
    cases hu
    exact atKey_put_same h1.isMap hkl _ _
  · have hne : (Lit.int .i64 (j : Int)) ≠ .int .i64 (id : Int) := fun h => e (by have := (Lit.int.inj h).2; omega)
    obtain ⟨g1, g2⟩ := h2 j hj
    refine ⟨by rw [has_put_other hne]; simp only [if_neg e]; exact g1, fun u hu z => ?_⟩
    simp only [if_neg e] at hu
    rw [atKey_put_other hne]
    exact g2 u hu z

end Go.Proofs.Ytflgmodofemifaa

/- machines as they are read: rows of integers, lists of bools; when a machine is valid. -/
namespace Go.Proofs.Ytflgmodofemifaa
open Go.RowKit

/-- the n bools of a slice value -/
structure RdB (w : World) (a : Option Addr) (n : Nat) (l : List Bool) : Prop where
  len : l.length = n
  max : n ≤ 9223372036854775807
  cell : ∀ i, i < n → ∃ b off, a = some ⟨b, off, none⟩ ∧ w.cell? ⟨b, off + i, none⟩ = some (.bool (l.getD i false))

theorem RdB.below {w w' : World} {a n l} (h : RdB w a n l) (hb : Below w.heap.size w w') : RdB w' a n l :=
  ⟨h.len, h.max, fun i hi => by
    obtain ⟨b, off, ha, hc⟩ := h.cell i hi
    exact ⟨b, off, ha, (hb.cell (World.block_lt_of_cell? w _ hc)).trans hc⟩⟩

/-- the n rows of integers of a slice of slices -/
structure RdRows (w : World) (k : IntKind) (a : Option Addr) (n : Nat) (ll : List (List Int)) : Prop where
  len : ll.length = n
  max : n ≤ 9223372036854775807
  cell : ∀ i, i < n → ∃ b off ai ni ci, a = some ⟨b, off, none⟩ ∧ w.cell? ⟨b, off + i, none⟩ = some (.slice ai ni ci) ∧ Rd w k ai ni (ll.getD i []) ∧ ni ≤ ci

theorem RdRows.below {w w' : World} {k a n l} (h : RdRows w k a n l) (hb : Below w.heap.size w w') : RdRows w' k a n l :=
  ⟨h.len, h.max, fun i hi => by
    obtain ⟨b, off, ai, ni, ci, ha, hc, hr, hn⟩ := h.cell i hi
    exact ⟨b, off, ai, ni, ci, ha, (hb.cell (World.block_lt_of_cell? w _ hc)).trans hc, hr.below hb, hn⟩⟩

/-- a machine's four fields read -/
structure RdM (w : World) (ac : Option Addr) (nc : Nat) (an : Option Addr) (nn : Nat) (aa : Option Addr) (na : Nat) (cls : List Int) (next : List (List Int)) (acc : List Bool) : Prop where
  c : Rd w .i64 ac nc cls
  n : RdRows w .i64 an nn next
  a : RdB w aa na acc

theorem RdM.below {w w' : World} {ac nc an nn aa na cls next acc} (h : RdM w ac nc an nn aa na cls next acc) (hb : Below w.heap.size w w') : RdM w' ac nc an nn aa na cls next acc :=
  ⟨h.c.below hb, h.n.below hb, h.a.below hb⟩

/-- a row has c entries, each a state -/
def rowOk (n c : Nat) (row : List Int) : Bool := row.length == c && row.all fun q => decide (0 ≤ q) && decide (q < n)
/-- each letter has a class -/
def clsOk (c : Nat) (cls : List Int) : Bool := cls.all fun q => decide (0 ≤ q) && decide (q < c)
/-- how many classes there are -/
def ncls (next : List (List Int)) : Nat := (next.getD 0 []).length
/-- the first tests -/
def HeadBad (s : Int) (cls : List Int) (next : List (List Int)) (acc : List Bool) : Prop :=
  cls.length ≠ 256 ∨ next.length = 0 ∨ acc.length ≠ next.length ∨ s < 0 ∨ (next.length : Int) ≤ s
instance (s : Int) (cls : List Int) (next : List (List Int)) (acc : List Bool) : Decidable (HeadBad s cls next acc) := by unfold HeadBad; infer_instance

/-- the error code of a machine; 0: it is valid -/
def mcode (s : Int) (cls : List Int) (next : List (List Int)) (acc : List Bool) : Int :=
  if HeadBad s cls next acc then 4
  else if ncls next = 0 ∨ 256 < ncls next then 4
  else if next.all (rowOk next.length (ncls next)) = false then 4
  else if clsOk (ncls next) cls = false then 4
  else if 256 < next.length then 9 else 0

/-- a valid machine of at most 256 states -/
structure Valid (s : Int) (cls : List Int) (next : List (List Int)) (acc : List Bool) : Prop where
  clsL : cls.length = 256
  accL : acc.length = next.length
  s0 : 0 ≤ s
  s1 : s < next.length
  c0 : 0 < ncls next
  c1 : ncls next ≤ 256
  n1 : next.length ≤ 256
  row : ∀ row ∈ next, row.length = ncls next ∧ ∀ q ∈ row, 0 ≤ q ∧ q < next.length
  let_ : ∀ q ∈ cls, 0 ≤ q ∧ q < ncls next

theorem valid_of_code {s cls next acc} (h : mcode s cls next acc = 0) : Valid s cls next acc := by
  unfold mcode at h
  by_cases h1 : HeadBad s cls next acc
  · rw [if_pos h1] at h; cases h
  rw [if_neg h1] at h
  by_cases h2 : ncls next = 0 ∨ 256 < ncls next
  · rw [if_pos h2] at h; cases h
  rw [if_neg h2] at h
  by_cases h3 : next.all (rowOk next.length (ncls next)) = false
  · rw [if_pos h3] at h; cases h
  rw [if_neg h3] at h
  by_cases h4 : clsOk (ncls next) cls = false
  · rw [if_pos h4] at h; cases h
  rw [if_neg h4] at h
  by_cases h5 : 256 < next.length
  · rw [if_pos h5] at h; cases h
  unfold HeadBad at h1
  simp only [Bool.not_eq_false] at h3 h4
  refine ⟨by omega, by omega, by omega, by omega, by omega, by omega, by omega, fun row hr => ?_, fun q hq => ?_⟩
  · have := List.all_eq_true.1 h3 row hr
    unfold rowOk at this
    simp only [Bool.and_eq_true, beq_iff_eq, List.all_eq_true, decide_eq_true_eq] at this
    exact this
  · have := List.all_eq_true.1 h4 q hq
    simpa using this

theorem code_of_valid {s cls next acc} (h : Valid s cls next acc) : mcode s cls next acc = 0 := by
  unfold mcode
  have h1 : ¬ HeadBad s cls next acc := by
    have := h.clsL; have := h.accL; have := h.s0; have := h.s1
    unfold HeadBad; omega
  have h2 : ¬ (ncls next = 0 ∨ 256 < ncls next) := by have := h.c0; have := h.c1; omega
  have h3 : next.all (rowOk next.length (ncls next)) = true := List.all_eq_true.2 fun row hr => by
    have := h.row row hr
    unfold rowOk
    simp only [Bool.and_eq_true, beq_iff_eq, List.all_eq_true, decide_eq_true_eq]
    exact this
  have h4 : clsOk (ncls next) cls = true := List.all_eq_true.2 fun q hq => by simpa using h.let_ q hq
  rw [if_neg h1, if_neg h2, if_neg (by rw [h3]; simp), if_neg (by rw [h4]; simp), if_neg (by have := h.n1; omega)]

/-- rows up to i are in order -/
def rowsTo (next : List (List Int)) (i : Nat) : Prop := (next.take i).all (rowOk next.length (ncls next)) = true

theorem rowsTo_zero (next : List (List Int)) : rowsTo next 0 := by simp [rowsTo]
theorem rowsTo_succ {next : List (List Int)} {i : Nat} (hi : i < next.length) (h : rowsTo next i) (hr : rowOk next.length (ncls next) (next.getD i []) = true) : rowsTo next (i + 1) := by
  unfold rowsTo at *
  rw [getD_take_snoc (d := []) hi, List.all_append, h, List.all_cons, hr]
  rfl
theorem rowsTo_all {next : List (List Int)} (h : rowsTo next next.length) : next.all (rowOk next.length (ncls next)) = true := by
  unfold rowsTo at h; rwa [List.take_length] at h
theorem rows_bad {next : List (List Int)} {i : Nat} (hi : i < next.length) (hr : rowOk next.length (ncls next) (next.getD i []) = false) : next.all (rowOk next.length (ncls next)) = false := by
  rw [Bool.eq_false_iff]
  intro h
  have := List.all_eq_true.1 h _ (getD_mem (d := []) hi)
  rw [hr] at this; cases this

/-- entries of a row up to k are states -/
def entTo (n : Nat) (row : List Int) (k : Nat) : Prop := ∀ q ∈ row.take k, 0 ≤ q ∧ q < (n : Int)
theorem entTo_zero (n : Nat) (row : List Int) : entTo n row 0 := by simp [entTo]
theorem entTo_succ {n : Nat} {row : List Int} {k : Nat} (hk : k < row.length) (h : entTo n row k) (h0 : 0 ≤ row.getD k 0) (h1 : row.getD k 0 < n) : entTo n row (k + 1) := by
  intro q hq
  rw [getD_take_snoc (d := 0) hk] at hq
  rcases List.mem_append.1 hq with hq | hq
  · exact h q hq
  · rw [List.mem_singleton] at hq; subst hq; exact ⟨h0, h1⟩
theorem entTo_row {n c : Nat} {row : List Int} (hl : row.length = c) (h : entTo n row row.length) : rowOk n c row = true := by
  unfold entTo at h; rw [List.take_length] at h
  unfold rowOk
  simp only [Bool.and_eq_true, beq_iff_eq, List.all_eq_true, decide_eq_true_eq]
  exact ⟨hl, h⟩
theorem ent_bad {n c : Nat} {row : List Int} {k : Nat} (hk : k < row.length) (h : row.getD k 0 < 0 ∨ (n : Int) ≤ row.getD k 0) : rowOk n c row = false := by
  rw [Bool.eq_false_iff]
  intro h2
  unfold rowOk at h2
  simp only [Bool.and_eq_true, beq_iff_eq, List.all_eq_true, decide_eq_true_eq] at h2
  have := h2.2 _ (getD_mem (d := 0) hk)
  omega
theorem len_bad {n c : Nat} {row : List Int} (h : row.length ≠ c) : rowOk n c row = false := by
  unfold rowOk; simp [h]

/-- the classes of the letters up to k -/
theorem cls_ok {c : Nat} {cls : List Int} (h : entTo c cls cls.length) : clsOk c cls = true := by
  unfold entTo at h; rw [List.take_length] at h
  unfold clsOk
  simp only [Bool.and_eq_true, List.all_eq_true, decide_eq_true_eq]
  exact h
theorem cls_bad {c : Nat} {cls : List Int} {k : Nat} (hk : k < cls.length) (h : cls.getD k 0 < 0 ∨ (c : Int) ≤ cls.getD k 0) : clsOk c cls = false := by
  rw [Bool.eq_false_iff]
  intro h2
  unfold clsOk at h2
  simp only [Bool.and_eq_true, List.all_eq_true, decide_eq_true_eq] at h2
  have := h2 _ (getD_mem (d := 0) hk)
  omega

end Go.Proofs.Ytflgmodofemifaa

/- the table in memory; Store, Back, check. -/
namespace Go.Proofs.Ytflgmodofemifaa
open Go.RowKit Go.Maps
set_option linter.unusedVariables false
set_option linter.unusedSimpArgs false

/-- where a table's parts lie -/
structure Tb where
  ac : Option Addr
  cc : Nat
  an : Option Addr
  cn : Nat
  aa : Option Addr
  ca : Nat
  ah : Option Addr
  ch : Nat
  bk : Nat
def tbC (bs n : Nat) (x : Tb) : List Value := [.pointer (some ⟨bs, 0, none⟩), .int .i64 0, .slice x.ac 256 x.cc, .slice x.an n x.cn, .slice x.aa n x.ca, .slice x.ah n x.ch, .bool false, .map (some x.bk)]

/-- how many numbers are known -/
def cntK (K : Nat → Option Value) (N : Nat) : Nat := ((List.range N).filter fun i => (K (i + 1)).isSome).length
theorem cntK_le (K : Nat → Option Value) (N : Nat) : cntK K N ≤ N := Nat.le_trans (List.length_filter_le _ _) (by simp)
theorem cntK_succ (K : Nat → Option Value) (N : Nat) : cntK K (N + 1) = cntK K N + if (K (N + 1)).isSome then 1 else 0 := by
  unfold cntK
  rw [List.range_succ, List.filter_append, List.length_append]
  congr 1
  by_cases h : (K (N + 1)).isSome <;> simp [h]
theorem cntK_put {K : Nat → Option Value} {id : Nat} {v : Value} (h0 : 0 < id) (hn : K id = none) : ∀ N, id ≤ N → cntK (fun j => if j = id then some v else K j) N = cntK K N + 1
  | 0, h => by omega
  | N + 1, h => by
    rw [cntK_succ, cntK_succ]
    by_cases e : id = N + 1
    · subst e
      have : cntK (fun j => if j = N + 1 then some v else K j) N = cntK K N := by
        unfold cntK
        congr 1
        apply List.filter_congr
        intro i hi
        have h9 := List.mem_range.1 hi
        show (if i + 1 = N + 1 then some v else K (i + 1)).isSome = _
        rw [if_neg (show ¬ i + 1 = N + 1 by omega)]
      rw [this, hn]; simp
    · rw [cntK_put h0 hn N (by omega)]
      rw [if_neg (show ¬ N + 1 = id from fun h => e h.symm)]
      omega

theorem Rd.frS' {w w' : World} {k : IntKind} {a : Option Addr} {n : Nat} {l : List Int} {S : Nat → Prop} (h : Rd w k a n l) (hf : Fr S w w') (hn : ∀ z, a = some z → ¬ S z.block) : Rd w' k a n l :=
  ⟨h.len, h.max, fun i hi => by
    obtain ⟨b, off, ha, hc⟩ := h.cell i hi
    exact ⟨b, off, ha, hf.cell hc (show ¬ S b from hn _ ha)⟩, h.wf⟩
/-- what of the table stands from its making on -/
structure TS (m : Mc) (acc : List Bool) (B bs most : Nat) (L : List En) (x : Tb) (tb : Nat) (wb : World) : Prop where
  bx : BX wb tb (tbC bs m.next.length x)
  rd : RdM wb x.ac 256 x.an m.next.length x.aa m.next.length m.cls m.next acc
  hr : Rd wb .i64 x.ah m.next.length m.hits
  si : ∃ w0, SI B w0 bs most L ∧ Below w0.heap.size w0 wb ∧ w0.heap.size ≤ x.bk
  mp : ∃ es ck, wb.heap[x.bk]? = some (.map es ck)

theorem TS.lt {m acc B bs most L x tb wb} (h : TS m acc B bs most L x tb wb) : x.bk < wb.heap.size := by
  obtain ⟨es, ck, he⟩ := h.mp
  exact (Array.getElem?_eq_some_iff.1 he).1
theorem TS.cell {m acc B bs most L x tb wb w} (h : TS m acc B bs most L x tb wb) (hf : Fr (fun b => b = x.bk) wb w) {a : Addr} {v : Value} (hc : wb.cell? a = some v) : w.cell? a = some v := by
  refine hf.cell hc fun e => ?_
  obtain ⟨es, ck, he⟩ := h.mp
  simp [World.cell?, e, he] at hc
theorem TS.bx' {m acc B bs most L x tb wb w} (h : TS m acc B bs most L x tb wb) (hf : Fr (fun b => b = x.bk) wb w) : BX w tb (tbC bs m.next.length x) :=
  h.bx.fr hf fun e => by
    have hc := h.bx.cell (j := 0) rfl
    obtain ⟨es, ck, he⟩ := h.mp
    simp [World.cell?, e, he] at hc
theorem TS.rd' {m acc B bs most L x tb wb w} (h : TS m acc B bs most L x tb wb) (hf : Fr (fun b => b = x.bk) wb w) : RdM w x.ac 256 x.an m.next.length x.aa m.next.length m.cls m.next acc := by
  have keep : ∀ {k a n l}, Rd wb k a n l → Rd w k a n l := fun {k a n l} hr => ⟨hr.len, hr.max, fun i hi => by
    obtain ⟨b, off, ha, hc⟩ := hr.cell i hi
    exact ⟨b, off, ha, h.cell hf hc⟩, hr.wf⟩
  refine ⟨keep h.rd.c, ⟨h.rd.n.len, h.rd.n.max, fun i hi => ?_⟩, ⟨h.rd.a.len, h.rd.a.max, fun i hi => ?_⟩⟩
  · obtain ⟨b, off, ai, ni, ci, ha, hc, hr, hn⟩ := h.rd.n.cell i hi
    exact ⟨b, off, ai, ni, ci, ha, h.cell hf hc, keep hr, hn⟩
  · obtain ⟨b, off, ha, hc⟩ := h.rd.a.cell i hi
    exact ⟨b, off, ha, h.cell hf hc⟩
theorem TS.hr' {m acc B bs most L x tb wb w} (h : TS m acc B bs most L x tb wb) (hf : Fr (fun b => b = x.bk) wb w) : Rd w .i64 x.ah m.next.length m.hits :=
  ⟨h.hr.len, h.hr.max, fun i hi => by
    obtain ⟨b, off, ha, hc⟩ := h.hr.cell i hi
    exact ⟨b, off, ha, h.cell hf hc⟩, h.hr.wf⟩
theorem TS.si' {m acc B bs most L x tb wb w} (h : TS m acc B bs most L x tb wb) (hf : Fr (fun b => b = x.bk) wb w) : SI B w bs most L := by
  obtain ⟨w0, h1, h2, h3⟩ := h.si
  exact h1.below (h2.trans (hf.below (fun i hi => by rw [hi]; exact h3) h2.size))

/-- a slice -/
def IsSl (v : Value) : Prop := ∃ a n c, v = .slice a n c

/-- the table at block tb -/
structure TB (m : Mc) (acc : List Bool) (B bs most : Nat) (L : List En) (x : Tb) (w : World) (tb nk : Nat) (K : Nat → Option Value) : Prop where
  bx : BX w tb (tbC bs m.next.length x)
  rd : RdM w x.ac 256 x.an m.next.length x.aa m.next.length m.cls m.next acc
  hr : Rd w .i64 x.ah m.next.length m.hits
  si : SI B w bs most L
  km : KM w x.bk nk K
  ok : McOk m
  ent : ∀ id v, K id = some v → 0 < id ∧ id ≤ L.length ∧ ∃ ae ce ah ch cp, v = .agg #[.slice ae m.next.length ce, .slice ah m.next.length ch, cp] ∧ EfR m w ae ah (tx L id) ∧ IsSl cp
  nk : nk ≤ cntK K L.length
  base : ∃ wb, TS m acc B bs most L x tb wb ∧ Fr (fun b => b = x.bk) wb w

theorem TB.below {m acc B bs most L x w w' tb nk K} (h : TB m acc B bs most L x w tb nk K) (hb : Below w.heap.size w w') : TB m acc B bs most L x w' tb nk K :=
  ⟨h.bx.below hb, h.rd.below hb, h.hr.below hb, h.si.below hb, h.km.below hb, h.ok, fun id v hv => by
    obtain ⟨h0, h1, ae, ce, ah, ch, cp, e1, e2, e3⟩ := h.ent id v hv
    exact ⟨h0, h1, ae, ce, ah, ch, cp, e1, e2.below hb, e3⟩, h.nk, by
    obtain ⟨wb, h1, h2⟩ := h.base
    exact ⟨wb, h1, h2.trans (.of_below hb)⟩⟩

/-- what entry hands back -/
def EntPost (m : Mc) (t : List Nat) (w : World) (r : Ending) (w' : World) : Prop :=
  ∃ ae ce ah ch cp, r = .returned (.agg #[.slice ae m.next.length ce, .slice ah m.next.length ch, cp]) ∧ (∀ z, ae = some z ∨ ah = some z → w.heap.size ≤ z.block) ∧ EfR m w' ae ah t ∧ Below w.heap.size w w' ∧ IsSl cp

set_option maxRecDepth 100000 in
theorem tabStore_any {m acc B bs most L x w tb nk K} (h : TB m acc B bs most L x w tb nk K) : Calls Try.prog 47 #[.pointer (some ⟨tb, 0, none⟩)] w fun e w' => e = .returned (.pointer (some ⟨bs, 0, none⟩)) ∧ w' = w := by
  have c0 := h.bx.cell (j := 0) rfl
  clear h
  go_enter Try.func47, Try.ntmps47
  go_wp2
  go_ret
  exact ⟨rfl, rfl⟩

set_option maxRecDepth 100000 in
theorem tabBack_any {m acc B bs most L x w tb nk K} (h : TB m acc B bs most L x w tb nk K) : Calls Try.prog 48 #[.pointer (some ⟨tb, 0, none⟩)] w fun e w' => e = .returned (.bool false) ∧ w' = w := by
  have c0 := h.bx.cell (j := 6) rfl
  clear h
  go_enter Try.func48, Try.ntmps48
  go_wp2
  go_ret
  exact ⟨rfl, rfl⟩

set_option maxRecDepth 100000 in
theorem tabCheck_any {m acc B bs most L x w tb nk K} (h : TB m acc B bs most L x w tb nk K) (id q : Nat) (hid : id ≤ L.length) (hq : q < m.next.length) :
    Calls Try.prog 45 #[.pointer (some ⟨tb, 0, none⟩), .int .i64 (id : Nat), .int .i64 (q : Nat)] w fun e w' => e = .returned .nilIface ∧ w' = w := by
  have c0 := h.bx.cell (j := 0) rfl
  have c3 := h.bx.cell (j := 3) rfl
  have HL := Lib.hid (storeLen_any h.si)
  obtain ⟨n, hn⟩ : ∃ n, n = m.next.length := ⟨_, rfl⟩
  obtain ⟨k, hk⟩ : ∃ k, k = L.length := ⟨_, rfl⟩
  rw [← hn] at c3 hq
  rw [← hk] at HL hid
  have h1 : decide (k < id) = false := by rw [decide_eq_false_iff_not]; omega
  have h2 : decide (n ≤ q) = false := by rw [decide_eq_false_iff_not]; omega
  clear h hn hk hid hq
  go_enter Try.func45, Try.ntmps45
  go_wp2_with fail
  refine HL.out.mono ?_
  rintro e w1 ⟨rfl, rfl⟩
  go_wp2
  go_ret
  exact ⟨rfl, rfl⟩

set_option maxRecDepth 100000 in
theorem locCheck_any {m acc B bs most L x w tb nk K} (h : TB m acc B bs most L x w tb nk K) (id : Nat) (hid : id ≤ L.length) :
    Calls Try.prog 31 #[.pointer (some ⟨tb, 0, none⟩), .int .i64 (id : Nat)] w fun e w' => e = .returned .nilIface ∧ w' = w := by
  have HS := Lib.hid (tabStore_any h)
  have HB := Lib.hid (tabBack_any h)
  have HL := Lib.hid (storeLen_any h.si)
  obtain ⟨k, hk⟩ : ∃ k, k = L.length := ⟨_, rfl⟩
  rw [← hk] at HL hid
  have h1 : decide (k < id) = false := by rw [decide_eq_false_iff_not]; omega
  clear h hk hid
  go_enter Try.func31, Try.ntmps31
  go_wp2_with fail
  refine HS.out.mono ?_
  rintro e w1 ⟨rfl, rfl⟩
  go_wp2_with fail
  refine HB.out.mono ?_
  rintro e w1 ⟨rfl, rfl⟩
  go_wp2_with fail
  refine HS.out.mono ?_
  rintro e w1 ⟨rfl, rfl⟩
  go_wp2_with fail
  refine HL.out.mono ?_
  rintro e w1 ⟨rfl, rfl⟩
  go_wp2
  go_ret
  exact ⟨rfl, rfl⟩

set_option maxRecDepth 100000 in
theorem scanSize_any {m acc B bs most L x w tb nk K} (h : TB m acc B bs most L x w tb nk K) (id : Nat) (h0 : 0 < id) (hid : id ≤ L.length) :
    Calls Try.prog 33 #[.pointer (some ⟨tb, 0, none⟩), .int .i64 (id : Nat)] w fun e w' => e = .returned (.int .i64 ((tx L id).length : Nat)) ∧ Below w.heap.size w w' := by
  obtain ⟨e, he, hl⟩ := h.si.ent h0 hid
  have HS := Lib.hid (tabStore_any h)
  have HW := Lib.hid (storeWeight_any h.si id e h0 he)
  have hne : ∀ w, (binOp .neq 34 .nilIface .nilIface).run Try.prog w = .ok (.bool false) w := fun w => by kernel_rfl
  rw [← hl]
  unfold weV at HW
  generalize e.we = we at *
  clear h he hl
  go_enter Try.func33, Try.ntmps33
  go_wp2_with fail
  refine HS.out.mono ?_
  rintro e w1 ⟨rfl, rfl⟩
  go_wp2_with fail
  refine HW.out.mono ?_
  rintro e w2 ⟨rfl, hb2⟩
  have HB2 := Lib.hid hb2
  clear hb2
  go_wp2
  go_ret
  exact ⟨rfl, HB2.out.alloc HB2.out.size _⟩

/-- the blocks of an entry's whole effect -/
def entBl : Value → List Nat
  | .agg a => (a.toList.take 2).filterMap Value.ownBlock
  | _ => []
theorem entBl_mk (ae ah : Option Addr) (n1 c1 n2 c2 : Nat) (cp : Value) (b : Nat) : b ∈ entBl (.agg #[.slice ae n1 c1, .slice ah n2 c2, cp]) ↔ ∃ z, (ae = some z ∨ ah = some z) ∧ z.block = b := by
  unfold entBl
  cases ae <;> cases ah <;> simp [Value.ownBlock] <;> constructor <;> intro h <;> first | (rcases h with h | h <;> simp [h]) | simp_all
theorem TB.entLt {m acc B bs most L x w tb nk K} (h : TB m acc B bs most L x w tb nk K) {id : Nat} {v : Value} (hv : K id = some v) : ∀ b ∈ entBl v, b < w.heap.size := by
  obtain ⟨_, _, ae, ce, ah, ch, cp, rfl, he, _⟩ := h.ent id v hv
  intro b hb
  obtain ⟨z, hz, rfl⟩ := (entBl_mk _ _ _ _ _ _ _ _).1 hb
  rcases hz with hz | hz
  · exact he.e.lt z hz h.ok.n0
  · exact he.h.lt z hz h.ok.n0
/-- a row of the call's own is written -/
theorem TB.wrote {m acc B bs most L x w w' tb nk K wb} (h : TB m acc B bs most L x w tb nk K) (hs : TS m acc B bs most L x tb wb) (hf : Fr (fun b => b = x.bk) wb w) {row : Option Nat} (hg : w.grownBy w' row) (hr : ∀ g, row = some g → wb.heap.size ≤ g)
    (hap : ∀ id v, K id = some v → ∀ b ∈ entBl v, row ≠ some b) : TB m acc B bs most L x w' tb nk K ∧ Fr (fun b => b = x.bk) wb w' := by
  have hg2 : Fr (fun b => row = some b) w w' := Fr.of_grown hg (fun k hk => hk)
  have hf' : Fr (fun b => b = x.bk) wb w' := hf.then hg2 (fun i hi => .inr (hr i hi))
  refine ⟨⟨hs.bx' hf', hs.rd' hf', hs.hr' hf', hs.si' hf', h.km.fr hg2 (fun e => by have := hr _ e; have := hs.lt; omega), h.ok, fun id v hv => ?_, h.nk, wb, hs, hf'⟩, hf'⟩
  obtain ⟨h0, h1, ae, ce, ah, ch, cp, rfl, he, hcp⟩ := h.ent id v hv
  exact ⟨h0, h1, ae, ce, ah, ch, cp, rfl, ⟨he.e.frS' hg2 (fun z hz e => hap id _ hv z.block ((entBl_mk _ _ _ _ _ _ _ _).2 ⟨z, .inl hz, rfl⟩) e), he.h.frS' hg2 (fun z hz e => hap id _ hv z.block ((entBl_mk _ _ _ _ _ _ _ _).2 ⟨z, .inr hz, rfl⟩) e)⟩, hcp⟩
/-- an entry is put into the map -/
theorem TB.put {m acc B bs most L x w w' tb nk K} (h : TB m acc B bs most L x w tb nk K) {wb : World} (hs : TS m acc B bs most L x tb wb) (hfb : Fr (fun b => b = x.bk) wb w) {id : Nat} (h0 : 0 < id) (hid : id ≤ L.length) (hn : K id = none) {ae ah : Option Addr} {ce ch : Nat} {cp : Value} (hef : EfR m w ae ah (tx L id)) (hcp : IsSl cp)
    (hkm : KM w' x.bk (nk + 1) (fun j => if j = id then some (.agg #[.slice ae m.next.length ce, .slice ah m.next.length ch, cp]) else K j)) (hg : w.grownBy w' (some x.bk)) :
    TB m acc B bs most L x w' tb (nk + 1) (fun j => if j = id then some (.agg #[.slice ae m.next.length ce, .slice ah m.next.length ch, cp]) else K j) ∧ Fr (fun b => b = x.bk) wb w' := by
  have hf : Fr (fun b => b = x.bk) w w' := Fr.of_grown hg (fun k hk => (Option.some.inj hk).symm)
  have hf' : Fr (fun b => b = x.bk) wb w' := hfb.trans hf
  have keep : ∀ {ae ah t}, EfR m w ae ah t → EfR m w' ae ah t := fun {ae ah t} he => by
    obtain ⟨D, ⟨es, ck, he2, _⟩, _⟩ := h.km
    have hk : ∀ {a : Addr} {v : Value}, w.cell? a = some v → w'.cell? a = some v := fun {a v} hc => hf.cell hc fun e => by simp [World.cell?, e, he2] at hc
    exact ⟨⟨he.e.len, he.e.max, fun i hi => by
      obtain ⟨b, off, ha, hc⟩ := he.e.cell i hi
      exact ⟨b, off, ha, hk hc⟩, he.e.wf⟩, ⟨he.h.len, he.h.max, fun i hi => by
      obtain ⟨b, off, ha, hc⟩ := he.h.cell i hi
      exact ⟨b, off, ha, hk hc⟩, he.h.wf⟩⟩
  refine ⟨⟨hs.bx' hf', hs.rd' hf', hs.hr' hf', hs.si' hf', hkm, h.ok, fun j v hv => ?_, ?_, wb, hs, hf'⟩, hf'⟩
  · by_cases e : j = id
    · subst e
      simp only [if_true] at hv
      cases hv
      exact ⟨h0, hid, ae, ce, ah, ch, cp, rfl, keep hef, hcp⟩
    · simp only [if_neg e] at hv
      obtain ⟨h2, h3, ae', ce', ah', ch', cp', e1, e2, e3⟩ := h.ent j v hv
      exact ⟨h2, h3, ae', ce', ah', ch', cp', e1, keep e2, e3⟩
  · rw [cntK_put h0 hn _ hid]; have := h.nk; omega

end Go.Proofs.Ytflgmodofemifaa

/- transfer.entry of a Letter: the walk. -/
namespace Go.Proofs.Ytflgmodofemifaa
open Go.RowKit Go.Maps
set_option linter.unusedVariables false
set_option linter.unusedSimpArgs false

theorem ent_info' : (Try.prog.info? 116).map (·.size) = some 3 := by kernel_rfl

theorem Row.frz {w : World} {B : Nat} {e : TypeId} {size g n c k : Nat} {xs : List Value} (h : Row w B e size (.slice (some ⟨g, 0, none⟩) n c) k xs) (j : Nat) : w.frozen? ⟨g, j, none⟩ = false := by
  rcases h.2 with ⟨hv, _⟩ | ⟨g', cap, cur, hv, _, hg, _⟩
  · cases hv
  · obtain ⟨ha, -, -⟩ := Value.slice.inj hv
    obtain rfl : g = g' := by cases ha; rfl
    simp only [World.frozen?, hg]
    simp
theorem Mc.st_one (m : Mc) (q b : Nat) : m.st q [b] = m.go q b := rfl
theorem Mc.hs_one (m : Mc) (q b : Nat) : m.hs q [b] = (m.hits.getD (m.go q b) 0).toNat := by simp [Mc.hs]

set_option maxRecDepth 100000 in
set_option maxHeartbeats 2000000 in
theorem entry_letter {m acc B bs most L x w tb nk K} (h : TB m acc B bs most L x w tb nk K) (b : Nat) (hb : b < 256) (hcls : ∀ q, q < 256 → 0 ≤ m.cls.getD q 0 ∧ ((m.cls.getD q 0).toNat : Nat) < (m.next.getD 0 []).length)
    (hrow : ∀ q, q < m.next.length → (m.next.getD q []).length = (m.next.getD 0 []).length ∧ ∀ z ∈ m.next.getD q [], 0 ≤ z) :
    Calls Try.prog 63 #[.pointer (some ⟨tb, 0, none⟩), .agg #[.int .i64 1, .int .u8 (b : Nat), .int .i64 0, .int .i64 0, .int .i64 0]] w (EntPost m [b] w) := by
  obtain ⟨w1, hw1⟩ : ∃ w1, w1 = (w.alloc (.cells [.int .i64 1, .int .u8 (b : Nat), .int .i64 0, .int .i64 0, .int .i64 0].toArray 67)).alloc (.cells [.slice none 0 0, .slice none 0 0, .slice none 0 0].toArray 116) := ⟨_, rfl⟩
  have HB := Lib.hid (show Below w.heap.size w w1 by rw [hw1]; exact (below_alloc _ _).alloc (by simp) _)
  have HX := Lib.hid (show BX w1 w.heap.size [.int .i64 1, .int .u8 (b : Nat), .int .i64 0, .int .i64 0, .int .i64 0] by rw [hw1]; exact BX.alloc2 _ _ _ _)
  have HZ := Lib.hid (show BX w1 (w.heap.size + 1) [.slice none 0 0, .slice none 0 0, .slice none 0 0] by rw [hw1]; exact BX.allocAt (by simp) _ _)
  have HT := Lib.hid (h.below HB.out)
  have HW1 := Lib.hid hw1
  have HCL := Lib.hid hcls
  have HRW := Lib.hid hrow
  have HBT := Lib.hid hb
  obtain ⟨n, hn⟩ : ∃ n, n = m.next.length := ⟨_, rfl⟩
  have HN := Lib.hid (And.intro hn h.ok.n9)
  obtain ⟨CE, hCE, hmE⟩ := make_run Try.prog EU8G rfl n (by rw [hn]; have := h.ok.n9; omega) (by rw [hn]; have := h.ok.n9; omega)
  obtain ⟨CH, hCH, hmH⟩ := make_run Try.prog EI64G rfl n (by rw [hn]; have := h.ok.n9; omega) (by rw [hn]; have := h.ok.n9; omega)
  have HCE := Lib.hid hCE
  have HCH := Lib.hid hCH
  have HTC := Lib.hid (fun (wx : World) (hb : Below w1.heap.size w1 wx) => And.intro ((HT.out.below hb).bx.cell (j := 2) rfl) (And.intro ((HT.out.below hb).bx.cell (j := 3) rfl) (And.intro ((HT.out.below hb).bx.cell (j := 5) rfl) ((HX.out.below hb).cell (j := 1) rfl))))
  rw [← hn] at HTC
  have c0 := HX.out.cell (j := 0) rfl
  have t3 := (HTC.out w1 (Below.refl _ _)).2.1
  clear h hw1 hcls hrow hb hn hCE hCH
  go_enter Try.func63, Try.ntmps63
  go_upto_region 1 with fail
  rw [← HW1.out]
  go_upto_region 22 with fail
  go_cut [13] (fun s13 wc => ∃ b5 e5 h5 : Nat, s13 = .pointer (some ⟨b5, 0, none⟩) ∧ Below w1.heap.size w1 wc ∧ w1.heap.size ≤ b5 ∧ BX wc b5 [.slice (some ⟨e5, 0, none⟩) n n, .slice (some ⟨h5, 0, none⟩) n n] ∧
    RF w1.heap.size (fun b => b = b5) wc [some (5, .slice (some ⟨e5, 0, none⟩) n n, List.replicate n (.int .u8 0)), some (3, .slice (some ⟨h5, 0, none⟩) n n, List.replicate n (.int .i64 0))])
  case first =>
    go_region_held3 (fun _ => True) (trivial) (fail)
    all_goals
      go_wp2
      go_meet
      refine' ⟨_, _, _, rfl, below3 _ _ _ _, ?hle, ?bx, ?rf⟩
      case bx => exact BX.ofHeap (t := 89) (by first | exact (al3 _ _ _ _).1 | exact (al3 _ _ _ _).2.1 | exact (al3 _ _ _ _).2.2.1)
      case hle => first | exact Nat.le_refl _ | omega
      case rf =>
        refine RF.two HCE.out HCH.out (by have := HN.out; omega) (by have := HN.out; omega) ?_ ?_ (by omega) (by omega) (by omega) (by omega) (by omega) (by rw [(al3 _ _ _ _).2.2.2]; omega) (by rw [(al3 _ _ _ _).2.2.2]; omega)
        · first | exact (al3 _ _ _ _).1 | exact (al3 _ _ _ _).2.1 | exact (al3 _ _ _ _).2.2.1
        · first | exact (al3 _ _ _ _).1 | exact (al3 _ _ _ _).2.1 | exact (al3 _ _ _ _).2.2.1
  case rest =>
    obtain ⟨b5, e5, h5, rfl, hbc, hb5, hbx, hrf⟩ := hcut
    have HB5 := Lib.hid hb5
    have HBC := Lib.hid hbc
    have HBX5 := Lib.hid hbx
    have HRF := Lib.hid hrf
    have t3' := (HTC.out wc hbc).2.1
    clear hbc hb5 hbx hrf c0 t3 hmE hmH
    go_upto_region 24 with fail
    go_loopg [113] n (fun gg iv wr => ∃ q : Nat, q ≤ n ∧ gg = n - q ∧ iv = .int .i64 (q : Nat) ∧ Below w1.heap.size w1 wr ∧ BX wr b5 [.slice (some ⟨e5, 0, none⟩) n n, .slice (some ⟨h5, 0, none⟩) n n] ∧
      RF w1.heap.size (fun b => b = b5) wr [some (5, .slice (some ⟨e5, 0, none⟩) n n, endTo m [b] q), some (3, .slice (some ⟨h5, 0, none⟩) n n, hitTo m [b] q)])
    case atStart => exact ⟨0, by omega, rfl, rfl, HBC.out, HBX5.out, by rw [endTo_zero, hitTo_zero, ← HN.out.1]; exact HRF.out⟩
    case round =>
      obtain ⟨q, hq, rfl, rfl, hbl, hbx, hrf⟩ := hrel
      have HBL := Lib.hid hbl
      have HBXL := Lib.hid hbx
      have HRFL := Lib.hid hrf
      clear hbl hbx hrf HRF HBX5 HBC t3'
      by_cases hlt : q < n
      · have hqm : q < m.next.length := by rw [← HN.out.1]; exact hlt
        obtain ⟨b1, o1, a1, n1, k1, han, hrc, hr1, -⟩ := HT.out.rd.n.cell q hqm
        obtain ⟨b2, o2, hac, hcc⟩ := HT.out.rd.c.cell b HBT.out
        obtain ⟨c, hc⟩ := Int.eq_ofNat_of_zero_le (HCL.out b HBT.out).1
        have hc2 : c < n1 := by
          have h1 := (HCL.out b HBT.out).2
          rw [hc] at h1
          have h1' : c < (m.next.getD 0 []).length := h1
          have h2 := (HRW.out q hqm).1
          rw [hr1.len] at h2
          omega
        obtain ⟨b3, o3, rfl, hrc3⟩ := hr1.cell c hc2
        obtain ⟨z, hz⟩ := Int.eq_ofNat_of_zero_le ((HRW.out q hqm).2 _ (getD_mem (d := 0) (show c < (m.next.getD q []).length by rw [hr1.len]; exact hc2)))
        have hzg : z = m.go q b := by unfold Mc.go; rw [hc]; simp only [Int.ofNat_eq_natCast, Int.toNat_natCast]; rw [hz]; simp
        have hzn : z < m.next.length := by rw [hzg]; exact HT.out.ok.go q b hqm HBT.out
        obtain ⟨b4, o4, hah, hhc⟩ := HT.out.hr.cell z hzn
        obtain ⟨hh, hhh⟩ := Int.eq_ofNat_of_zero_le (HT.out.ok.h4 _ (getD_mem (d := 0) (show z < m.hits.length by rw [HT.out.ok.hl]; exact hzn))).1
        rw [hc] at hcc
        rw [hz] at hrc3
        rw [hhh] at hhc
        have hcv : IntKind.u8.wrap (z : Int) = (z : Int) := by rw [IntKind.wrap_u8]; have := HN.out; omega
        have hqi : (q : Int) < (n : Int) := by omega
        have hzi : (z : Int) < (n : Int) := by have := HN.out.1; omega
        have hci : (c : Int) < (n1 : Int) := by omega
        have hbi : (b : Int) < 256 := by have := HBT.out; omega
        have hn9 : (n : Int) ≤ 256 := by have := HN.out.2; have := HN.out.1; omega
        have HGO := Lib.hid (And.intro hzg hhh)
        have HLT := Lib.hid (And.intro hlt hqm)
        have HQC := Lib.hid (fun (wx : World) (hb : Below w1.heap.size w1 wx) => And.intro (below_cell hb hrc) (And.intro (below_cell hb hcc) (And.intro (below_cell hb hrc3) (below_cell hb hhc))))
        have r0 := (HQC.out wr HBL.out).1
        rw [han, hac, hah] at HTC
        rw [han]
        have HAN := Lib.hid han
        have t3 := (HTC.out wr HBL.out).2.1
        clear hrc hcc hrc3 hhc hzg hhh hc hz hc2 hzn hqm hlt hr1 han hac hah
        go_upto_region 26 with fail
        go_region_held3 (fun wx => wx.cell? ⟨tb, 2, none⟩ = some (.slice (some ⟨b2, o2, none⟩) 256 x.cc) ∧ wx.cell? ⟨w.heap.size, 1, none⟩ = some (.int .u8 (b : Nat)) ∧ wx.cell? ⟨b2, o2 + b, none⟩ = some (.int .i64 (c : Nat)) ∧ wx.cell? ⟨b3, o3 + c, none⟩ = some (.int .i64 (z : Nat))) (exact ⟨(HTC.out _ HBL.out.drew).1, (HTC.out _ HBL.out.drew).2.2.2, (HQC.out _ HBL.out.drew).2.1, (HQC.out _ HBL.out.drew).2.2.1⟩) (fail)
        have HRFd : Hid (RF w1.heap.size (fun b => b = b5) wr.drew _) := Lib.hid (HRFL.out.below (Below.refl _ _).drew)
        have HBXd := Lib.hid (HBXL.out.drew)
        have f0 := HBXd.out.cell (j := 0) rfl
        go_upto_region 28 with (refine cguard (.store 5 (.tmp 135) (.tmp 134)) rfl ?_; refine RF.store HRFd.out (i := 0) rfl rfl 5 (.tmp 135) (.tmp 134) rfl q rfl (.int .u8 (z : Nat)) rfl rfl rfl (by kernel_rfl) (by rw [endTo_len]; exact HLT.out.2) ?_; intro w10 hrf10 hg10 hbl10 hfr10; have HRF10 := Lib.hid hrf10; have HBX10 := Lib.hid (HBXd.out.fr hfr10 (fun h => h rfl)); have HBL10 := Lib.hid (HBL.out.drew.trans hbl10); clear hrf10 hg10 hbl10 hfr10 f0)
        obtain ⟨v0, hv0⟩ : ∃ v, (hitTo m [b] q)[q]? = some v := ⟨_, List.getElem?_eq_getElem (by rw [hitTo_len]; exact HLT.out.2)⟩
        have y0 := HRF10.out.cell (i := 1) rfl hv0
        have yf := Row.frz (HRF10.out.own 1 _ _ _ rfl) q
        have f1 := HBX10.out.cell (j := 1) rfl
        have HNB : Hid (h5 ≠ b5 ∧ w1.heap.size ≤ h5) := Lib.hid ⟨fun e => HRF10.out.av 1 _ _ _ h5 rfl rfl e, (HRF10.out.lt (i := 1) rfl (g := h5) rfl).2⟩
        have HST := Lib.hid (HRF10.out.stored (i := 1) rfl q (.int .i64 (hh : Nat)))
        have f1' := HST.out.2.1.cell f1 (fun h => h rfl)
        have HBS : Hid (Below w1.heap.size w1 (w10.setCell ⟨h5, q, none⟩ (.int .i64 (hh : Nat)))) := Lib.hid (HBL10.out.trans HST.out.2.2)
        go_region_held3 (fun wx => wx.cell? ⟨b5, 1, none⟩ = some (.slice (some ⟨h5, 0, none⟩) n n) ∧ wx.cell? ⟨tb, 5, none⟩ = some (.slice (some ⟨b4, o4, none⟩) n x.ch) ∧ wx.cell? ⟨b4, o4 + z, none⟩ = some (.int .i64 (hh : Nat))) (first | exact ⟨f1, (HTC.out _ HBL10.out.drew).2.2.1, (HQC.out _ HBL10.out.drew).2.2.2⟩ | exact ⟨f1', (HTC.out _ HBS.out.drew).2.2.1, (HQC.out _ HBS.out.drew).2.2.2⟩) (fail)
        go_wp2
        rw [← HAN.out]
        go_roundg (n - (q + 1))
        case measure => have := HLT.out.1; omega
        case rel =>
          have h3 := HN.out.2
          have h4 := HLT.out.1
          have h5' := HN.out.1
          refine ⟨q + 1, HLT.out.1, rfl, by go_num, HBS.out.drew, ((HBX10.out.fr HST.out.2.1 (fun h => h rfl))).drew, ?_⟩
          have h := HST.out.1.below (Below.refl _ _).drew
          have e1 := endTo_set m [b] HLT.out.2
          have e2 := hitTo_set m [b] HLT.out.2
          rw [Mc.st_one, ← HGO.out.1] at e1
          rw [Mc.hs_one, ← HGO.out.1, HGO.out.2] at e2
          simp only [List.set_cons_zero, List.set_cons_succ] at h
          rw [e1] at h
          rw [← e2]
          exact h
      · obtain rfl : q = n := by omega
        have hrg := HBXL.out.rng
        have HZL := Lib.hid (HZ.out.below HBL.out)
        have HTH := Lib.hid (HZL.out.there 0 3 (by simp))
        go_upto_region 30 with fail
        go_wp2_with (first | (refine wpList_load_mid rfl 89 _ rfl b5 0 rfl _ _ hrg Try.underlying89 rfl ef_info ?_; clear hrg) | (refine wpList_store_mid rfl 116 _ _ rfl (w.heap.size + 1) 0 #[.slice (some ⟨e5, 0, none⟩) q q, .slice (some ⟨h5, 0, none⟩) q q, .slice none 0 0] rfl rfl HTH.out ent_info' (by simp [Value.oneCell']) ?_))
        have hz := HZL.out.putAll [.slice (some ⟨e5, 0, none⟩) q q, .slice (some ⟨h5, 0, none⟩) q q, .slice none 0 0] rfl
        refine bodyPost_ret (res_cell rfl _ _ (w.heap.size + 1) _ _ rfl hz.rng Try.underlying116 rfl ent_info') rfl ?_
        have hfr := frSetCells (w.heap.size + 1) [.slice (some ⟨e5, 0, none⟩) q q, .slice (some ⟨h5, 0, none⟩) q q, .slice none 0 0] 0 wr
        have hrn : RF w1.heap.size (fun b => b = b5) _ _ := HRFL.out.fr hfr (fun i e v xs g hi hg e2 => by
          have h1 := (HRFL.out.lt hi hg).2
          have h2 := HZ.out.lt
          omega)
        have hef : EfR m (wr.setCells (w.heap.size + 1) 0 [.slice (some ⟨e5, 0, none⟩) q q, .slice (some ⟨h5, 0, none⟩) q q, .slice none 0 0]) (some ⟨e5, 0, none⟩) (some ⟨h5, 0, none⟩) [b] := by
          rw [HN.out.1] at hrn ⊢
          exact efR_rows HT.out.ok (fun z hz => by simp at hz; rw [hz]; exact HBT.out) (by simp [ML]) hrn
        have hle := (HRFL.out.lt (i := 0) rfl (g := e5) rfl).2
        have hlh := (HRFL.out.lt (i := 1) rfl (g := h5) rfl).2
        have hsz := HB.out.size
        refine ⟨some ⟨e5, 0, none⟩, q, some ⟨h5, 0, none⟩, q, .slice none 0 0, ?_, (fun z hz => by
          rcases hz with hz | hz
          · cases hz; show w.heap.size ≤ e5; omega
          · cases hz; show w.heap.size ≤ h5; omega), hef, belowSetCells (HB.out.trans (HBL.out.mono HB.out.size)) (by omega) 0 _ (by have h1 := HB.out.size; have h2 := HBL.out.size; omega), _, _, _, rfl⟩
        rw [← HN.out.1]

end Go.Proofs.Ytflgmodofemifaa
