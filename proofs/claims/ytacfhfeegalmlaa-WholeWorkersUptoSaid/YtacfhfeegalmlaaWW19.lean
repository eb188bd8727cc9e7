/-
  Joined texts: THE ARGUMENT, opened: jobs as they lie in memory; how long their lists are. · THE ROW, from one good run at every start that fits a bound: other goroutines may be leaving at the return; the clocks alone advance. · WholeWorkers returns true on every schedule, for every argument and package variable of bulk at most 1048576.
-/
import Derived.Test.YtacfhfeegalmlaaWW9
import Derived.Test.YtacfhfeegalmlaaWW18
import Derived.Deep.Slices
import Derived.Deep.Strs
import Derived.SliceStrings
import Derived.ChangeSame
import Derived.Conc.HoldsTime
import Derived.JoinedCond
import Derived.Test.YtacfhfeegalmlaaRows
import Derived.Test.YtacfhfeegalmlaaWW13
import Derived.ChangeShapes
import Derived.WideShapes
import Derived.ChangeAt
import Derived.ChangeMaps5
import Derived.RowKit

/- THE ARGUMENT, opened: jobs as they lie in memory; how long their lists are. -/
namespace Go.Proofs.Ytacfhfeegalmlaa
open Go.RowKit Go.ChangeShapes Go.WideShapes Go.Deep
set_option linter.unusedVariables false
set_option linter.unusedSimpArgs false

section
variable {H : Type} {enc : TypeId × Value → H} {W : World}
theorem spotJ {w : World} {a : Addr} {v : Value} (h : w.cell? (a.add 0) = some v) : ∃ b off, a = ⟨b, off, none⟩ := by
  have hs := World.cell?_spot h
  obtain ⟨b, off, spot⟩ := a
  have : spot = none := by simpa [Addr.add] using hs
  subst this
  exact ⟨b, off, rfl⟩
theorem addJ (b off n : Nat) : (⟨b, off, none⟩ : Addr).add n = ⟨b, off + n, none⟩ := by simp [Addr.add]
/-- A list of names. -/
theorem cells_reads {n : Nat} {v : Value} {y : DataW H × List MemPlace} (h : DataW.trod enc Try.prog W 0 (fun _ => true) true n 117 [v] = some y) :
    ∃ l : List ByteArray, RoSl (fun a => W.cell? a) v l.length 1 (l.map .string) ∧ l.length ≤ Rows.uptoBulk y.1 := by
  rcases Go.ChangeShapes.open_strings Try.underlying117 Try.underlying9 (by kernel_rfl) h with ⟨hcs, hx⟩ | ⟨x, len, c', zs, hcs, _, hl, hm, hz, hx, hcell, hwz⟩
  · simp only [List.cons.injEq, and_true] at hcs
    subst hcs
    exact ⟨[], ⟨rfl, none, 0, rfl, fun j u hj => by simp at hj⟩, Nat.zero_le _⟩
  · simp only [List.cons.injEq, and_true] at hcs
    subst hcs
    have hz' : zs.length = c' := by simpa using hz
    have hlen : (zs.take len).length = len := by rw [List.length_take]; omega
    refine ⟨zs.take len, ⟨by simp, some x, c', (by rw [hlen]), fun j u hj => ?_⟩, ?_⟩
    · rw [List.getElem?_map, Option.map_eq_some_iff] at hj
      obtain ⟨s, hs, rfl⟩ := hj
      have hj : j < len := by have := (List.getElem?_eq_some_iff.1 hs).1; omega
      obtain ⟨b, off, rfl⟩ := spotJ (hcell 0 (by omega))
      refine ⟨b, off, rfl, ?_⟩
      have h1 := hcell j (by omega)
      rw [addJ] at h1
      rw [List.getElem?_take_of_lt hj] at hs
      rw [h1]
      simp [List.getD, hs]
    · rw [hx, hlen]
      have := bulks.slice_le (strs (H := H) (zs.take len)) (strs (zs.drop len))
      have e : (strs (H := H) (zs.take len)).length = len := by simp [Go.ChangeShapes.strs]; omega
      show len ≤ Rows.uptoBulk (.slice (strs (zs.take len)) (strs (zs.drop len)))
      omega
set_option maxRecDepth 100000 in
/-- A name and what it names. -/
theorem cells_named {n : Nat} {cs : List Value} {y : DataW H × List MemPlace} (h : DataW.trod enc Try.prog W 0 (fun _ => true) true n 26 cs = some y) : ∃ (s : ByteArray) (t : Int), cs = [.string s, intV t] := by
  obtain ⟨y0, y1, m, _, hlen, h0, h1⟩ := trod_struct2 Try.underlying26 h
  rw [show Try.prog.cellsOf 26 = 2 by kernel_rfl] at hlen
  match cs, hlen with
  | [c0, c1], _ =>
    rw [show Try.prog.cellsOf 9 = 1 by kernel_rfl] at h0
    rw [show Try.prog.cellsOf 24 = 1 by kernel_rfl] at h1
    have h0 : DataW.trod enc Try.prog W 0 (fun _ => true) true m 9 [c0] = some y0 := h0
    have h1 : DataW.trod enc Try.prog W 0 (fun _ => true) true m 24 [c1] = some y1 := h1
    obtain ⟨s, f1, _, f3⟩ := DataW.trod_string Try.underlying9 h0
    obtain ⟨t, e1, _, e3⟩ := DataW.trod_int Try.underlying24 h1
    refine ⟨s, t, ?_⟩
    simp only [List.cons.injEq, and_true] at e1 f1
    rw [e1, f1]
    rfl
theorem cells_at {k : Nat} {x : Addr} {cs : List Value} (hc : W.cells? 0 x k = some cs) : ∀ j u, cs[j]? = some u → W.cell? (x.add j) = some u := fun j u hj => by
  obtain ⟨_, hl, hat⟩ := World.cells?_some hc
  have hjl := (List.getElem?_eq_some_iff.1 hj).1
  have := hat j (by omega)
  rw [this]
  simp [List.getD, hj]
theorem cells_writes {n : Nat} {v : Value} {y : DataW H × List MemPlace} (h : DataW.trod enc Try.prog W 0 (fun _ => true) true n 27 [v] = some y) :
    ∃ l : List (ByteArray × Int), RoSl (fun a => W.cell? a) v l.length 2 (namedC l) ∧ l.length ≤ Rows.uptoBulk y.1 := by
  rcases open_slice Try.underlying27 h with ⟨hcs, hx⟩ | ⟨x, len, c', m, n', D, Pl, hcs, _, hl, hm, hmm, hx, hel⟩
  · simp only [List.cons.injEq, and_true] at hcs
    subst hcs
    exact ⟨[], ⟨rfl, none, 0, rfl, fun j u hj => by simp [namedC] at hj⟩, Nat.zero_le _⟩
  · simp only [List.cons.injEq, and_true] at hcs
    subst hcs
    simp only [if_true] at hmm
    subst hmm
    rw [show Try.prog.cellsOf 26 = 2 by kernel_rfl] at hel
    have each : ∀ i, i < len → ∃ z : ByteArray × Int, W.cell? ((x.add (i * 2)).add 0) = some (.string z.1) ∧ W.cell? ((x.add (i * 2)).add 1) = some (intV z.2) := by
      intro i hi
      obtain ⟨cs', hc, ht⟩ := hel i (by omega)
      obtain ⟨s, t, rfl⟩ := cells_named ht
      exact ⟨(s, t), cells_at hc 0 _ rfl, cells_at hc 1 _ rfl⟩
    obtain ⟨f, hf⟩ := choose_lt each
    have hlen : ((List.range len).map f).length = len := by simp
    refine ⟨(List.range len).map f, ⟨?_, some x, m, (by rw [hlen]), fun j u hj => ?_⟩, ?_⟩
    · rw [hlen]
      have : ∀ l : List (ByteArray × Int), (namedC l).length = l.length * 2 := fun l => by
        induction l with
        | nil => rfl
        | cons z l ih => show (Value.string z.1 :: intV z.2 :: namedC l).length = _; simp [ih]; omega
      rw [this, hlen]
    · have hj2 : j < len * 2 := by
        have h1 := (List.getElem?_eq_some_iff.1 hj).1
        have : ∀ l : List (ByteArray × Int), (namedC l).length = l.length * 2 := fun l => by
          induction l with
          | nil => rfl
          | cons z l ih => show (Value.string z.1 :: intV z.2 :: namedC l).length = _; simp [ih]; omega
        rw [this, hlen] at h1
        exact h1
      have hi : j / 2 < len := by omega
      have hg : ((List.range len).map f)[j / 2]? = some (f (j / 2)) := by simp [hi]
      obtain ⟨g0, g1⟩ := namedC_get hg
      obtain ⟨b, off, rfl⟩ := spotJ (show W.cell? (x.add 0) = _ from (hf 0 (by omega)).1)
      refine ⟨b, off, rfl, ?_⟩
      obtain ⟨c0, c1⟩ := hf (j / 2) hi
      rw [addJ, addJ] at c0 c1
      rcases Nat.mod_two_eq_zero_or_one j with h0 | h0
      · have e : j / 2 * 2 = j := by omega
        rw [e] at g0 c0
        rw [g0] at hj
        cases hj
        exact c0
      · have e : j / 2 * 2 + 1 = j := by omega
        rw [e] at g1
        rw [g1] at hj
        cases hj
        rw [show off + j / 2 * 2 + 1 = off + j by omega] at c1
        exact c1
    · rw [hx, hlen]
      have := bulks.slice_le ((List.range len).map D) ((List.range (m - len)).map fun j => D (len + j))
      simp only [List.length_map, List.length_range] at this
      show len ≤ Rows.uptoBulk (.slice _ _)
      omega
set_option maxRecDepth 100000 in
/-- A job. -/
theorem cells_job {n : Nat} {cs : List Value} {y : DataW H × List MemPlace} (h : DataW.trod enc Try.prog W 0 (fun _ => true) true n 119 cs = some y) :
    ∃ (rv wv : Value) (J : JobT), cs = [rv, wv, intV J.2.2] ∧ RoSl (fun a => W.cell? a) rv J.1.length 1 (J.1.map .string) ∧ RoSl (fun a => W.cell? a) wv J.2.1.length 2 (namedC J.2.1) ∧ J.1.length ≤ Rows.uptoBulk y.1 ∧ J.2.1.length ≤ Rows.uptoBulk y.1 := by
  obtain ⟨y0, y1, y2, m, hy, hlen, h0, h1, h2⟩ := trod_struct3 Try.underlying119 h
  rw [show Try.prog.cellsOf 119 = 3 by kernel_rfl] at hlen
  match cs, hlen with
  | [c0, c1, c2], _ =>
    rw [show Try.prog.cellsOf 117 = 1 by kernel_rfl] at h0
    rw [show Try.prog.cellsOf 27 = 1 by kernel_rfl] at h1
    rw [show Try.prog.cellsOf 3 = 1 by kernel_rfl] at h2
    have h0 : DataW.trod enc Try.prog W 0 (fun _ => true) true m 117 [c0] = some y0 := h0
    have h1 : DataW.trod enc Try.prog W 0 (fun _ => true) true m 27 [c1] = some y1 := h1
    have h2 : DataW.trod enc Try.prog W 0 (fun _ => true) true m 3 [c2] = some y2 := h2
    obtain ⟨l0, p0, q0⟩ := cells_reads h0
    obtain ⟨l1, p1, q1⟩ := cells_writes h1
    obtain ⟨t, e1, _, e3⟩ := DataW.trod_int Try.underlying3 h2
    simp only [List.cons.injEq, and_true] at e1
    subst e1
    have hb : Rows.uptoBulk y.1 = Rows.uptoBulk (.agg [y0.1, y1.1, y2.1]) := by rw [hy]
    have b0 := bulks.part_le (l := [y0.1, y1.1, y2.1]) (d := y0.1) (by simp)
    have b1 := bulks.part_le (l := [y0.1, y1.1, y2.1]) (d := y1.1) (by simp)
    simp only [Rows.uptoBulk] at hb
    exact ⟨c0, c1, (l0, l1, t), rfl, p0, p1, by show l0.length ≤ _; omega, by show l1.length ≤ _; omega⟩
/-- THE JOBS. -/
theorem open_jobs {v : Value} {d : DataW H} {p : List MemPlace} (h : DataW.Trod enc Try.prog W 0 (fun _ => true) true 22 v d p) (h1 : v.cells = #[v]) :
    ∃ (J : List JobT) (a : Option Addr) (c : Nat), v = .slice a J.length c ∧ (a = none → J = []) ∧ (∀ x, a = some x → 0 < J.length → x.spot = none) ∧ (∀ x, a = some x → ∀ j Ji, J[j]? = some Ji → JobAt (fun a => W.cell? a) x.block (x.off + j * 3) Ji) ∧ ∀ Ji ∈ J, Ji.1.length ≤ Rows.uptoBulk d ∧ Ji.2.1.length ≤ Rows.uptoBulk d := by
  obtain ⟨fuel, hf⟩ := h
  rw [h1] at hf
  rcases open_slice Try.underlying22 hf with ⟨hcs, hx⟩ | ⟨x, len, c', m, n', D, Pl, hcs, _, hl, hm, hmm, hx, hel⟩
  · simp only [List.cons.injEq, and_true] at hcs
    subst hcs
    exact ⟨[], none, 0, rfl, fun _ => rfl, (fun x hx => by cases hx), (fun x hx => by cases hx), (fun Ji hJ => by cases hJ)⟩
  · simp only [List.cons.injEq, and_true] at hcs
    subst hcs
    simp only [if_true] at hmm
    subst hmm
    rw [show Try.prog.cellsOf 119 = 3 by kernel_rfl] at hel
    have each : ∀ i, i < len → ∃ z : Value × Value × JobT, W.cell? ((x.add (i * 3)).add 0) = some z.1 ∧ W.cell? ((x.add (i * 3)).add 1) = some z.2.1 ∧ W.cell? ((x.add (i * 3)).add 2) = some (intV z.2.2.2.2) ∧
        RoSl (fun a => W.cell? a) z.1 z.2.2.1.length 1 (z.2.2.1.map .string) ∧ RoSl (fun a => W.cell? a) z.2.1 z.2.2.2.1.length 2 (namedC z.2.2.2.1) ∧ z.2.2.1.length ≤ Rows.uptoBulk (D i) ∧ z.2.2.2.1.length ≤ Rows.uptoBulk (D i) := by
      intro i hi
      obtain ⟨cs', hc, ht⟩ := hel i (by omega)
      obtain ⟨rv, wv, J, rfl, g1, g2, g3, g4⟩ := cells_job ht
      exact ⟨(rv, wv, J), cells_at hc 0 _ rfl, cells_at hc 1 _ rfl, cells_at hc 2 _ rfl, g1, g2, g3, g4⟩
    obtain ⟨f, hf⟩ := choose_lt each
    have hlen : ((List.range len).map fun i => (f i).2.2).length = len := by simp
    have get : ∀ j Ji, ((List.range len).map fun i => (f i).2.2)[j]? = some Ji → j < len ∧ Ji = (f j).2.2 := fun j Ji hj => by
      have hl := (List.getElem?_eq_some_iff.1 hj).1
      rw [hlen] at hl
      refine ⟨hl, ?_⟩
      simp [hl] at hj
      exact hj.symm
    refine ⟨(List.range len).map fun i => (f i).2.2, some x, m, (by rw [hlen]), (fun h => by cases h), fun x' hx' hp => ?_, fun x' hx' j Ji hj => ?_, fun Ji hJ => ?_⟩
    · cases hx'
      rw [hlen] at hp
      obtain ⟨b, off, rfl⟩ := spotJ (show W.cell? (x.add 0) = _ from (hf 0 hp).1)
      rfl
    · cases hx'
      obtain ⟨hl, rfl⟩ := get j Ji hj
      obtain ⟨b, off, rfl⟩ := spotJ (show W.cell? (x.add 0) = _ from (hf 0 (by omega)).1)
      obtain ⟨c0, c1, c2, g1, g2, _⟩ := hf j hl
      rw [addJ, addJ] at c0 c1 c2
      exact ⟨(f j).1, (f j).2.1, c0, c1, c2, g1, g2⟩
    · obtain ⟨j, hj⟩ := List.getElem?_of_mem hJ
      obtain ⟨hl, rfl⟩ := get j Ji hj
      obtain ⟨_, _, _, _, _, g3, g4⟩ := hf j hl
      have hb : Rows.uptoBulk (D j) ≤ Rows.uptoBulk d := by
        have h1 := bulks.part_le (l := (List.range len).map D) (d := D j) (List.mem_map.2 ⟨j, by simpa using hl, rfl⟩)
        have h2 := bulks.slice_elems ((List.range len).map D) ((List.range (m - len)).map fun j => D (len + j))
        have e : d = .slice ((List.range len).map D) ((List.range (m - len)).map fun j => D (len + j)) := congrArg Prod.fst hx
        rw [e]
        omega
      omega
end
end Go.Proofs.Ytacfhfeegalmlaa

/- THE ROW, from one good run at every start that fits a bound: other goroutines may be leaving at the return; the clocks alone advance. -/
namespace Go.Proofs.Ytacfhfeegalmlaa
open Go.Conc Go.ConcM
set_option linter.unusedVariables false
set_option linter.unusedSimpArgs false

section
variable {H : Type} {enc : TypeId × Value → H}
theorem leaving_upto {a : Assume} {C : Checked} {os : Os} {f : FuncId} {fn : Func} {s : ChangeSpec} {F : Stop.Interp} {conds : List PathCond} {apart fresh handsOn : Bool}
    (own : ownKnob C.prog.godebug = none) (started : os.Started) (hfn : C.prog.funcs[f]? = some fn)
    (witness : ∃ (w : World) (tape : Tape) (i : Input), w.os = os ∧ (w.forCall tape i).Shaped C.prog ∧ i.vars = [] ∧ Input.okWide C.prog (w.forCall tape i) .any w.heap.size f i ∧
      (Rows.OpenSpec.upto s).pre6 enc C.prog fn conds apart (w.forCall tape i).memory i.args ∧ a.holds C.prog (lone (Frame.enter C.prog f i.args .normal) [] (w.forCall tape i)))
    (runs : ∀ (W : World) (base : Nat) (args : Array Value) (ds gs : List (DataW H)) (before : List MemPlace),
      (∀ (j : Nat) t v, fn.params[j]? = some t → args[j]? = some v → Value.okWide C.prog W .any base t v) →
      DataW.Whole enc C.prog fn.params.toList s.vars apart W args.toList ds gs before → Rows.uptoSmall H (ds ++ gs) = true →
      ∃ M last o w' t', runNT C.prog (M + 1) (solo (G (Frame.enter C.prog f args .normal) []) W) #[] = (.ended o w', t') ∧ runN C.prog M (solo (G (Frame.enter C.prog f args .normal) []) W) = .next last ∧
        step C.prog last = .ended o w' ∧ Go.Conc.Good C.prog (fun v W' => s.post enc C.prog fn apart fresh handsOn false W args v { W' with os := W.os } ∧ OsLater W.os W'.os) last o w' t') :
    ReturnsInLeavingWide a C os f .any ((Rows.OpenSpec.upto s).pre6 enc C.prog fn conds apart) ((Rows.OpenSpec.upto s).postWith enc C.prog fn F (outsideKept [.timePasses]) apart fresh handsOn) := by
  refine returnsInLeavingWide_of_good own started witness fun w tape i _ _ _ hok hpre _ => ?_
  obtain ⟨_, _, _, fn', hfn', _, _, _, _, hval⟩ := hok
  obtain rfl : fn' = fn := Option.some.inj (hfn'.symm.trans hfn)
  obtain ⟨ds, gs, before, hw, _, hk⟩ := (OpenSpec.pre_some (s := Rows.OpenSpec.upto s) (k := Rows.uptoSmall) rfl conds apart _ _).1 hpre.1
  obtain ⟨M, last, o, w', t', h1, h2, h3, v, e, hp, r⟩ := runs (w.forCall tape i) w.heap.size i.args ds gs before hval (DataW.Whole.of_heap (w' := w.forCall tape i) (by rfl) hw) hk
  have hq : (Rows.OpenSpec.upto s).postWith enc C.prog fn' F (outsideKept [.timePasses]) apart fresh handsOn (w.forCall tape i) i.args v w' := postWith_of_post (F := F) hp.1 hp.2
  exact ⟨M, last, o, w', t', h1, h2, h3, v, e, postWith_blind hq, r⟩
theorem witness_calm {C : Checked} {os : Os} {f : FuncId} {fn : Func} {s : OpenSpec} {k : (H : Type) → List (DataW H) → Bool} (hk : s.cond = some k) {conds : List PathCond} {apart : Bool} (i : Input) (fuel : Nat)
    (hv : (World.plainHolding C.prog os i).variablesB C.prog = true)
    (hr : ((World.plainHolding C.prog os i).heap.toList.drop C.prog.globals.size).take ((begin C.prog (fun _ _ => 0) default).world.heap.size - C.prog.globals.size) =
      (begin C.prog (fun _ _ => 0) default).world.heap.toList.drop C.prog.globals.size)
    (hok : Input.okWideB C.prog (World.plainHolding C.prog os i) f ⟨#[], i.args, []⟩ = true)
    {x : List (DataW H) × List (DataW H) × List MemPlace} (hx : DataW.whole enc C.prog (World.plainHolding C.prog os i).memory fn.params.toList s.vars apart i.args.toList fuel = some x)
    (hconds : conds.all (PathCond.test C.prog ⟨fn.params.toList, x.1, s.bare.plain.varTypes C.prog, x.2.1⟩) = true) (hkk : k H (x.1 ++ x.2.1) = true)
    (hsz : s.bare.sizedB enc C.prog fn apart (World.plainHolding C.prog os i).memory i.args fuel = true := by kernel_rfl) :
    ∃ (w : World) (tape : Tape) (i : Input), w.os = os ∧ (w.forCall tape i).Shaped C.prog ∧ i.vars = [] ∧ Input.okWide C.prog (w.forCall tape i) .any w.heap.size f i ∧
      s.pre6 enc C.prog fn conds apart (w.forCall tape i).memory i.args ∧ ({ calm := true } : Assume).holds C.prog (lone (Frame.enter C.prog f i.args .normal) [] (w.forCall tape i)) :=
  ⟨World.holding C.prog os i, fun _ _ => 0, ⟨#[], i.args, []⟩, rfl, World.shaped_of_B hv hr, (Input.okWide_of_okWideB (base := 0) hok).1, (Input.okWide_of_okWideB hok).2,
    ⟨(OpenSpec.pre_some hk conds apart _ _).2 ⟨x.1, x.2.1, x.2.2, DataW.Whole_of_whole hx, hconds, hkk⟩, sizedMet_of_sizedB hsz⟩, by
    simp only [Assume.holds]
    exact ⟨by simp, fun _ _ _ _ => rfl, by simp, by simp, by simp⟩⟩
end
theorem holds_upto_leaving {p : Pinned} {s : OpenSpec} {c : OpenClaim} (f : FuncId) (fn : Func)
    (hn : c.program = p.name) (hs : c.sum = p.sum) (hsp : c.spec = s.name)
    (hstart : c.start = .entering) (hout : c.outside = [.timePasses]) (hin : c.inits = []) (hun : c.under = none) (hi4 : c.initsInPlace = [] ∧ c.initsUnfollowed = false ∧ c.initsRecurse = false ∧ c.initsNamed = [] ∧ c.initsPassed = []) (hnb : c.noBlocks = false) (hlv : c.leaving = true) (hfo : c.followed = none) (hnar : c.narrowed = s.cond.isSome) (hstill : c.still = false)
    (hfn : p.checked.prog.funcNamed c.func = some f) (hf : p.checked.prog.funcs[f]? = some fn)
    (closed : joinedFacts p.checked.prog f fn s.bare c = true)
    (hinst : fn.isInstance p.checked.prog c.origin c.targs) (hwrap : fn.isWrapper p.checked.prog c.wrapper c.mainSum)
    (h : ∀ os : Os, os.Started → ∀ (H : Type) (enc : TypeId × Value → H), ∀ F : Stop.Interp,
      ReturnsInLeavingWide c.assume p.checked os f .any (c.pre enc p.checked.prog fn s) (s.postWith enc p.checked.prog fn F (outsideKept [.timePasses]) c.apart c.fresh c.handsOn)) : c.holds p s := by
  simp only [joinedFacts, Bool.and_eq_true, beq_iff_eq, Array.all_eq_true_iff_forall_mem, List.all_eq_true, decide_eq_true_eq] at closed
  obtain ⟨⟨⟨⟨⟨⟨⟨⟨⟨⟨⟨⟨⟨⟨⟨⟨⟨⟨⟨⟨⟨⟨⟨⟨⟨⟨⟨⟨⟨⟨⟨k1, k2⟩, k3⟩, k4⟩, k5⟩, k6⟩, k7⟩, k8⟩, k9⟩, k10⟩, k11⟩, k12⟩, k13⟩, k14⟩, k15⟩, k16⟩, k17⟩, k17b⟩, k18⟩, k19⟩, k20⟩, k21⟩, k22⟩, k23⟩, k23b⟩, k24⟩, k24b⟩, k24c⟩, k25⟩, k26⟩, k27⟩, k28⟩ := closed
  have hq : ∀ os : Os, Stop.quiet p.checked.prog os := fun os k hk => by rw [k9] at hk; cases hk
  refine ⟨k1, hn, hs, hsp, k2, k3, by unfold OpenClaim.startFits; rw [hstart]; exact k24, by unfold OpenClaim.startTold; rw [hstart]; exact ⟨hin, hun, hi4⟩, f, fn, hfn, hf, ⟨k4, k19⟩, (fun hb => by rw [hnb] at hb; cases hb), by unfold OpenClaim.namedList; rw [hfo]; exact k5, hinst, hwrap,
    k6.trans k7.symm, ⟨k8.trans k9.symm, by unfold Program.envWorded; rw [k9]; rfl, k23b⟩, k10, k11, k12, k13, k14, ⟨k15, k27, k28⟩, ⟨k16, k20⟩, ⟨k17, k21, k25, k26⟩, ⟨k22, k24b, k24c, k17b⟩, (by rw [hout, hnar]; cases hsh : c.shortTexts with | none => simp [OutsideCond.fixesBytes] | some _ => rw [hsh] at k23; cases k23), fun n hn' => varReadable_some (k18 n hn'),
    ⟨_, by unfold OpenClaim.world; rw [hout, hstart]; exact ⟨WideRow.started_initial, fun o ho => by simp at ho; subst ho; trivial⟩, hq _⟩, [], by unfold OpenClaim.lists; rw [hfo], fun os st _ H enc inj => ?_⟩
  have st' : os.Started := by unfold OpenClaim.world at st; rw [hout, hstart] at st; exact st.1
  rw [OpenClaim.post_not_still hstill]
  unfold OpenClaim.form
  rw [hstart, k6]
  intro F
  have e1 : c.okInput = Input.okWide := by unfold OpenClaim.okInput; rw [hnb]
  have e2 : c.atReturn p.checked.prog = leavingAtReturn p.checked.prog := by unfold OpenClaim.atReturn; rw [hlv]
  have e3 : c.always p.checked.prog [] = nothingAlways := by unfold OpenClaim.always; rw [hfo]
  have e4 : s.post enc p.checked.prog fn F c.outside c.apart c.fresh c.handsOn c.again = s.postWith enc p.checked.prog fn F (outsideKept [.timePasses]) c.apart c.fresh c.handsOn := by rw [hout]; rfl
  rw [e1, e2, e3]
  show ReturnsInOpen _ _ _ _ _ _ _ _ (s.post enc p.checked.prog fn F c.outside c.apart c.fresh c.handsOn c.again) _ _
  rw [e4]
  exact h os st' H enc F k24
end Go.Proofs.Ytacfhfeegalmlaa

/- WholeWorkers returns true on every schedule, for every argument and package variable of bulk at most 1048576. -/
namespace Go.Proofs.Ytacfhfeegalmlaa.wholeWorkers
open Go.ChangeShapes Go.WideShapes Go.ChangeAt Go.RowKit Go.Conc Go.ConcM
set_option linter.unusedVariables false
set_option linter.unusedSimpArgs false

theorem own : ownKnob Try.prog.godebug = none := by kernel_rfl
theorem laidOut : laidOutB Try.prog = true := by kernel_rfl
/-- The law is at its return. -/
def StopL (k : Kn) (g : Goroutine) : Prop := RetAt Try.prog (fun v => v = .bool true) k g ∧ g.status = .running
theorem stop_at {b : Frame} {a : Act} {k : Kn} {todo : List Item} (hb : b.fn = 3) (hn : b.kind = .normal) (hd : a.defers = []) (h6 : a.tmps.getD 6 undef = .bool true) (hg : ∃ b, k.gh = .lone b) : StopL k (G { b.at a todo with mode := .returning } []) := by
  refine ⟨⟨hg, .bool true, rfl, fun w _ => ?_⟩, rfl⟩
  have hr := results_tmp (fn := Try.f3) (t := 6) rfl a.tmps Try.prog w
  rw [h6] at hr
  have he : (results Try.f3 a.tmps).events Try.prog w #[] = #[] := events_results_tmp (fn := Try.f3) (t := 6) rfl _ _
  simp [G, stepG, unwind, doReturn, Frame.at, hn, hd, hb, Try.func3, hr, he, GStep.after, seen]
theorem entered (v0 v1 v2 : Value) : ∃ b : Frame, b.fn = 3 ∧ b.kind = .normal ∧ Frame.enter Try.prog 3 #[v0, v1, v2] .normal = b.at ⟨#[v0, v1, v2] ++ Array.replicate (Try.f3.ntmps - 3) undef, []⟩ [.code body3] := by
  refine ⟨Frame.enter Try.prog 3 #[v0, v1, v2] .normal, rfl, rfl, ?_⟩
  simp [Frame.enter, Frame.at, Try.func3, body3]
  rfl
set_option maxRecDepth 100000 in
theorem law_run {W : World} {n c : Nat} {sa : Option Addr} {one two : Int} {J : List JobT} (hJn : J.length = n) (hjobs : 0 < n → ∃ jb joff, sa = some ⟨jb, joff, none⟩ ∧ ∀ j Ji, J[j]? = some Ji → JobAt (fun a => W.cell? a) jb (joff + j * 3) Ji)
    (hfit : ∀ Ji ∈ J, Ji.1.length ≤ 1048576 ∧ Ji.2.1.length ≤ 1048576) :
    ∃ M last o w' t', runNT Try.prog (M + 1) (solo (G (Frame.enter Try.prog 3 #[.slice sa n c, .int .i64 one, .int .i64 two] .normal) []) W) #[] = (.ended o w', t') ∧ runN Try.prog M (solo (G (Frame.enter Try.prog 3 #[.slice sa n c, .int .i64 one, .int .i64 two] .normal) []) W) = .next last ∧
      step Try.prog last = .ended o w' ∧ Go.Conc.Good Try.prog (EndsAs (fun v => v = .bool true) W W.heap.size) last o w' t' := by
  obtain ⟨b, hb, hn, he⟩ := entered (.slice sa n c) (.int .i64 one) (.int .i64 two)
  rw [he]
  refine workers_from (StopM := StopL) (W := wOurs) (hypOurs fun k g h => h.2) (fun k g h => h.1) (b := 0 + workN two n + workN one n) ?_
  refine law_k (main := wOurs.as true) (wOurs_ours true) (fun _ _ h => h) (Kn.start W (0 + workN two n + workN one n)) n c 0 sa one two J hJn rfl rfl rfl hjobs hfit b [] [] StopL hb (by rw [hn]; decide) fun e a k' ⟨h1, h2, h3, h4⟩ => ?_
  rcases h1 with rfl | rfl
  · exact fun todo => .stop (stop_at hb hn h2 h3 h4)
  · exact GK.quiet rfl (fun _ => stepG_end) (.stop (stop_at hb hn h2 h3 h4))
theorem below_of {W w' : World} {v : Value} {R : Value → Prop} (h : EndsAs R W W.heap.size v w') : Below W.heap.size W { w' with os := W.os } := by
  obtain ⟨_, h1, h2, h3, h4⟩ := h
  refine ⟨rfl, h2, h3, ?_, h4⟩
  show W.heap.size ≤ w'.heap.size
  rcases Nat.eq_zero_or_pos W.heap.size with h0 | h0
  · omega
  · have h5 := h4 (W.heap.size - 1) (by omega)
    rw [Array.getElem?_eq_getElem (by omega : W.heap.size - 1 < W.heap.size)] at h5
    have := (Array.getElem?_eq_some_iff.1 h5).1
    omega
set_option maxRecDepth 100000 in
theorem contract (H : Type) (enc : TypeId × Value → H) (W : World) (base : Nat) (args : Array Value) (ds gs : List (DataW H)) (before : List MemPlace)
    (hval0 : ∀ (j : Nat) t v, Try.f3.params[j]? = some t → args[j]? = some v → Value.okWide Try.prog W .any base t v)
    (hW : DataW.Whole enc Try.prog Try.f3.params.toList Rows.wholeWorkersSpec.vars false W args.toList ds gs before) (hk : Rows.uptoSmall H (ds ++ gs) = true) :
    ∃ M last o w' t', runNT Try.prog (M + 1) (solo (G (Frame.enter Try.prog 3 args .normal) []) W) #[] = (.ended o w', t') ∧ runN Try.prog M (solo (G (Frame.enter Try.prog 3 args .normal) []) W) = .next last ∧
      step Try.prog last = .ended o w' ∧ Go.Conc.Good Try.prog (fun v W' => Rows.wholeWorkersSpec.post enc Try.prog Try.f3 false true false false W args v { W' with os := W.os } ∧ OsLater W.os W'.os) last o w' t' := by
  have hval : ∀ (j : Nat) t v, Try.f3.params[j]? = some t → args[j]? = some v → Value.okWide Try.prog W .any base t v := hval0
  have hW' := hW
  obtain ⟨p, q, hA0, hV, rfl, hfz, hnd⟩ := hW
  have hA : DataW.TrodAll enc Try.prog W 0 (fun _ => true) true Try.f3.params.toList args.toList ds p := hA0
  rw [Try.params3] at hA hval
  obtain ⟨v0, vs0, d0, ds0, p0, q0, hargs, rfl, rfl, h0, r0⟩ := trodAll_cons hA
  obtain ⟨v1, vs1, d1, ds1, p1, q1, rfl, rfl, rfl, h1, r1⟩ := trodAll_cons r0
  obtain ⟨v2, vs2, d2, ds2, p2, q2, rfl, rfl, rfl, h2, r2⟩ := trodAll_cons r1
  obtain ⟨rfl, rfl, rfl⟩ := trodAll_nil r2
  obtain rfl : args = #[v0, v1, v2] := by cases args; simp_all
  obtain ⟨rfl, rfl⟩ := trodVars_none hV
  have hbulk := bulks.bound hk
  have k0 := h0
  have k1 := h1
  have k2 := h2
  have lt0 : ∀ x ∈ p0, x.block < W.heap.size := by obtain ⟨m, hm⟩ := k0; exact DataW.trod_lt m _ _ _ hm
  have lt1 : ∀ x ∈ p1, x.block < W.heap.size := by obtain ⟨m, hm⟩ := k1; exact DataW.trod_lt m _ _ _ hm
  have lt2 : ∀ x ∈ p2, x.block < W.heap.size := by obtain ⟨m, hm⟩ := k2; exact DataW.trod_lt m _ _ _ hm
  obtain ⟨a0, len0, cap0, rfl⟩ := okWide_slice Try.underlying22 (hval 0 22 v0 rfl rfl)
  obtain ⟨J, a, c, hv, hn0, hs0, hj, hb⟩ := open_jobs h0 rfl
  obtain ⟨o1, rfl, rfl, rfl, w1⟩ := open_int Try.underlying3 (hval 1 3 v1 rfl rfl) h1
  obtain ⟨o2, rfl, rfl, rfl, w2⟩ := open_int Try.underlying3 (hval 2 3 v2 rfl rfl) h2
  clear hA0 hval0
  simp only [Value.slice.injEq] at hv
  obtain ⟨rfl, hlen, rfl⟩ := hv
  have hd0 := bulks.part_le (l := [d0, .lit (.int .i64 o1), .lit (.int .i64 o2)]) (d := d0) (by simp)
  obtain ⟨M, last, o, w', t', r1, r2, r3, v, e, hp, g⟩ := law_run (W := W) (n := len0) (c := cap0) (sa := a0) (one := o1) (two := o2) (J := J) hlen.symm (fun h => by
    cases ha : a0 with
    | none => have := hn0 ha; rw [this] at hlen; simp at hlen; omega
    | some x =>
      have h1 := hs0 x ha (by omega)
      obtain ⟨xb, xo, xs⟩ := x
      obtain rfl : xs = none := h1
      exact ⟨xb, xo, rfl, hj _ ha⟩) (fun Ji h => by
    have h2 := hb Ji h
    simp only [List.append_nil] at hbulk
    omega)
  refine ⟨M, last, o, w', t', r1, r2, r3, v, e, ?_, g⟩
  have bel := below_of hp
  obtain ⟨rfl, hos, _⟩ := hp
  exact ⟨⟨_, _, _, [], _, [], hW', trodAll_mk1 (shut_bool Try.underlying4 _), (trodAll_cons_mk (Below.trod laidOut (by kernel_rfl) (of_decide_eq_true (by kernel_rfl)) k0 bel lt0) (trodAll_cons_mk (Below.trod laidOut (by kernel_rfl) (of_decide_eq_true (by kernel_rfl)) k1 bel lt1) (trodAll_cons_mk (Below.trod laidOut (by kernel_rfl) (of_decide_eq_true (by kernel_rfl)) k2 bel lt2) trodAll_mk0))), rfl, bel.frame _, fun h => by cases h⟩, by rw [hos]; exact OsLater.refl _⟩

set_option maxRecDepth 100000 in
theorem lifted (os : Os) (started : os.Started) (H : Type) (enc : TypeId × Value → H) (F : Stop.Interp) :
    ReturnsInLeavingWide Rows.wholeWorkersUptoRow.assume Try.checked os 3 .any ((Rows.OpenSpec.upto Rows.wholeWorkersSpec).pre6 enc Try.prog Try.f3 Rows.wholeWorkersUptoRow.domain false) ((Rows.OpenSpec.upto Rows.wholeWorkersSpec).postWith enc Try.prog Try.f3 F (outsideKept [.timePasses]) false true false) := by
  refine leaving_upto (C := Try.checked) own started Try.func3
    (witness_calm (enc := enc) (C := Try.checked) (s := Rows.OpenSpec.upto Rows.wholeWorkersSpec) (k := Rows.uptoSmall) rfl ⟨#[], #[.slice none 0 0, .int .i64 0, .int .i64 0], []⟩ 8 (by kernel_rfl) (by kernel_rfl) (by kernel_rfl)
      (x := ([.nil, .lit (.int .i64 0), .lit (.int .i64 0)], [], [])) (by kernel_rfl) rfl (by kernel_rfl)) ?_
  intro W base args ds gs before hval hW hk
  exact contract H enc W base args ds gs before hval hW hk

theorem over : Rows.wholeWorkersUptoRow.holds Try.pinned (Rows.OpenSpec.upto Rows.wholeWorkersSpec) :=
  holds_upto_leaving 3 Try.f3 rfl rfl rfl rfl rfl rfl rfl ⟨rfl, rfl, rfl, rfl, rfl⟩ rfl rfl rfl rfl rfl (by kernel_rfl) Try.func3 (by kernel_rfl)
    (of_decide_eq_true (by kernel_rfl)) (by unfold Func.isWrapper; first | (rw [if_pos (by decide +kernel)]; kernel_rfl) | (rw [if_neg (by decide +kernel)]; exact ⟨rfl, rfl⟩))
    (fun os started H enc F => lifted os started H enc F)

end Go.Proofs.Ytacfhfeegalmlaa.wholeWorkers
namespace Go.Proofs.Ytacfhfeegalmlaa
theorem wholeWorkers_upto_proved : Rows.WholeWorkersUptoSaid := wholeWorkers.over
#print axioms wholeWorkers_upto_proved
end Go.Proofs.Ytacfhfeegalmlaa
