/-
  Joined texts: a list of nodes as an argument. · a list of nodes as an argument: its texts are no longer than its bulk. · SyntaxFormats, for every input of bulk at most 1048576: the frame round its walk: what the arguments are read as, the call, what is read behind it; the tied card. The condition: the listed package variables hold what the program lays (the card ties this to the program's text).
-/
import Derived.Test.YtpabngicbfcdkaaDoorFo10
import Derived.Test.YtpabngicbfcdkaaDoorFo11
import Derived.ProofKit
import Derived.OpenShut
import Derived.ShutString
import Derived.ChangeOld
import Derived.Below
import Derived.SizedLaws
import Derived.JoinedCond

/- a list of nodes as an argument. -/
namespace Go.Proofs.YtpabngicbfcdkaaDoor
open Go.RowKit Go.ChangeShapes Go.WideShapes Go.Deep Go.Joins
set_option linter.unusedVariables false
set_option linter.unusedSimpArgs false

section
variable {H : Type} {enc : TypeId × Value → H} {W : World}

theorem open_rdi {n : Nat} {v : Value} {y : DataW H × List MemPlace} (h : DataW.trod enc Tryd.prog W 0 (fun _ => true) true n 81 [v] = some y) : ∃ aa l cc, v = .slice aa l.length cc ∧ RdI W (fun b => b < W.heap.size) aa l := by
  obtain ⟨a, len, cap, l, rfl, hr, h0⟩ := open_rd1 Tryd.underlying81 Tryd.underlying3 (by kernel_rfl) h
  refine ⟨a, l, cap, by rw [hr.len], ⟨by have := hr.max; have := hr.len; omega, fun j y hy => ?_, hr.wf⟩⟩
  have hj := (List.getElem?_eq_some_iff.1 hy).1
  obtain ⟨b, off, ha, hc⟩ := hr.cell j (by rw [← hr.len]; exact hj)
  have hg : l.getD j 0 = y := by simp [List.getD, hy]
  rw [hg] at hc
  exact ⟨b, off, ha, World.block_lt_of_cell? W _ hc, hc⟩

set_option maxRecDepth 100000 in
theorem cells_nd {n : Nat} {cs : List Value} {y : DataW H × List MemPlace} (h : DataW.trod enc Tryd.prog W 0 (fun _ => true) true n 83 cs = some y) :
    ∃ k s m aa gs cc, cs = [.int .i64 k, .string s, .int .i64 m, .slice aa (gs : List Int).length cc] ∧ RdI W (fun b => b < W.heap.size) aa gs ∧ (Lit.int .i64 k).wf = true ∧ (Lit.int .i64 m).wf = true ∧ s.size ≤ 9223372036854775807 := by
  obtain ⟨y0, y1, y2, y3, m, _, hlen, h0, h1, h2, h3⟩ := trod_struct4 Tryd.underlying83 h
  rw [show Tryd.prog.cellsOf 83 = 4 by kernel_rfl] at hlen
  match cs, hlen with
  | [c0, c1, c2, c3], _ =>
    rw [show Tryd.prog.cellsOf 3 = 1 by kernel_rfl] at h0 h2
    rw [show Tryd.prog.cellsOf 9 = 1 by kernel_rfl] at h1
    rw [show Tryd.prog.cellsOf 81 = 1 by kernel_rfl] at h3
    have h0 : DataW.trod enc Tryd.prog W 0 (fun _ => true) true m 3 [c0] = some y0 := h0
    have h1 : DataW.trod enc Tryd.prog W 0 (fun _ => true) true m 9 [c1] = some y1 := h1
    have h2 : DataW.trod enc Tryd.prog W 0 (fun _ => true) true m 3 [c2] = some y2 := h2
    have h3 : DataW.trod enc Tryd.prog W 0 (fun _ => true) true m 81 [c3] = some y3 := h3
    obtain ⟨k, e1, _, e3⟩ := DataW.trod_int Tryd.underlying3 h0
    obtain ⟨s, f1, _, f3⟩ := DataW.trod_string Tryd.underlying9 h1
    obtain ⟨q, g1, _, g3⟩ := DataW.trod_int Tryd.underlying3 h2
    obtain ⟨aa, gs, cc, k1, k2⟩ := open_rdi h3
    refine ⟨k, s, q, aa, gs, cc, ?_, k2, e3, g3, by unfold maxLen at f3; omega⟩
    simp only [List.cons.injEq, and_true] at e1 f1 g1
    rw [e1, f1, g1, k1]

theorem open_nds {a : Option Addr} {len cap : Nat} {d : DataW H} {p : List MemPlace} (h : DataW.Trod enc Tryd.prog W 0 (fun _ => true) true 22 (.slice a len cap) d p) :
    ∃ L, RdN W (fun i => i < W.heap.size) a len L ∧ len ≤ cap ∧ ∀ x ∈ L, x.2.1.size ≤ 9223372036854775807 := by
  obtain ⟨fuel, hf⟩ := h
  rcases open_slice Tryd.underlying22 hf with ⟨hcs, hx⟩ | ⟨x, l, c', m, n, D, Pl, hcs, _, hl, hm, hmm, hx, hel⟩
  · simp [Value.cells] at hcs
    obtain ⟨rfl, rfl, rfl⟩ := hcs
    exact ⟨[], ⟨rfl, by omega, fun i x hx => by simp at hx⟩, Nat.le_refl _, fun x hx => by simp at hx⟩
  · simp [Value.cells] at hcs
    obtain ⟨rfl, rfl, rfl⟩ := hcs
    simp only [if_true] at hmm
    subst hmm
    rw [show Tryd.prog.cellsOf 83 = 4 by kernel_rfl] at hel
    have each : ∀ i, i < len → ∃ y : Nd × Option Addr × Nat, W.cell? (x.add (i * 4)) = some (.int .i64 y.1.1) ∧ W.cell? ((x.add (i * 4)).add 1) = some (.string y.1.2.1) ∧ W.cell? ((x.add (i * 4)).add 2) = some (.int .i64 y.1.2.2.1) ∧ W.cell? ((x.add (i * 4)).add 3) = some (.slice y.2.1 y.1.2.2.2.length y.2.2) ∧ RdI W (fun b => b < W.heap.size) y.2.1 y.1.2.2.2 ∧ y.1.2.1.size ≤ 9223372036854775807 := by
      intro i hi
      obtain ⟨cs', hc, ht⟩ := hel i (by omega)
      obtain ⟨k, s, q, aa, gs, cc, rfl, h1, h2, h3, h4⟩ := cells_nd ht
      obtain ⟨_, _, hat⟩ := World.cells?_some hc
      have a0 := hat 0 (by omega)
      rw [show (x.add (i * 4)).add 0 = x.add (i * 4) from rfl] at a0
      exact ⟨((k, s, q, gs), aa, cc), a0, hat 1 (by omega), hat 2 (by omega), hat 3 (by omega), h1, h4⟩
    obtain ⟨f, hf⟩ := choose_lt each
    refine ⟨(List.range len).map fun i => (f i).1, ⟨by simp, by unfold maxLen at hm; omega, fun i z hz => ?_⟩, hl, fun z hz => ?_⟩
    · rw [List.getElem?_map, Option.map_eq_some_iff] at hz
      obtain ⟨j, hj, rfl⟩ := hz
      have hil : i < len := by have := (List.getElem?_eq_some_iff.1 hj).1; simpa using this
      have : j = i := by simpa [hil] using hj.symm
      subst this
      obtain ⟨b, off, rfl⟩ := spot_none (show W.cell? (x.add 0) = some (.int .i64 (f 0).1.1) from (hf 0 (by omega)).1)
      obtain ⟨c0, c1, c2, c3, hI, _⟩ := hf j hil
      rw [Addr.add_lit] at c0 c1 c2 c3
      rw [Addr.add_lit] at c1 c2 c3
      exact ⟨b, off, _, _, rfl, World.block_lt_of_cell? W _ c0, c0, c1, c2, c3, hI⟩
    · obtain ⟨i, hi, rfl⟩ := List.mem_map.1 hz
      exact (hf i (by simpa using hi)).2.2.2.2.2
end

end Go.Proofs.YtpabngicbfcdkaaDoor

/- a list of nodes as an argument: its texts are no longer than its bulk. -/
namespace Go.Proofs.YtpabngicbfcdkaaDoor
open Go.RowKit Go.ChangeShapes Go.WideShapes Go.Deep Go.Joins
set_option linter.unusedVariables false
set_option linter.unusedSimpArgs false

section
variable {H : Type} {enc : TypeId × Value → H} {W : World}

set_option maxRecDepth 100000 in
theorem cells_ndu {n : Nat} {cs : List Value} {y : DataW H × List MemPlace} (h : DataW.trod enc Tryd.prog W 0 (fun _ => true) true n 83 cs = some y) :
    ∃ k s m aa gs cc, cs = [.int .i64 k, .string s, .int .i64 m, .slice aa (gs : List Int).length cc] ∧ RdI W (fun b => b < W.heap.size) aa gs ∧ s.size ≤ Rows.uptoBulk y.1 := by
  obtain ⟨y0, y1, y2, y3, m, hy, hlen, h0, h1, h2, h3⟩ := trod_struct4 Tryd.underlying83 h
  rw [show Tryd.prog.cellsOf 83 = 4 by kernel_rfl] at hlen
  match cs, hlen with
  | [c0, c1, c2, c3], _ =>
    rw [show Tryd.prog.cellsOf 3 = 1 by kernel_rfl] at h0 h2
    rw [show Tryd.prog.cellsOf 9 = 1 by kernel_rfl] at h1
    rw [show Tryd.prog.cellsOf 81 = 1 by kernel_rfl] at h3
    have h0 : DataW.trod enc Tryd.prog W 0 (fun _ => true) true m 3 [c0] = some y0 := h0
    have h1 : DataW.trod enc Tryd.prog W 0 (fun _ => true) true m 9 [c1] = some y1 := h1
    have h2 : DataW.trod enc Tryd.prog W 0 (fun _ => true) true m 3 [c2] = some y2 := h2
    have h3 : DataW.trod enc Tryd.prog W 0 (fun _ => true) true m 81 [c3] = some y3 := h3
    obtain ⟨k, e1, _, e3⟩ := DataW.trod_int Tryd.underlying3 h0
    obtain ⟨s, f1, f2, f3⟩ := DataW.trod_string Tryd.underlying9 h1
    obtain ⟨q, g1, _, g3⟩ := DataW.trod_int Tryd.underlying3 h2
    obtain ⟨aa, gs, cc, k1, k2⟩ := open_rdi h3
    refine ⟨k, s, q, aa, gs, cc, ?_, k2, ?_⟩
    · simp only [List.cons.injEq, and_true] at e1 f1 g1
      rw [e1, f1, g1, k1]
    · have hs : s.data.toList.length = s.size := rfl
      rw [hy, f2]
      simp only [Rows.uptoBulk, Rows.uptoBulkAll]
      omega

theorem open_ndsu {a : Option Addr} {len cap : Nat} {d : DataW H} {p : List MemPlace} (h : DataW.Trod enc Tryd.prog W 0 (fun _ => true) true 22 (.slice a len cap) d p) :
    ∃ L, RdN W (fun i => i < W.heap.size) a len L ∧ len ≤ cap ∧ ∀ x ∈ L, x.2.1.size ≤ Rows.uptoBulk d := by
  obtain ⟨fuel, hf⟩ := h
  rcases open_slice Tryd.underlying22 hf with ⟨hcs, hx⟩ | ⟨x, l, c', m, n, D, Pl, hcs, _, hl, hm, hmm, hx, hel⟩
  · simp [Value.cells] at hcs
    obtain ⟨rfl, rfl, rfl⟩ := hcs
    exact ⟨[], ⟨rfl, by omega, fun i x hx => by simp at hx⟩, Nat.le_refl _, fun x hx => by simp at hx⟩
  · simp [Value.cells] at hcs
    obtain ⟨rfl, rfl, rfl⟩ := hcs
    simp only [if_true] at hmm
    subst hmm
    rw [show Tryd.prog.cellsOf 83 = 4 by kernel_rfl] at hel
    have each : ∀ i, i < len → ∃ y : Nd × Option Addr × Nat, W.cell? (x.add (i * 4)) = some (.int .i64 y.1.1) ∧ W.cell? ((x.add (i * 4)).add 1) = some (.string y.1.2.1) ∧ W.cell? ((x.add (i * 4)).add 2) = some (.int .i64 y.1.2.2.1) ∧ W.cell? ((x.add (i * 4)).add 3) = some (.slice y.2.1 y.1.2.2.2.length y.2.2) ∧ RdI W (fun b => b < W.heap.size) y.2.1 y.1.2.2.2 ∧ y.1.2.1.size ≤ Rows.uptoBulk (D i) := by
      intro i hi
      obtain ⟨cs', hc, ht⟩ := hel i (by omega)
      obtain ⟨k, s, q, aa, gs, cc, rfl, h1, h4⟩ := cells_ndu ht
      obtain ⟨_, _, hat⟩ := World.cells?_some hc
      have a0 := hat 0 (by omega)
      rw [show (x.add (i * 4)).add 0 = x.add (i * 4) from rfl] at a0
      exact ⟨((k, s, q, gs), aa, cc), a0, hat 1 (by omega), hat 2 (by omega), hat 3 (by omega), h1, h4⟩
    have hd : d = .slice ((List.range len).map D) ((List.range (m - len)).map fun j => D (len + j)) := congrArg Prod.fst hx
    obtain ⟨f, hf⟩ := choose_lt each
    refine ⟨(List.range len).map fun i => (f i).1, ⟨by simp, by unfold maxLen at hm; omega, fun i z hz => ?_⟩, hl, fun z hz => ?_⟩
    · rw [List.getElem?_map, Option.map_eq_some_iff] at hz
      obtain ⟨j, hj, rfl⟩ := hz
      have hil : i < len := by have := (List.getElem?_eq_some_iff.1 hj).1; simpa using this
      have : j = i := by simpa [hil] using hj.symm
      subst this
      obtain ⟨b, off, rfl⟩ := spot_none (show W.cell? (x.add 0) = some (.int .i64 (f 0).1.1) from (hf 0 (by omega)).1)
      obtain ⟨c0, c1, c2, c3, hI, _⟩ := hf j hil
      rw [Addr.add_lit] at c0 c1 c2 c3
      rw [Addr.add_lit] at c1 c2 c3
      exact ⟨b, off, _, _, rfl, World.block_lt_of_cell? W _ c0, c0, c1, c2, c3, hI⟩
    · obtain ⟨i, hi, rfl⟩ := List.mem_map.1 hz
      have h1 := (hf i (by simpa using hi)).2.2.2.2.2
      have h2 : Rows.uptoBulk (D i) ≤ Rows.uptoBulkAll ((List.range len).map D) := bulks.part_le (List.mem_map.2 ⟨i, hi, rfl⟩)
      have h3 := bulks.slice_elems ((List.range len).map D) ((List.range (m - len)).map fun j => D (len + j))
      rw [hd]
      omega
end

end Go.Proofs.YtpabngicbfcdkaaDoor

/- SyntaxFormats, for every input of bulk at most 1048576: the frame round its walk: what the arguments are read as, the call, what is read behind it; the tied card. The condition: the listed package variables hold what the program lays (the card ties this to the program's text). -/
namespace Go.Proofs.YtpabngicbfcdkaaDoor.syntaxFormats
open Go.ChangeShapes Go.WideShapes Go.ChangeAt Go.RowKit
open Go.ChangeMaps (open_string shut_string)
set_option linter.unusedVariables false
set_option linter.unusedSimpArgs false

theorem own : ownKnob Tryd.prog.godebug = none := by kernel_rfl
theorem laidOut : laidOutB Tryd.prog = true := by kernel_rfl

set_option maxRecDepth 100000 in
theorem contract (H : Type) (enc : TypeId × Value → H) (W : World) (base : Nat) (args : Array Value) (ds gs : List (DataW H)) (before : List MemPlace)
    (hval0 : ∀ (j : Nat) t v, Tryd.f3.params[j]? = some t → args[j]? = some v → Value.okWide Tryd.prog W .any base t v)
    (hW : DataW.Whole enc Tryd.prog Tryd.f3.params.toList Rows.syntaxFormatsSpec.vars false W args.toList ds gs before) (hk : Rows.uptoSmall H (ds ++ gs) = true) (hL : laidMetH Tryd.prog Rows.syntaxFormatsUptoRow.laid W) :
    Calls Tryd.prog 3 args W fun e W' => ∃ v, e = .returned v ∧ Rows.syntaxFormatsSpec.post enc Tryd.prog Tryd.f3 false true false false W args v W' := by
  have hval : ∀ (j : Nat) t v, Tryd.f3.params[j]? = some t → args[j]? = some v → Value.okWide Tryd.prog W .any base t v := hval0
  have hW' := hW
  obtain ⟨p, q, hA0, hV, rfl, hfz, hnd⟩ := hW
  have hA : DataW.TrodAll enc Tryd.prog W 0 (fun _ => true) true Tryd.f3.params.toList args.toList ds p := hA0
  rw [Tryd.params3] at hA hval
  obtain ⟨v0, vs0, d0, ds0, p0, q0, hargs, rfl, rfl, h0, r0⟩ := trodAll_cons hA
  obtain ⟨rfl, rfl, rfl⟩ := trodAll_nil r0
  obtain rfl : args = #[v0] := by cases args; simp_all
  obtain ⟨rfl, rfl⟩ := trodVars_none hV
  have hbk := bulks.bound hk
  rw [List.append_nil] at hbk
  have k0 := h0
  have lt0 : ∀ x ∈ p0, x.block < W.heap.size := by obtain ⟨m, hm⟩ := k0; exact DataW.trod_lt m _ _ _ hm
  obtain ⟨a0, len0, cap0, rfl⟩ := okWide_slice Tryd.underlying22 (hval 0 22 v0 rfl rfl)
  obtain ⟨l0, w0, c0, s0⟩ := open_ndsu h0
  have b0 : ∀ x ∈ l0, x.2.1.size ≤ 1048576 := fun x hx => by
    have h1 := s0 x hx
    have h3 := bulks.part_le (l := [d0]) (d := d0) (by simp)
    have h5 := hbk
    omega
  clear hA0 hval0
  refine (walk_SyntaxFormats a0 len0 cap0 l0 W w0 b0 (tab_of hL (tab_lt hL))).mono fun e W' ⟨he, bel⟩ => ?_
  subst he
  exact ⟨_, rfl, _, _, _, [], _, [], hW', trodAll_mk1 (shut_bool Tryd.underlying4 _), (trodAll_cons_mk (Below.trod laidOut (by kernel_rfl) (of_decide_eq_true (by kernel_rfl)) k0 bel lt0) trodAll_mk0), rfl, bel.frame _, fun h => by cases h⟩

theorem reads (os : Os) {H : Type} (enc : TypeId × Value → H) : ∃ places, DataW.whole enc Tryd.prog ((World.doorLaid Tryd.prog 24 os).forCall (fun _ _ => 0) ⟨#[], #[.slice none 0 0], []⟩).memory Tryd.f3.params.toList Rows.syntaxFormatsSpec.vars false (#[.slice none 0 0] : Array Value).toList 8 = some ([.nil], [], places) :=
  ⟨[], by kernel_rfl⟩

set_option maxRecDepth 100000 in
theorem lifted (os : Os) (started : os.Started) (H : Type) (enc : TypeId × Value → H) (F : Stop.Interp) :
    ReturnsInHanded {} Tryd.checked os 3 .any ((Rows.OpenSpec.upto Rows.syntaxFormatsSpec).preRow enc Tryd.prog Tryd.f3 Rows.syntaxFormatsUptoRow.domain false Rows.syntaxFormatsUptoRow.laid) (((Rows.OpenSpec.upto Rows.syntaxFormatsSpec).at F).post enc Tryd.prog Tryd.f3 false true false false) := by
  obtain ⟨places, hx⟩ := reads os enc
  refine returnsInHanded_of_row (C := Tryd.checked) (s := (Rows.OpenSpec.upto Rows.syntaxFormatsSpec)) own started (by kernel_rfl) Tryd.func3
    (witness_row_at (enc := enc) (C := Tryd.checked) false (World.doorLaid Tryd.prog 24 os) #[.slice none 0 0] rfl (by kernel_rfl) (by kernel_rfl) (by kernel_rfl)
      (OpenSpec.preRow_of_cond 8 hx (by kernel_rfl) (fun k hk => by cases hk; kernel_rfl) (by kernel_rfl) (laid_met os _))) ?_
  intro W base args ds gs before hval hW _ hcond hsz hL _ _
  exact contract H enc W base args ds gs before hval hW (hcond _ rfl) hL

theorem over : Rows.syntaxFormatsUptoRow.holds Tryd.pinned (Rows.OpenSpec.upto Rows.syntaxFormatsSpec) :=
  OpenClaim.holds_of_cond 3 Tryd.f3 rfl rfl rfl rfl rfl rfl rfl ⟨rfl, rfl, rfl, rfl, rfl⟩ rfl rfl rfl rfl rfl (by kernel_rfl) Tryd.func3 (by kernel_rfl)
    (of_decide_eq_true (by kernel_rfl)) (by unfold Func.isWrapper; first | (rw [if_pos (by decide +kernel)]; kernel_rfl) | (rw [if_neg (by decide +kernel)]; exact ⟨rfl, rfl⟩))
    (fun os started H enc _ F => by rw [OpenClaim.pre_eq_preRow]; exact lifted os started H enc F)

/-- No parameter wants a stand-in; the program's own looks: what the card asks. -/
theorem plain (f : FuncId) (fn : Func) (hf : Tryd.pinned.checked.prog.funcNamed "evergreen/evergreenlaw54.SyntaxFormats" = some f) (hfn : Tryd.pinned.checked.prog.funcs[f]? = some fn) :
    true = Tryd.pinned.checked.prog.looks [] ∧ ∀ (j : Nat) t, fn.params[j]? = some t → Tryd.pinned.checked.prog.wantsStandIn t = false := by
  obtain rfl : f = 3 := Option.some.inj ((show Tryd.prog.funcNamed "evergreen/evergreenlaw54.SyntaxFormats" = some 3 by kernel_rfl).symm.trans hf) |>.symm
  obtain rfl : fn = Tryd.f3 := (Option.some.inj (Tryd.func3.symm.trans hfn)).symm
  refine ⟨by kernel_rfl, fun j t ht => ?_⟩
  rw [Tryd.params3] at ht
  have hm : t ∈ [22] := by simpa using Array.mem_of_getElem? ht
  have hall : ([22].all fun u => !Tryd.prog.wantsStandIn u) = true := by kernel_rfl
  exact (show Tryd.prog.wantsStandIn t = false by simpa using List.all_eq_true.1 hall t hm)
theorem card : Rows.SyntaxFormatsUptoCardSaid :=
  Claim7.holds_tied_plain_at .later [] _ _ _ _ over (fun _ h => by cases h) (by kernel_rfl) (fun _ h => by cases h) syntaxFormatsUpto_row_tie rfl ⟨rfl, rfl⟩ (by kernel_rfl) rfl plain (by kernel_rfl)

end Go.Proofs.YtpabngicbfcdkaaDoor.syntaxFormats
namespace Go.Proofs.YtpabngicbfcdkaaDoor
theorem syntaxFormats_upto_card_proved : Rows.SyntaxFormatsUptoCardSaid := syntaxFormats.card
#print axioms syntaxFormats_upto_card_proved
end Go.Proofs.YtpabngicbfcdkaaDoor
