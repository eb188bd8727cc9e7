/-
  Joined texts: THE SESSION, in company: commit. · THE SESSION, in company: Commit, perform.
-/
import Derived.Test.YtacfhfeegalmlaaWW6

/- THE SESSION, in company: commit. -/
namespace Go.Proofs.Ytacfhfeegalmlaa
open Go.Conc
set_option linter.unusedVariables false
set_option linter.unusedSimpArgs false

def intV (n : Int) : Value := .int .i64 n
def chV (x : Int) : Value := .agg #[.int .i64 x, .bool false]
/-- The map of the last changes. -/
structure LastK (k : Kn) (ml : Nat) (L : ByteArray → Option Int) : Prop where
  at_ : ∃ es c, k.own ml = some (.map es c) ∧ MOk es c ∧ ∀ s, mgetL es.toList s = (L s).map intV
def lastN (L : ByteArray → Option Int) (s : ByteArray) : Int := (L s).getD 0
theorem wpK_mid {P : Program} {main : Who} {fn : FuncId} {c : Code} {M N : Act → Kn → Prop} {Q : Exit → Act → Kn → Prop} {a : Act} {k : Kn} (h : c.wpK P main fn (thenK M Q) a k) (hm : ∀ a k, M a k → N a k) : c.wpK P main fn (thenK N Q) a k :=
  wpK_mono h fun e a k q => by
    cases e <;> first | exact hm _ _ q | exact q
theorem LastK.ext {k k' : Kn} {ml : Nat} {L : ByteArray → Option Int} (h : LastK k ml L) (he : ∀ o, k.own ml = some o → k'.own ml = some o) : LastK k' ml L := by
  obtain ⟨es, c, h1, h2⟩ := h.at_
  exact ⟨es, c, he _ h1, h2⟩
/-- What is left of a name's entry, read as a number. -/
theorem last_get {es : List MapEntry} {L : ByteArray → Option Int} (h : ∀ s, mgetL es s = (L s).map intV) (s : ByteArray) : (mgetL es s).getD (intV 0) = intV (lastN L s) := by
  rw [h s]
  unfold lastN
  cases L s <;> rfl
/-- What commit comes to. -/
def CommitTo (k : Kn) (B ml : Nat) (num bg : Int) (L C : ByteArray → Option Int) (R : ByteArray → Option Value) (t : Tr) (nC : Nat) (v : Value) (k' : Kn) : Prop :=
  (v = .tuple #[intV 0, errV 11] ∧ (∃ s, (R s ≠ none ∨ C s ≠ none) ∧ bg < lastN L s) ∧ k.Ext k') ∨
  (v = .tuple #[intV (num + 1), .nilIface] ∧ (∀ s, R s ≠ none ∨ C s ≠ none → lastN L s ≤ bg) ∧ ∃ p' t', k'.own B = some (.cells (boxC (num + 1) p' (.map (some ml))) 64) ∧ LastK k' ml (fun s => if (C s).isSome then some (num + 1) else L s) ∧
    TrK k'.ro p' t' ∧ t'.ok ∧ Srt t'.ents ∧ (∀ s, getL t'.ents s = (C s).or (getL t.ents s)) ∧ t'.sz ≤ t.sz + nC ∧ k.ExtX (fun b => b = B ∨ b = ml) k')
/-- The lock is given back, and nothing has changed. -/
theorem conflict_ret {main : Who} {k k0 k' : Kn} {B : Nat} {num : Int} {pp lm : Value} {a : Act} {Post : Value → Kn → Prop} {v : Value} (hB : k.own B = some (.cells (boxC num pp lm) 64)) (xB : k.ExtX (· = B) k0) (x : k0.Ext k')
    (oB : k'.own B = some (.cells #[.int .i32 1, .int .u32 0, .int .i64 num, pp, lm] 64)) {f : Func} {t u : Tmp} (hr : f.results = #[.tmp t, .tmp u]) (hd : a.defers = [dcall 53 #[.pointer (some ⟨B, 0, none⟩)]])
    (hv : .tuple #[a.tmps.getD t undef, a.tmps.getD u undef] = v) (hP : ∀ k', k.Ext k' → Post v k') : bodyK Try.prog main f Post .ret a k' := by
  refine retKD hd (unlock_k k' B _ 64 oB rfl) ?_
  rintro _ _ rfl
  refine leave2 hr ?_
  rw [hv]
  refine hP _ ⟨fun a v h => x.ro a v (xB.ro a v h), fun b o h => ?_, x.oc.trans xB.oc, x.deaf.trans xB.deaf, x.live.trans xB.live, x.gh.trans xB.gh⟩
  by_cases e : b = B
  · subst e
    rw [Kn.set_same, ← h, hB]
    rfl
  · rw [Kn.set_ne _ _ e]
    exact x.own _ _ (xB.own _ _ e h)
set_option maxRecDepth 100000 in
set_option maxHeartbeats 8000000 in
theorem commit_k {main : Who} (k : Kn) (B ml T : Nat) (num bg : Int) (p pb : Value) (t : Tr) (L C : ByteArray → Option Int) (R : ByteArray → Option Value) (mr mc nC : Nat) (d : Bool)
    (hB : k.own B = some (.cells (boxC num p (.map (some ml))) 64)) (hL : LastK k ml L) (hT : TxnK k T B bg pb R (fun s => (C s).map chV) mr mc nC d) (hp : TrK k.ro p t) (ot : t.ok) (st : Srt t.ents) (hnum : 0 ≤ num ∧ num < 4611686018427387904) (hsz : t.sz + nC < 288230376151711744) (nlr : ml ≠ mr) (nlc : ml ≠ mc) :
    CallsK Try.prog main 28 #[.pointer (some ⟨B, 0, none⟩), .pointer (some ⟨T, 0, none⟩)] k fun v k' => CommitTo k B ml num bg L C R t nC v k' := by
  obtain ⟨x, rfl⟩ := hp.ptr
  obtain ⟨el, cl, hl1, hl2, hl3⟩ := hL.at_
  obtain ⟨er, cr, hr1, hr2, hr3⟩ := hT.rd
  obtain ⟨ec, cc, hc1, hc2, hc3, hc4⟩ := hT.ch
  have nBT : B ≠ T := fun e => by subst e; have := hT.txn; rw [hB] at this; simp [boxC, txnC] at this
  have nBl : B ≠ ml := fun e => by subst e; rw [hB] at hl1; cases hl1
  have nBr : B ≠ mr := fun e => by subst e; rw [hB] at hr1; cases hr1
  have nBc : B ≠ mc := fun e => by subst e; rw [hB] at hc1; cases hc1
  (refine callsK_of Try.func28 (by first | rfl | kernel_rfl) rfl ?_; simp only [Try.ntmps28, List.size_toArray, List.length_cons, List.length_nil, Nat.reduceAdd, Nat.reduceSub, Array.replicate_succ, Array.replicate_zero, List.push_toArray, List.append_toArray, List.nil_append, List.cons_append])
  refine goF ?_
  refine opsK_callv rfl (by rfl) rfl (by first | (walk_nrm; done) | (walk_nrm; rfl)) (lock_k k B (boxC num (.pointer x) (.map (some ml))) 64 hB rfl) ?_
  rintro v _ rfl
  walk_nrm
  refine goF ?_
  refine opsK_defer rfl (by rfl) rfl ?_
  walk_nrm
  have xB : k.ExtX (· = B) (k.set B (.cells ((boxC num (.pointer x) (.map (some ml))).setIfInBounds 0 (.int .i32 1)) 64)) := Kn.ExtX.set _ _ _ rfl
  have oB : (k.set B (.cells ((boxC num (.pointer x) (.map (some ml))).setIfInBounds 0 (.int .i32 1)) 64)).own B = some (.cells #[.int .i32 1, .int .u32 0, .int .i64 num, .pointer x, .map (some ml)] 64) := Kn.set_same _ _ _
  generalize k.set B (.cells ((boxC num (.pointer x) (.map (some ml))).setIfInBounds 0 (.int .i32 1)) 64) = k0 at xB oB
  have oT := xB.own _ _ (Ne.symm nBT) hT.txn
  have ol := xB.own _ _ (Ne.symm nBl) hl1
  have om := xB.own _ _ (Ne.symm nBr) hr1
  have x00 := Kn.Ext.refl k0
  have h2 : k0.Has ⟨T, 3, none⟩ (.map (some mr)) := Kn.has_own oT rfl
  repeat (first | (apply wpK_region; simp only [List.size_toArray, List.length_cons, List.length_nil, Nat.reduceAdd, Nat.zero_add, List.range, List.range.loop]) | ((first | refine opsK_max rfl (by rfl) rfl rfl rfl ?_ | refine opsK_eqNil rfl (by rfl) rfl rfl (by kernel_rfl) ?_ | refine opsK_neNil rfl (by rfl) rfl rfl (by kernel_rfl) ?_); try simp only [Option.isNone_none, Option.isNone_some, Bool.not_true, Bool.not_false]; try walk_nrm) | (co_applyP opsK_pure_k rfl (by rfl) ?_ ?_ ?_; (focus (intro _ K hK; go_simp; exact hK)); (focus (first | (exact fun _ => ev_int rfl rfl rfl rfl) | (exact fun _ => ev_str rfl rfl rfl) | (exact fun _ => ev_build rfl) | (exact fun _ => ev_lenS rfl rfl) | (exact fun _ => ev_lenL rfl rfl) | (exact fun _ => ev_mkI rfl) | (intro _; simp [go_sem, *]; done))); try walk_nrm) | (co_applyP opsK_load1 rfl (by rfl) rfl rfl ?_ ?_ ?_; (focus (intro _; go_simp)); (focus (exact h2)); try walk_nrm) | ((first | apply wpK_seq | apply wpK_block | apply wpK_skip | apply wpK_label | apply wpK_ret | apply wpK_exit | apply opsK_nil); try simp only [thenK, blockK, if_true, if_false, reduceIte, Nat.reduceEqDiff]) | (refine wpK_cond rfl ?_; simp only [if_true, if_false, reduceIte, Bool.false_eq_true]) | (refine opsK_unwanted rfl (by rfl) ?_; try walk_nrm))
  refine opsK_range (kt := 9) (e := 4) rfl (by rfl) rfl rfl (by kernel_rfl) om ?_
  (intro b1 hb1; refine hb1.pack (M := fun k1 => OpsK _ _ _ _ _ _ _ k1) _ ?_; intro k1 x1 o1 n1; try simp only [Value.cells] at o1); walk_nrm
  refine opsK_nil ?_
  simp only [thenK, blockK, if_true, if_false, reduceIte, Nat.reduceEqDiff]
  refine wpK_mid (M := fun a' k' => k0.Ext k' ∧ (∀ s, R s ≠ none → lastN L s ≤ bg) ∧ ∃ T' : Array Value, a' = ⟨T', [dcall 53 #[.pointer (some ⟨B, 0, none⟩)]]⟩ ∧ T' = #[.pointer (some ⟨B, 0, none⟩), .pointer (some ⟨T, 0, none⟩), (fun j => T'.getD j undef) 2, (fun j => T'.getD j undef) 3, (fun j => T'.getD j undef) 4, (fun j => T'.getD j undef) 5, (fun j => T'.getD j undef) 6, (fun j => T'.getD j undef) 7, (fun j => T'.getD j undef) 8, (fun j => T'.getD j undef) 9, (fun j => T'.getD j undef) 10, (fun j => T'.getD j undef) 11, (fun j => T'.getD j undef) 12, (fun j => T'.getD j undef) 13, (fun j => T'.getD j undef) 14, (fun j => T'.getD j undef) 15, (fun j => T'.getD j undef) 16, (fun j => T'.getD j undef) 17, (fun j => T'.getD j undef) 18, (fun j => T'.getD j undef) 19, (fun j => T'.getD j undef) 20, (fun j => T'.getD j undef) 21, (fun j => T'.getD j undef) 22, (fun j => T'.getD j undef) 23, (fun j => T'.getD j undef) 24, (fun j => T'.getD j undef) 25, (fun j => T'.getD j undef) 26, (fun j => T'.getD j undef) 27, (fun j => T'.getD j undef) 28, (fun j => T'.getD j undef) 29, (fun j => T'.getD j undef) 30, (fun j => T'.getD j undef) 31, (fun j => T'.getD j undef) 32, (fun j => T'.getD j undef) 33, (fun j => T'.getD j undef) 34, (fun j => T'.getD j undef) 35, (fun j => T'.getD j undef) 36, (fun j => T'.getD j undef) 37, (fun j => T'.getD j undef) 38, (fun j => T'.getD j undef) 39, (fun j => T'.getD j undef) 40, (fun j => T'.getD j undef) 41, (fun j => T'.getD j undef) 42, (fun j => T'.getD j undef) 43, (fun j => T'.getD j undef) 44, (fun j => T'.getD j undef) 45, (fun j => T'.getD j undef) 46, (fun j => T'.getD j undef) 47, (fun j => T'.getD j undef) 48, (fun j => T'.getD j undef) 49, (fun j => T'.getD j undef) 50, (fun j => T'.getD j undef) 51, (fun j => T'.getD j undef) 52, (fun j => T'.getD j undef) 53, (fun j => T'.getD j undef) 54, (fun j => T'.getD j undef) 55, (fun j => T'.getD j undef) 56, (fun j => T'.getD j undef) 57, (fun j => T'.getD j undef) 58, (fun j => T'.getD j undef) 59, (fun j => T'.getD j undef) 60, (fun j => T'.getD j undef) 61, (fun j => T'.getD j undef) 62, (fun j => T'.getD j undef) 63, (fun j => T'.getD j undef) 64, (fun j => T'.getD j undef) 65, (fun j => T'.getD j undef) 66, (fun j => T'.getD j undef) 67, (fun j => T'.getD j undef) 68, (fun j => T'.getD j undef) 69, (fun j => T'.getD j undef) 70, (fun j => T'.getD j undef) 71, (fun j => T'.getD j undef) 72, (fun j => T'.getD j undef) 73, (fun j => T'.getD j undef) 74, (fun j => T'.getD j undef) 75, (fun j => T'.getD j undef) 76, (fun j => T'.getD j undef) 77, (fun j => T'.getD j undef) 78, (fun j => T'.getD j undef) 79, (fun j => T'.getD j undef) 80, (fun j => T'.getD j undef) 81, (fun j => T'.getD j undef) 82, (fun j => T'.getD j undef) 83, (fun j => T'.getD j undef) 84, (fun j => T'.getD j undef) 85, (fun j => T'.getD j undef) 86, (fun j => T'.getD j undef) 87, (fun j => T'.getD j undef) 88, (fun j => T'.getD j undef) 89, (fun j => T'.getD j undef) 90, (fun j => T'.getD j undef) 91, (fun j => T'.getD j undef) 92, (fun j => T'.getD j undef) 93, (fun j => T'.getD j undef) 94, (fun j => T'.getD j undef) 95, (fun j => T'.getD j undef) 96, (fun j => T'.getD j undef) 97, (fun j => T'.getD j undef) 98, (fun j => T'.getD j undef) 99, (fun j => T'.getD j undef) 100, (fun j => T'.getD j undef) 101, (fun j => T'.getD j undef) 102, (fun j => T'.getD j undef) 103, (fun j => T'.getD j undef) 104, (fun j => T'.getD j undef) 105, (fun j => T'.getD j undef) 106, (fun j => T'.getD j undef) 107, (fun j => T'.getD j undef) 108, (fun j => T'.getD j undef) 109, (fun j => T'.getD j undef) 110, (fun j => T'.getD j undef) 111, (fun j => T'.getD j undef) 112, (fun j => T'.getD j undef) 113, (fun j => T'.getD j undef) 114, (fun j => T'.getD j undef) 115, (fun j => T'.getD j undef) 116, (fun j => T'.getD j undef) 117, (fun j => T'.getD j undef) 118, (fun j => T'.getD j undef) 119]) ?_ ?_
  · (first | apply wpK_seq | apply wpK_block | apply wpK_skip | apply wpK_label | apply wpK_ret | apply wpK_exit | apply opsK_nil)
    refine wpK_loop (measure id).wf (I := fun n a' k' => ∃ seen : Array Nat, k' = k1.set b1 (.mapIter (some mr) cr seen cr) ∧ n = (remL er seen).length ∧ (∀ e ∈ er.toList, e ∉ remL er seen → ∀ s, e.key = .string s → lastN L s ≤ bg) ∧
      ∃ T' : Array Value, a' = ⟨T', [dcall 53 #[.pointer (some ⟨B, 0, none⟩)]]⟩ ∧ T' = #[.pointer (some ⟨B, 0, none⟩), .pointer (some ⟨T, 0, none⟩), (fun j => T'.getD j undef) 2, (fun j => T'.getD j undef) 3, (fun j => T'.getD j undef) 4, (fun j => T'.getD j undef) 5, (fun j => T'.getD j undef) 6, (fun j => T'.getD j undef) 7, (fun j => T'.getD j undef) 8, (fun j => T'.getD j undef) 9, (fun j => T'.getD j undef) 10, (fun j => T'.getD j undef) 11, (fun j => T'.getD j undef) 12, (fun j => T'.getD j undef) 13, (fun j => T'.getD j undef) 14, (fun j => T'.getD j undef) 15, (fun j => T'.getD j undef) 16, (fun j => T'.getD j undef) 17, (fun j => T'.getD j undef) 18, (fun j => T'.getD j undef) 19, (fun j => T'.getD j undef) 20, (fun j => T'.getD j undef) 21, .pointer (some ⟨b1, 0, none⟩), (fun j => T'.getD j undef) 23, (fun j => T'.getD j undef) 24, (fun j => T'.getD j undef) 25, (fun j => T'.getD j undef) 26, (fun j => T'.getD j undef) 27, (fun j => T'.getD j undef) 28, (fun j => T'.getD j undef) 29, (fun j => T'.getD j undef) 30, (fun j => T'.getD j undef) 31, (fun j => T'.getD j undef) 32, (fun j => T'.getD j undef) 33, (fun j => T'.getD j undef) 34, (fun j => T'.getD j undef) 35, (fun j => T'.getD j undef) 36, (fun j => T'.getD j undef) 37, (fun j => T'.getD j undef) 38, (fun j => T'.getD j undef) 39, (fun j => T'.getD j undef) 40, (fun j => T'.getD j undef) 41, (fun j => T'.getD j undef) 42, (fun j => T'.getD j undef) 43, (fun j => T'.getD j undef) 44, (fun j => T'.getD j undef) 45, (fun j => T'.getD j undef) 46, (fun j => T'.getD j undef) 47, (fun j => T'.getD j undef) 48, (fun j => T'.getD j undef) 49, (fun j => T'.getD j undef) 50, (fun j => T'.getD j undef) 51, (fun j => T'.getD j undef) 52, (fun j => T'.getD j undef) 53, (fun j => T'.getD j undef) 54, (fun j => T'.getD j undef) 55, (fun j => T'.getD j undef) 56, (fun j => T'.getD j undef) 57, (fun j => T'.getD j undef) 58, (fun j => T'.getD j undef) 59, (fun j => T'.getD j undef) 60, (fun j => T'.getD j undef) 61, (fun j => T'.getD j undef) 62, (fun j => T'.getD j undef) 63, (fun j => T'.getD j undef) 64, (fun j => T'.getD j undef) 65, (fun j => T'.getD j undef) 66, (fun j => T'.getD j undef) 67, (fun j => T'.getD j undef) 68, (fun j => T'.getD j undef) 69, (fun j => T'.getD j undef) 70, (fun j => T'.getD j undef) 71, (fun j => T'.getD j undef) 72, (fun j => T'.getD j undef) 73, (fun j => T'.getD j undef) 74, (fun j => T'.getD j undef) 75, (fun j => T'.getD j undef) 76, (fun j => T'.getD j undef) 77, (fun j => T'.getD j undef) 78, (fun j => T'.getD j undef) 79, (fun j => T'.getD j undef) 80, (fun j => T'.getD j undef) 81, (fun j => T'.getD j undef) 82, (fun j => T'.getD j undef) 83, (fun j => T'.getD j undef) 84, (fun j => T'.getD j undef) 85, (fun j => T'.getD j undef) 86, (fun j => T'.getD j undef) 87, (fun j => T'.getD j undef) 88, (fun j => T'.getD j undef) 89, (fun j => T'.getD j undef) 90, (fun j => T'.getD j undef) 91, (fun j => T'.getD j undef) 92, (fun j => T'.getD j undef) 93, (fun j => T'.getD j undef) 94, (fun j => T'.getD j undef) 95, (fun j => T'.getD j undef) 96, (fun j => T'.getD j undef) 97, (fun j => T'.getD j undef) 98, (fun j => T'.getD j undef) 99, (fun j => T'.getD j undef) 100, (fun j => T'.getD j undef) 101, (fun j => T'.getD j undef) 102, (fun j => T'.getD j undef) 103, (fun j => T'.getD j undef) 104, (fun j => T'.getD j undef) 105, (fun j => T'.getD j undef) 106, (fun j => T'.getD j undef) 107, (fun j => T'.getD j undef) 108, (fun j => T'.getD j undef) 109, (fun j => T'.getD j undef) 110, (fun j => T'.getD j undef) 111, (fun j => T'.getD j undef) 112, (fun j => T'.getD j undef) 113, (fun j => T'.getD j undef) 114, (fun j => T'.getD j undef) 115, (fun j => T'.getD j undef) 116, (fun j => T'.getD j undef) 117, (fun j => T'.getD j undef) 118, (fun j => T'.getD j undef) 119]) (x := er.toList.length) ⟨#[], (Kn.set_id o1).symm, by rw [remL_nil], fun e he hn => absurd (by rw [remL_nil]; exact he) hn, _, rfl, rfl⟩ ?_
    rintro n _ _ ⟨seen, rfl, rfl, hs, T', rfl, hT'⟩
    obtain ⟨y, rfl⟩ : ∃ y : Nat → Value, T' = #[.pointer (some ⟨B, 0, none⟩), .pointer (some ⟨T, 0, none⟩), y 2, y 3, y 4, y 5, y 6, y 7, y 8, y 9, y 10, y 11, y 12, y 13, y 14, y 15, y 16, y 17, y 18, y 19, y 20, y 21, .pointer (some ⟨b1, 0, none⟩), y 23, y 24, y 25, y 26, y 27, y 28, y 29, y 30, y 31, y 32, y 33, y 34, y 35, y 36, y 37, y 38, y 39, y 40, y 41, y 42, y 43, y 44, y 45, y 46, y 47, y 48, y 49, y 50, y 51, y 52, y 53, y 54, y 55, y 56, y 57, y 58, y 59, y 60, y 61, y 62, y 63, y 64, y 65, y 66, y 67, y 68, y 69, y 70, y 71, y 72, y 73, y 74, y 75, y 76, y 77, y 78, y 79, y 80, y 81, y 82, y 83, y 84, y 85, y 86, y 87, y 88, y 89, y 90, y 91, y 92, y 93, y 94, y 95, y 96, y 97, y 98, y 99, y 100, y 101, y 102, y 103, y 104, y 105, y 106, y 107, y 108, y 109, y 110, y 111, y 112, y 113, y 114, y 115, y 116, y 117, y 118, y 119] := ⟨fun j => T'.getD j undef, hT'⟩
    clear hT'
    (first | apply wpK_seq | apply wpK_block | apply wpK_skip | apply wpK_label | apply wpK_ret | apply wpK_exit | apply opsK_nil)
    (apply wpK_region; simp only [List.size_toArray, List.length_cons, List.length_nil, Nat.reduceAdd, Nat.zero_add, List.range, List.range.loop])
    have m1 : (k1.set b1 (.mapIter (some mr) cr seen cr)).own mr = some (.map er cr) := (x1.set_new n1 _).own _ _ om
    refine opsK_next rfl (by rfl) rfl rfl (Kn.set_same _ _ _) m1 hr2 ?_ ?_
    · intro hrem
      walk_nrm
      refine goF ?_
      refine ⟨x1.set_new n1 _, fun s hR => ?_, _, rfl, rfl⟩
      obtain ⟨e, he, hk⟩ : ∃ e ∈ er.toList, e.key = .string s := by
        cases hg : mgetL er.toList s with
        | none => rw [hr3 s] at hg; exact absurd hg hR
        | some u => obtain ⟨e, he, hk, _⟩ := mgetL_some hg; exact ⟨e, he, hk⟩
      exact hs e he (by rw [hrem]; simp) s hk
    · intro e he
      rw [Kn.set_set]
      have hem := (remL_mem.1 he).1
      obtain ⟨s, hk⟩ := hr2.str e hem
      have hpush := remL_push hr2 he
      have x2 : k0.Ext (k1.set b1 (.mapIter (some mr) cr (seen.push e.born) cr)) := x1.set_new n1 _
      have ho4 : (k1.set b1 (.mapIter (some mr) cr (seen.push e.born) cr)).own b1 = some (.mapIter (some mr) cr (seen.push e.born) cr) := Kn.set_same _ _ _
      generalize hk2 : k1.set b1 (.mapIter (some mr) cr (seen.push e.born) cr) = k2 at *
      have hB2 := x2.own _ _ oB
      have hT2 := x2.own _ _ oT
      have hl4 := x2.own _ _ ol
      have hr4 := x2.own _ _ om
      have q1 : k2.Has ⟨B, 4, none⟩ (.map (some ml)) := Kn.has_own hB2 rfl
      have q2 : k2.Has ⟨T, 1, none⟩ (.int .i64 bg) := Kn.has_own hT2 rfl
      simp only [hk]
      walk_nrm
      refine goF ?_
      refine opsK_entry rfl (by rfl) rfl rfl ho4 hr4 hr2 hem ?_
      simp only [hk]
      walk_nrm
      refine goF ?_
      by_cases hcf : bg < lastN L s
      · have d1 : decide (lastN L s > bg) = true := by simpa using hcf
        (refine wpK_region_held (fun k' => k2 = k') (by kernel_rfl) ?_; simp only [List.size_toArray, List.length_cons, List.length_nil, Nat.reduceAdd, Nat.zero_add])
        refine tkE 0 ?_
        refine tkE 1 ?_
        refine tkE 2 ?_
        refine tkE 3 ?_
        refine tkE 4 ?_
        refine tkE 6 ?_
        refine tkE 7 ?_
        refine tkE 8 ?_
        refine tkE 9 ?_
        refine tkE 10 ?_
        refine anyK_trip 5 (by kernel_rfl) rfl (by rfl) (exec_lookup1 (kt := 9) (e := 3) (z := intV 0) rfl rfl rfl (by kernel_rfl) (by kernel_rfl) (fun w => by kernel_rfl) hl4 hl2 (last_get hl3 s) ⟨rfl, ?_⟩)
        walk_nrm
        refine tkF 11 ?_
        simp only [d1]
        (refine anyK_done (by kernel_rfl) ?_ _; simp only [thenK, blockK, if_true, if_false, reduceIte, Nat.reduceEqDiff])
        refine goF ?_
        refine conflict_ret (t := 4) (u := 5) (v := .tuple #[intV 0, errV 11]) hB xB (x00.trans x2) hB2 ?_ ?_ ?_ ?_
        · rfl
        · rfl
        · rfl
        intro k' xk
        have hmm := mgetL_of_mem hr2.apart hem hk
        rw [hr3 s] at hmm
        exact .inl ⟨rfl, ⟨s, .inl (by rw [hmm]; simp), hcf⟩, xk⟩
      · have d1 : decide (lastN L s > bg) = false := by simpa using hcf
        (refine wpK_region_held (fun k' => k2 = k') (by kernel_rfl) ?_; simp only [List.size_toArray, List.length_cons, List.length_nil, Nat.reduceAdd, Nat.zero_add])
        refine tkE 0 ?_
        refine tkE 1 ?_
        refine tkE 2 ?_
        refine tkE 3 ?_
        refine tkE 4 ?_
        refine tkE 6 ?_
        refine tkE 7 ?_
        refine tkE 8 ?_
        refine tkE 9 ?_
        refine tkE 10 ?_
        refine anyK_trip 5 (by kernel_rfl) rfl (by rfl) (exec_lookup1 (kt := 9) (e := 3) (z := intV 0) rfl rfl rfl (by kernel_rfl) (by kernel_rfl) (fun w => by kernel_rfl) hl4 hl2 (last_get hl3 s) ⟨rfl, ?_⟩)
        walk_nrm
        refine tkF 11 ?_
        simp only [d1]
        (refine anyK_done (by kernel_rfl) ?_ _; simp only [thenK, blockK, if_true, if_false, reduceIte, Nat.reduceEqDiff])
        refine goF ?_
        refine ⟨(remL er (seen.push e.born)).length, ?_, seen.push e.born, hk2.symm, rfl, fun e' he' hn s' hk' => ?_, _, rfl, rfl⟩
        · simp [WellFoundedRelation.rel, measure, invImage, InvImage]
          omega
        · by_cases h' : e' ∈ remL er seen
          · have : e'.key = e.key := by
              rcases Classical.em (e'.key = e.key) with h | h
              · exact h
              · exact absurd ((hpush.2 e').2 ⟨h', h⟩) hn
            rw [hk', hk] at this
            cases this
            omega
          · exact hs e' he' h' s' hk'
  · rintro _ k3 ⟨x3, hR, T3, rfl, hT3⟩
    obtain ⟨y, rfl⟩ : ∃ y : Nat → Value, T3 = #[.pointer (some ⟨B, 0, none⟩), .pointer (some ⟨T, 0, none⟩), y 2, y 3, y 4, y 5, y 6, y 7, y 8, y 9, y 10, y 11, y 12, y 13, y 14, y 15, y 16, y 17, y 18, y 19, y 20, y 21, y 22, y 23, y 24, y 25, y 26, y 27, y 28, y 29, y 30, y 31, y 32, y 33, y 34, y 35, y 36, y 37, y 38, y 39, y 40, y 41, y 42, y 43, y 44, y 45, y 46, y 47, y 48, y 49, y 50, y 51, y 52, y 53, y 54, y 55, y 56, y 57, y 58, y 59, y 60, y 61, y 62, y 63, y 64, y 65, y 66, y 67, y 68, y 69, y 70, y 71, y 72, y 73, y 74, y 75, y 76, y 77, y 78, y 79, y 80, y 81, y 82, y 83, y 84, y 85, y 86, y 87, y 88, y 89, y 90, y 91, y 92, y 93, y 94, y 95, y 96, y 97, y 98, y 99, y 100, y 101, y 102, y 103, y 104, y 105, y 106, y 107, y 108, y 109, y 110, y 111, y 112, y 113, y 114, y 115, y 116, y 117, y 118, y 119] := ⟨fun j => T3.getD j undef, hT3⟩
    clear hT3 om
    replace oB := x3.own _ _ oB
    replace oT := x3.own _ _ oT
    replace ol := x3.own _ _ ol
    have om := x3.own _ _ (xB.own _ _ (Ne.symm nBc) hc1)
    have h3 : k3.Has ⟨T, 4, none⟩ (.map (some mc)) := Kn.has_own oT rfl
    repeat (first | (apply wpK_region; simp only [List.size_toArray, List.length_cons, List.length_nil, Nat.reduceAdd, Nat.zero_add, List.range, List.range.loop]) | ((first | refine opsK_max rfl (by rfl) rfl rfl rfl ?_ | refine opsK_eqNil rfl (by rfl) rfl rfl (by kernel_rfl) ?_ | refine opsK_neNil rfl (by rfl) rfl rfl (by kernel_rfl) ?_); try simp only [Option.isNone_none, Option.isNone_some, Bool.not_true, Bool.not_false]; try walk_nrm) | (co_applyP opsK_pure_k rfl (by rfl) ?_ ?_ ?_; (focus (intro _ K hK; go_simp; exact hK)); (focus (first | (exact fun _ => ev_int rfl rfl rfl rfl) | (exact fun _ => ev_str rfl rfl rfl) | (exact fun _ => ev_build rfl) | (exact fun _ => ev_lenS rfl rfl) | (exact fun _ => ev_lenL rfl rfl) | (exact fun _ => ev_mkI rfl) | (intro _; simp [go_sem, *]; done))); try walk_nrm) | (co_applyP opsK_load1 rfl (by rfl) rfl rfl ?_ ?_ ?_; (focus (intro _; go_simp)); (focus (exact h3)); try walk_nrm) | ((first | apply wpK_seq | apply wpK_block | apply wpK_skip | apply wpK_label | apply wpK_ret | apply wpK_exit | apply opsK_nil); try simp only [thenK, blockK, if_true, if_false, reduceIte, Nat.reduceEqDiff]) | (refine wpK_cond rfl ?_; simp only [if_true, if_false, reduceIte, Bool.false_eq_true]) | (refine opsK_unwanted rfl (by rfl) ?_; try walk_nrm))
    refine opsK_range (kt := 9) (e := 94) rfl (by rfl) rfl rfl (by kernel_rfl) om ?_
    (intro b4 hb4; refine hb4.pack (M := fun k1 => OpsK _ _ _ _ _ _ _ k1) _ ?_; intro k4 x4 o4 n4; try simp only [Value.cells] at o4); walk_nrm
    refine opsK_nil ?_
    simp only [thenK, blockK, if_true, if_false, reduceIte, Nat.reduceEqDiff]
    refine wpK_mid (M := fun a' k' => k3.Ext k' ∧ (∀ s, C s ≠ none → lastN L s ≤ bg) ∧ ∃ T' : Array Value, a' = ⟨T', [dcall 53 #[.pointer (some ⟨B, 0, none⟩)]]⟩ ∧ T' = #[.pointer (some ⟨B, 0, none⟩), .pointer (some ⟨T, 0, none⟩), (fun j => T'.getD j undef) 2, (fun j => T'.getD j undef) 3, (fun j => T'.getD j undef) 4, (fun j => T'.getD j undef) 5, (fun j => T'.getD j undef) 6, (fun j => T'.getD j undef) 7, (fun j => T'.getD j undef) 8, (fun j => T'.getD j undef) 9, (fun j => T'.getD j undef) 10, (fun j => T'.getD j undef) 11, (fun j => T'.getD j undef) 12, (fun j => T'.getD j undef) 13, (fun j => T'.getD j undef) 14, (fun j => T'.getD j undef) 15, (fun j => T'.getD j undef) 16, (fun j => T'.getD j undef) 17, (fun j => T'.getD j undef) 18, (fun j => T'.getD j undef) 19, (fun j => T'.getD j undef) 20, (fun j => T'.getD j undef) 21, (fun j => T'.getD j undef) 22, (fun j => T'.getD j undef) 23, (fun j => T'.getD j undef) 24, (fun j => T'.getD j undef) 25, (fun j => T'.getD j undef) 26, (fun j => T'.getD j undef) 27, (fun j => T'.getD j undef) 28, (fun j => T'.getD j undef) 29, (fun j => T'.getD j undef) 30, (fun j => T'.getD j undef) 31, (fun j => T'.getD j undef) 32, (fun j => T'.getD j undef) 33, (fun j => T'.getD j undef) 34, (fun j => T'.getD j undef) 35, (fun j => T'.getD j undef) 36, (fun j => T'.getD j undef) 37, (fun j => T'.getD j undef) 38, (fun j => T'.getD j undef) 39, (fun j => T'.getD j undef) 40, (fun j => T'.getD j undef) 41, (fun j => T'.getD j undef) 42, (fun j => T'.getD j undef) 43, (fun j => T'.getD j undef) 44, (fun j => T'.getD j undef) 45, (fun j => T'.getD j undef) 46, (fun j => T'.getD j undef) 47, (fun j => T'.getD j undef) 48, (fun j => T'.getD j undef) 49, (fun j => T'.getD j undef) 50, (fun j => T'.getD j undef) 51, (fun j => T'.getD j undef) 52, (fun j => T'.getD j undef) 53, (fun j => T'.getD j undef) 54, (fun j => T'.getD j undef) 55, (fun j => T'.getD j undef) 56, (fun j => T'.getD j undef) 57, (fun j => T'.getD j undef) 58, (fun j => T'.getD j undef) 59, (fun j => T'.getD j undef) 60, (fun j => T'.getD j undef) 61, (fun j => T'.getD j undef) 62, (fun j => T'.getD j undef) 63, (fun j => T'.getD j undef) 64, (fun j => T'.getD j undef) 65, (fun j => T'.getD j undef) 66, (fun j => T'.getD j undef) 67, (fun j => T'.getD j undef) 68, (fun j => T'.getD j undef) 69, (fun j => T'.getD j undef) 70, (fun j => T'.getD j undef) 71, (fun j => T'.getD j undef) 72, (fun j => T'.getD j undef) 73, (fun j => T'.getD j undef) 74, (fun j => T'.getD j undef) 75, (fun j => T'.getD j undef) 76, (fun j => T'.getD j undef) 77, (fun j => T'.getD j undef) 78, (fun j => T'.getD j undef) 79, (fun j => T'.getD j undef) 80, (fun j => T'.getD j undef) 81, (fun j => T'.getD j undef) 82, (fun j => T'.getD j undef) 83, (fun j => T'.getD j undef) 84, (fun j => T'.getD j undef) 85, (fun j => T'.getD j undef) 86, (fun j => T'.getD j undef) 87, (fun j => T'.getD j undef) 88, (fun j => T'.getD j undef) 89, (fun j => T'.getD j undef) 90, (fun j => T'.getD j undef) 91, (fun j => T'.getD j undef) 92, (fun j => T'.getD j undef) 93, (fun j => T'.getD j undef) 94, (fun j => T'.getD j undef) 95, (fun j => T'.getD j undef) 96, (fun j => T'.getD j undef) 97, (fun j => T'.getD j undef) 98, (fun j => T'.getD j undef) 99, (fun j => T'.getD j undef) 100, (fun j => T'.getD j undef) 101, (fun j => T'.getD j undef) 102, (fun j => T'.getD j undef) 103, (fun j => T'.getD j undef) 104, (fun j => T'.getD j undef) 105, (fun j => T'.getD j undef) 106, (fun j => T'.getD j undef) 107, (fun j => T'.getD j undef) 108, (fun j => T'.getD j undef) 109, (fun j => T'.getD j undef) 110, (fun j => T'.getD j undef) 111, (fun j => T'.getD j undef) 112, (fun j => T'.getD j undef) 113, (fun j => T'.getD j undef) 114, (fun j => T'.getD j undef) 115, (fun j => T'.getD j undef) 116, (fun j => T'.getD j undef) 117, (fun j => T'.getD j undef) 118, (fun j => T'.getD j undef) 119]) ?_ ?_
    · (first | apply wpK_seq | apply wpK_block | apply wpK_skip | apply wpK_label | apply wpK_ret | apply wpK_exit | apply opsK_nil)
      refine wpK_loop (measure id).wf (I := fun n a' k' => ∃ seen : Array Nat, k' = k4.set b4 (.mapIter (some mc) cc seen cc) ∧ n = (remL ec seen).length ∧ (∀ e ∈ ec.toList, e ∉ remL ec seen → ∀ s, e.key = .string s → lastN L s ≤ bg) ∧
        ∃ T' : Array Value, a' = ⟨T', [dcall 53 #[.pointer (some ⟨B, 0, none⟩)]]⟩ ∧ T' = #[.pointer (some ⟨B, 0, none⟩), .pointer (some ⟨T, 0, none⟩), (fun j => T'.getD j undef) 2, (fun j => T'.getD j undef) 3, (fun j => T'.getD j undef) 4, (fun j => T'.getD j undef) 5, (fun j => T'.getD j undef) 6, (fun j => T'.getD j undef) 7, (fun j => T'.getD j undef) 8, (fun j => T'.getD j undef) 9, (fun j => T'.getD j undef) 10, (fun j => T'.getD j undef) 11, (fun j => T'.getD j undef) 12, (fun j => T'.getD j undef) 13, (fun j => T'.getD j undef) 14, (fun j => T'.getD j undef) 15, (fun j => T'.getD j undef) 16, (fun j => T'.getD j undef) 17, (fun j => T'.getD j undef) 18, (fun j => T'.getD j undef) 19, (fun j => T'.getD j undef) 20, (fun j => T'.getD j undef) 21, (fun j => T'.getD j undef) 22, (fun j => T'.getD j undef) 23, (fun j => T'.getD j undef) 24, (fun j => T'.getD j undef) 25, (fun j => T'.getD j undef) 26, (fun j => T'.getD j undef) 27, (fun j => T'.getD j undef) 28, (fun j => T'.getD j undef) 29, (fun j => T'.getD j undef) 30, (fun j => T'.getD j undef) 31, (fun j => T'.getD j undef) 32, (fun j => T'.getD j undef) 33, (fun j => T'.getD j undef) 34, (fun j => T'.getD j undef) 35, (fun j => T'.getD j undef) 36, (fun j => T'.getD j undef) 37, (fun j => T'.getD j undef) 38, (fun j => T'.getD j undef) 39, (fun j => T'.getD j undef) 40, (fun j => T'.getD j undef) 41, (fun j => T'.getD j undef) 42, (fun j => T'.getD j undef) 43, .pointer (some ⟨b4, 0, none⟩), (fun j => T'.getD j undef) 45, (fun j => T'.getD j undef) 46, (fun j => T'.getD j undef) 47, (fun j => T'.getD j undef) 48, (fun j => T'.getD j undef) 49, (fun j => T'.getD j undef) 50, (fun j => T'.getD j undef) 51, (fun j => T'.getD j undef) 52, (fun j => T'.getD j undef) 53, (fun j => T'.getD j undef) 54, (fun j => T'.getD j undef) 55, (fun j => T'.getD j undef) 56, (fun j => T'.getD j undef) 57, (fun j => T'.getD j undef) 58, (fun j => T'.getD j undef) 59, (fun j => T'.getD j undef) 60, (fun j => T'.getD j undef) 61, (fun j => T'.getD j undef) 62, (fun j => T'.getD j undef) 63, (fun j => T'.getD j undef) 64, (fun j => T'.getD j undef) 65, (fun j => T'.getD j undef) 66, (fun j => T'.getD j undef) 67, (fun j => T'.getD j undef) 68, (fun j => T'.getD j undef) 69, (fun j => T'.getD j undef) 70, (fun j => T'.getD j undef) 71, (fun j => T'.getD j undef) 72, (fun j => T'.getD j undef) 73, (fun j => T'.getD j undef) 74, (fun j => T'.getD j undef) 75, (fun j => T'.getD j undef) 76, (fun j => T'.getD j undef) 77, (fun j => T'.getD j undef) 78, (fun j => T'.getD j undef) 79, (fun j => T'.getD j undef) 80, (fun j => T'.getD j undef) 81, (fun j => T'.getD j undef) 82, (fun j => T'.getD j undef) 83, (fun j => T'.getD j undef) 84, (fun j => T'.getD j undef) 85, (fun j => T'.getD j undef) 86, (fun j => T'.getD j undef) 87, (fun j => T'.getD j undef) 88, (fun j => T'.getD j undef) 89, (fun j => T'.getD j undef) 90, (fun j => T'.getD j undef) 91, (fun j => T'.getD j undef) 92, (fun j => T'.getD j undef) 93, (fun j => T'.getD j undef) 94, (fun j => T'.getD j undef) 95, (fun j => T'.getD j undef) 96, (fun j => T'.getD j undef) 97, (fun j => T'.getD j undef) 98, (fun j => T'.getD j undef) 99, (fun j => T'.getD j undef) 100, (fun j => T'.getD j undef) 101, (fun j => T'.getD j undef) 102, (fun j => T'.getD j undef) 103, (fun j => T'.getD j undef) 104, (fun j => T'.getD j undef) 105, (fun j => T'.getD j undef) 106, (fun j => T'.getD j undef) 107, (fun j => T'.getD j undef) 108, (fun j => T'.getD j undef) 109, (fun j => T'.getD j undef) 110, (fun j => T'.getD j undef) 111, (fun j => T'.getD j undef) 112, (fun j => T'.getD j undef) 113, (fun j => T'.getD j undef) 114, (fun j => T'.getD j undef) 115, (fun j => T'.getD j undef) 116, (fun j => T'.getD j undef) 117, (fun j => T'.getD j undef) 118, (fun j => T'.getD j undef) 119]) (x := ec.toList.length) ⟨#[], (Kn.set_id o4).symm, by rw [remL_nil], fun e he hn => absurd (by rw [remL_nil]; exact he) hn, _, rfl, rfl⟩ ?_
      rintro n _ _ ⟨seen, rfl, rfl, hs, T', rfl, hT'⟩
      obtain ⟨y, rfl⟩ : ∃ y : Nat → Value, T' = #[.pointer (some ⟨B, 0, none⟩), .pointer (some ⟨T, 0, none⟩), y 2, y 3, y 4, y 5, y 6, y 7, y 8, y 9, y 10, y 11, y 12, y 13, y 14, y 15, y 16, y 17, y 18, y 19, y 20, y 21, y 22, y 23, y 24, y 25, y 26, y 27, y 28, y 29, y 30, y 31, y 32, y 33, y 34, y 35, y 36, y 37, y 38, y 39, y 40, y 41, y 42, y 43, .pointer (some ⟨b4, 0, none⟩), y 45, y 46, y 47, y 48, y 49, y 50, y 51, y 52, y 53, y 54, y 55, y 56, y 57, y 58, y 59, y 60, y 61, y 62, y 63, y 64, y 65, y 66, y 67, y 68, y 69, y 70, y 71, y 72, y 73, y 74, y 75, y 76, y 77, y 78, y 79, y 80, y 81, y 82, y 83, y 84, y 85, y 86, y 87, y 88, y 89, y 90, y 91, y 92, y 93, y 94, y 95, y 96, y 97, y 98, y 99, y 100, y 101, y 102, y 103, y 104, y 105, y 106, y 107, y 108, y 109, y 110, y 111, y 112, y 113, y 114, y 115, y 116, y 117, y 118, y 119] := ⟨fun j => T'.getD j undef, hT'⟩
      clear hT'
      (first | apply wpK_seq | apply wpK_block | apply wpK_skip | apply wpK_label | apply wpK_ret | apply wpK_exit | apply opsK_nil)
      (apply wpK_region; simp only [List.size_toArray, List.length_cons, List.length_nil, Nat.reduceAdd, Nat.zero_add, List.range, List.range.loop])
      have m1 : (k4.set b4 (.mapIter (some mc) cc seen cc)).own mc = some (.map ec cc) := (x4.set_new n4 _).own _ _ om
      refine opsK_next rfl (by rfl) rfl rfl (Kn.set_same _ _ _) m1 hc2 ?_ ?_
      · intro hrem
        walk_nrm
        refine goF ?_
        refine ⟨x4.set_new n4 _, fun s hR => ?_, _, rfl, rfl⟩
        obtain ⟨e, he, hk⟩ : ∃ e ∈ ec.toList, e.key = .string s := by
          cases hg : mgetL ec.toList s with
          | none => rw [hc3 s] at hg; exact absurd (by simpa using hg) hR
          | some u => obtain ⟨e, he, hk, _⟩ := mgetL_some hg; exact ⟨e, he, hk⟩
        exact hs e he (by rw [hrem]; simp) s hk
      · intro e he
        rw [Kn.set_set]
        have hem := (remL_mem.1 he).1
        obtain ⟨s, hk⟩ := hc2.str e hem
        have hpush := remL_push hc2 he
        have x2 : k3.Ext (k4.set b4 (.mapIter (some mc) cc (seen.push e.born) cc)) := x4.set_new n4 _
        have ho4 : (k4.set b4 (.mapIter (some mc) cc (seen.push e.born) cc)).own b4 = some (.mapIter (some mc) cc (seen.push e.born) cc) := Kn.set_same _ _ _
        generalize hk2 : k4.set b4 (.mapIter (some mc) cc (seen.push e.born) cc) = k2 at *
        have hB2 := x2.own _ _ oB
        have hT2 := x2.own _ _ oT
        have hl4 := x2.own _ _ ol
        have hr4 := x2.own _ _ om
        have q1 : k2.Has ⟨B, 4, none⟩ (.map (some ml)) := Kn.has_own hB2 rfl
        have q2 : k2.Has ⟨T, 1, none⟩ (.int .i64 bg) := Kn.has_own hT2 rfl
        simp only [hk]
        walk_nrm
        refine goF ?_
        refine opsK_entry rfl (by rfl) rfl rfl ho4 hr4 hc2 hem ?_
        simp only [hk]
        walk_nrm
        refine goF ?_
        by_cases hcf : bg < lastN L s
        · have d1 : decide (lastN L s > bg) = true := by simpa using hcf
          (refine wpK_region_held (fun k' => k2 = k') (by kernel_rfl) ?_; simp only [List.size_toArray, List.length_cons, List.length_nil, Nat.reduceAdd, Nat.zero_add])
          refine tkE 0 ?_
          refine tkE 1 ?_
          refine tkE 2 ?_
          refine tkE 3 ?_
          refine tkE 4 ?_
          refine tkE 6 ?_
          refine tkE 7 ?_
          refine tkE 8 ?_
          refine tkE 9 ?_
          refine tkE 10 ?_
          refine anyK_trip 5 (by kernel_rfl) rfl (by rfl) (exec_lookup1 (kt := 9) (e := 3) (z := intV 0) rfl rfl rfl (by kernel_rfl) (by kernel_rfl) (fun w => by kernel_rfl) hl4 hl2 (last_get hl3 s) ⟨rfl, ?_⟩)
          walk_nrm
          refine tkF 11 ?_
          simp only [d1]
          (refine anyK_done (by kernel_rfl) ?_ _; simp only [thenK, blockK, if_true, if_false, reduceIte, Nat.reduceEqDiff])
          refine goF ?_
          refine conflict_ret (t := 4) (u := 5) (v := .tuple #[intV 0, errV 11]) hB xB (x3.trans x2) hB2 ?_ ?_ ?_ ?_
          · rfl
          · rfl
          · rfl
          intro k' xk
          have hmm := mgetL_of_mem hc2.apart hem hk
          rw [hc3 s] at hmm
          exact .inl ⟨rfl, ⟨s, .inr (fun h => by rw [h] at hmm; cases hmm), hcf⟩, xk⟩
        · have d1 : decide (lastN L s > bg) = false := by simpa using hcf
          (refine wpK_region_held (fun k' => k2 = k') (by kernel_rfl) ?_; simp only [List.size_toArray, List.length_cons, List.length_nil, Nat.reduceAdd, Nat.zero_add])
          refine tkE 0 ?_
          refine tkE 1 ?_
          refine tkE 2 ?_
          refine tkE 3 ?_
          refine tkE 4 ?_
          refine tkE 6 ?_
          refine tkE 7 ?_
          refine tkE 8 ?_
          refine tkE 9 ?_
          refine tkE 10 ?_
          refine anyK_trip 5 (by kernel_rfl) rfl (by rfl) (exec_lookup1 (kt := 9) (e := 3) (z := intV 0) rfl rfl rfl (by kernel_rfl) (by kernel_rfl) (fun w => by kernel_rfl) hl4 hl2 (last_get hl3 s) ⟨rfl, ?_⟩)
          walk_nrm
          refine tkF 11 ?_
          simp only [d1]
          (refine anyK_done (by kernel_rfl) ?_ _; simp only [thenK, blockK, if_true, if_false, reduceIte, Nat.reduceEqDiff])
          refine goF ?_
          refine ⟨(remL ec (seen.push e.born)).length, ?_, seen.push e.born, hk2.symm, rfl, fun e' he' hn s' hk' => ?_, _, rfl, rfl⟩
          · simp [WellFoundedRelation.rel, measure, invImage, InvImage]
            omega
          · by_cases h' : e' ∈ remL ec seen
            · have : e'.key = e.key := by
                rcases Classical.em (e'.key = e.key) with h | h
                · exact h
                · exact absurd ((hpush.2 e').2 ⟨h', h⟩) hn
              rw [hk', hk] at this
              cases this
              omega
            · exact hs e' he' h' s' hk'
    · rintro _ k6 ⟨x6, hC, T6, rfl, hT6⟩
      obtain ⟨y, rfl⟩ : ∃ y : Nat → Value, T6 = #[.pointer (some ⟨B, 0, none⟩), .pointer (some ⟨T, 0, none⟩), y 2, y 3, y 4, y 5, y 6, y 7, y 8, y 9, y 10, y 11, y 12, y 13, y 14, y 15, y 16, y 17, y 18, y 19, y 20, y 21, y 22, y 23, y 24, y 25, y 26, y 27, y 28, y 29, y 30, y 31, y 32, y 33, y 34, y 35, y 36, y 37, y 38, y 39, y 40, y 41, y 42, y 43, y 44, y 45, y 46, y 47, y 48, y 49, y 50, y 51, y 52, y 53, y 54, y 55, y 56, y 57, y 58, y 59, y 60, y 61, y 62, y 63, y 64, y 65, y 66, y 67, y 68, y 69, y 70, y 71, y 72, y 73, y 74, y 75, y 76, y 77, y 78, y 79, y 80, y 81, y 82, y 83, y 84, y 85, y 86, y 87, y 88, y 89, y 90, y 91, y 92, y 93, y 94, y 95, y 96, y 97, y 98, y 99, y 100, y 101, y 102, y 103, y 104, y 105, y 106, y 107, y 108, y 109, y 110, y 111, y 112, y 113, y 114, y 115, y 116, y 117, y 118, y 119] := ⟨fun j => T6.getD j undef, hT6⟩
      clear hT6
      replace oB := x6.own _ _ oB
      replace oT := x6.own _ _ oT
      replace ol := x6.own _ _ ol
      replace om := x6.own _ _ om
      have x06 := x3.trans x6
      have q4 : k6.Has ⟨B, 4, none⟩ (.map (some ml)) := Kn.has_own oB rfl
      have q2 : k6.Has ⟨B, 2, none⟩ (.int .i64 num) := Kn.has_own oB rfl
      have q3 : k6.Has ⟨B, 3, none⟩ (.pointer x) := Kn.has_own oB rfl
      have w1 : IntKind.i64.wrap (num + 1) = num + 1 := wr64 (by omega) (by omega)
      have sK : k6.Ext k6 := Kn.Ext.refl k6
      repeat (first | (apply wpK_region; simp only [List.size_toArray, List.length_cons, List.length_nil, Nat.reduceAdd, Nat.zero_add, List.range, List.range.loop]) | ((first | refine opsK_max rfl (by rfl) rfl rfl rfl ?_ | refine opsK_eqNil rfl (by rfl) rfl rfl (by kernel_rfl) ?_ | refine opsK_neNil rfl (by rfl) rfl rfl (by kernel_rfl) ?_); try simp only [Option.isNone_none, Option.isNone_some, Bool.not_true, Bool.not_false]; try walk_nrm) | (co_applyP opsK_pure_k rfl (by rfl) ?_ ?_ ?_; (focus (intro _ K hK; go_simp; exact hK)); (focus (first | (exact fun _ => ev_int rfl rfl rfl rfl) | (exact fun _ => ev_str rfl rfl rfl) | (exact fun _ => ev_build rfl) | (exact fun _ => ev_lenS rfl rfl) | (exact fun _ => ev_lenL rfl rfl) | (exact fun _ => ev_mkI rfl) | (intro _; simp [go_sem, *]; done))); try walk_nrm) | (co_applyP opsK_load1 rfl (by rfl) rfl rfl ?_ ?_ ?_; (focus (intro _; go_simp)); (focus (exact q4)); try walk_nrm) | ((first | apply wpK_seq | apply wpK_block | apply wpK_skip | apply wpK_label | apply wpK_ret | apply wpK_exit | apply opsK_nil); try simp only [thenK, blockK, if_true, if_false, reduceIte, Nat.reduceEqDiff]) | (refine wpK_cond rfl ?_; simp only [if_true, if_false, reduceIte, Bool.false_eq_true]) | (refine opsK_unwanted rfl (by rfl) ?_; try walk_nrm))
      refine opsK_sure (.bool false) rfl (by rfl) (fun w => by kernel_rfl) (fun w => by kernel_rfl) ?_; walk_nrm
      refine goF ?_
      (refine wpK_region_held (fun k' => k6.Ext k') (by kernel_rfl) ?_; simp only [List.size_toArray, List.length_cons, List.length_nil, Nat.reduceAdd, Nat.zero_add])
      (first | (refine takeK_nil (i := 0) rfl (by rfl) (by kernel_rfl) (by kernel_rfl) (by kernel_rfl) (by first | assumption | exact Kn.Grow.refl _ | rfl) rfl rfl (by kernel_rfl) ?_; try simp only [Option.isNone_none, Option.isNone_some]; try walk_nrm) | (co_applyP takeK_pure (i := 0) rfl (by rfl) (by kernel_rfl) (by kernel_rfl) (by kernel_rfl) (by first | assumption | exact Kn.Grow.refl _ | rfl) ?_ ?_ ?_; (focus (intro _ K hK; go_simp; exact hK)); (focus (first | (exact fun _ => ev_int rfl rfl rfl rfl) | (exact fun _ => ev_str rfl rfl rfl) | (exact fun _ => ev_build rfl) | (exact fun _ => ev_lenS rfl rfl) | (exact fun _ => ev_lenL rfl rfl) | (exact fun _ => ev_mkI rfl) | (intro _; simp [go_sem, *]; done))); try walk_nrm) | (co_applyP takeK_load1 (i := 0) rfl (by rfl) (by kernel_rfl) (by kernel_rfl) (by kernel_rfl) (by first | assumption | exact Kn.Grow.refl _ | rfl) rfl rfl ?_ ?_ ?_; (focus (intro _; go_simp)); (focus (exact fun k' h => h.has q2)); try walk_nrm) | (refine takeK_un (i := 0) rfl (by rfl) (by kernel_rfl) (by kernel_rfl) (by kernel_rfl) (by first | assumption | exact Kn.Grow.refl _ | rfl) ?_; try walk_nrm))
      (first | (refine takeK_nil (i := 1) rfl (by rfl) (by kernel_rfl) (by kernel_rfl) (by kernel_rfl) (by first | assumption | exact Kn.Grow.refl _ | rfl) rfl rfl (by kernel_rfl) ?_; try simp only [Option.isNone_none, Option.isNone_some]; try walk_nrm) | (co_applyP takeK_pure (i := 1) rfl (by rfl) (by kernel_rfl) (by kernel_rfl) (by kernel_rfl) (by first | assumption | exact Kn.Grow.refl _ | rfl) ?_ ?_ ?_; (focus (intro _ K hK; go_simp; exact hK)); (focus (first | (exact fun _ => ev_int rfl rfl rfl rfl) | (exact fun _ => ev_str rfl rfl rfl) | (exact fun _ => ev_build rfl) | (exact fun _ => ev_lenS rfl rfl) | (exact fun _ => ev_lenL rfl rfl) | (exact fun _ => ev_mkI rfl) | (intro _; simp [go_sem, *]; done))); try walk_nrm) | (co_applyP takeK_load1 (i := 1) rfl (by rfl) (by kernel_rfl) (by kernel_rfl) (by kernel_rfl) (by first | assumption | exact Kn.Grow.refl _ | rfl) rfl rfl ?_ ?_ ?_; (focus (intro _; go_simp)); (focus (exact fun k' h => h.has q2)); try walk_nrm) | (refine takeK_un (i := 1) rfl (by rfl) (by kernel_rfl) (by kernel_rfl) (by kernel_rfl) (by first | assumption | exact Kn.Grow.refl _ | rfl) ?_; try walk_nrm))
      (first | (refine takeK_nil (i := 2) rfl (by rfl) (by kernel_rfl) (by kernel_rfl) (by kernel_rfl) (by first | assumption | exact Kn.Grow.refl _ | rfl) rfl rfl (by kernel_rfl) ?_; try simp only [Option.isNone_none, Option.isNone_some]; try walk_nrm) | (co_applyP takeK_pure (i := 2) rfl (by rfl) (by kernel_rfl) (by kernel_rfl) (by kernel_rfl) (by first | assumption | exact Kn.Grow.refl _ | rfl) ?_ ?_ ?_; (focus (intro _ K hK; go_simp; exact hK)); (focus (first | (exact fun _ => ev_int rfl rfl rfl rfl) | (exact fun _ => ev_str rfl rfl rfl) | (exact fun _ => ev_build rfl) | (exact fun _ => ev_lenS rfl rfl) | (exact fun _ => ev_lenL rfl rfl) | (exact fun _ => ev_mkI rfl) | (intro _; simp [go_sem, *]; done))); try walk_nrm) | (co_applyP takeK_load1 (i := 2) rfl (by rfl) (by kernel_rfl) (by kernel_rfl) (by kernel_rfl) (by first | assumption | exact Kn.Grow.refl _ | rfl) rfl rfl ?_ ?_ ?_; (focus (intro _; go_simp)); (focus (exact fun k' h => h.has q2)); try walk_nrm) | (refine takeK_un (i := 2) rfl (by rfl) (by kernel_rfl) (by kernel_rfl) (by kernel_rfl) (by first | assumption | exact Kn.Grow.refl _ | rfl) ?_; try walk_nrm))
      (first | (refine takeK_nil (i := 3) rfl (by rfl) (by kernel_rfl) (by kernel_rfl) (by kernel_rfl) (by first | assumption | exact Kn.Grow.refl _ | rfl) rfl rfl (by kernel_rfl) ?_; try simp only [Option.isNone_none, Option.isNone_some]; try walk_nrm) | (co_applyP takeK_pure (i := 3) rfl (by rfl) (by kernel_rfl) (by kernel_rfl) (by kernel_rfl) (by first | assumption | exact Kn.Grow.refl _ | rfl) ?_ ?_ ?_; (focus (intro _ K hK; go_simp; exact hK)); (focus (first | (exact fun _ => ev_int rfl rfl rfl rfl) | (exact fun _ => ev_str rfl rfl rfl) | (exact fun _ => ev_build rfl) | (exact fun _ => ev_lenS rfl rfl) | (exact fun _ => ev_lenL rfl rfl) | (exact fun _ => ev_mkI rfl) | (intro _; simp [go_sem, *]; done))); try walk_nrm) | (co_applyP takeK_load1 (i := 3) rfl (by rfl) (by kernel_rfl) (by kernel_rfl) (by kernel_rfl) (by first | assumption | exact Kn.Grow.refl _ | rfl) rfl rfl ?_ ?_ ?_; (focus (intro _; go_simp)); (focus (exact fun k' h => h.has q2)); try walk_nrm) | (refine takeK_un (i := 3) rfl (by rfl) (by kernel_rfl) (by kernel_rfl) (by kernel_rfl) (by first | assumption | exact Kn.Grow.refl _ | rfl) ?_; try walk_nrm))
      (first | (refine takeK_nil (i := 4) rfl (by rfl) (by kernel_rfl) (by kernel_rfl) (by kernel_rfl) (by first | assumption | exact Kn.Grow.refl _ | rfl) rfl rfl (by kernel_rfl) ?_; try simp only [Option.isNone_none, Option.isNone_some]; try walk_nrm) | (co_applyP takeK_pure (i := 4) rfl (by rfl) (by kernel_rfl) (by kernel_rfl) (by kernel_rfl) (by first | assumption | exact Kn.Grow.refl _ | rfl) ?_ ?_ ?_; (focus (intro _ K hK; go_simp; exact hK)); (focus (first | (exact fun _ => ev_int rfl rfl rfl rfl) | (exact fun _ => ev_str rfl rfl rfl) | (exact fun _ => ev_build rfl) | (exact fun _ => ev_lenS rfl rfl) | (exact fun _ => ev_lenL rfl rfl) | (exact fun _ => ev_mkI rfl) | (intro _; simp [go_sem, *]; done))); try walk_nrm) | (co_applyP takeK_load1 (i := 4) rfl (by rfl) (by kernel_rfl) (by kernel_rfl) (by kernel_rfl) (by first | assumption | exact Kn.Grow.refl _ | rfl) rfl rfl ?_ ?_ ?_; (focus (intro _; go_simp)); (focus (exact fun k' h => h.has q2)); try walk_nrm) | (refine takeK_un (i := 4) rfl (by rfl) (by kernel_rfl) (by kernel_rfl) (by kernel_rfl) (by first | assumption | exact Kn.Grow.refl _ | rfl) ?_; try walk_nrm))
      (first | (refine takeK_nil (i := 5) rfl (by rfl) (by kernel_rfl) (by kernel_rfl) (by kernel_rfl) (by first | assumption | exact Kn.Grow.refl _ | rfl) rfl rfl (by kernel_rfl) ?_; try simp only [Option.isNone_none, Option.isNone_some]; try walk_nrm) | (co_applyP takeK_pure (i := 5) rfl (by rfl) (by kernel_rfl) (by kernel_rfl) (by kernel_rfl) (by first | assumption | exact Kn.Grow.refl _ | rfl) ?_ ?_ ?_; (focus (intro _ K hK; go_simp; exact hK)); (focus (first | (exact fun _ => ev_int rfl rfl rfl rfl) | (exact fun _ => ev_str rfl rfl rfl) | (exact fun _ => ev_build rfl) | (exact fun _ => ev_lenS rfl rfl) | (exact fun _ => ev_lenL rfl rfl) | (exact fun _ => ev_mkI rfl) | (intro _; simp [go_sem, *]; done))); try walk_nrm) | (co_applyP takeK_load1 (i := 5) rfl (by rfl) (by kernel_rfl) (by kernel_rfl) (by kernel_rfl) (by first | assumption | exact Kn.Grow.refl _ | rfl) rfl rfl ?_ ?_ ?_; (focus (intro _; go_simp)); (focus (exact fun k' h => h.has q2)); try walk_nrm) | (refine takeK_un (i := 5) rfl (by rfl) (by kernel_rfl) (by kernel_rfl) (by kernel_rfl) (by first | assumption | exact Kn.Grow.refl _ | rfl) ?_; try walk_nrm))
      (first | (refine takeK_nil (i := 6) rfl (by rfl) (by kernel_rfl) (by kernel_rfl) (by kernel_rfl) (by first | assumption | exact Kn.Grow.refl _ | rfl) rfl rfl (by kernel_rfl) ?_; try simp only [Option.isNone_none, Option.isNone_some]; try walk_nrm) | (co_applyP takeK_pure (i := 6) rfl (by rfl) (by kernel_rfl) (by kernel_rfl) (by kernel_rfl) (by first | assumption | exact Kn.Grow.refl _ | rfl) ?_ ?_ ?_; (focus (intro _ K hK; go_simp; exact hK)); (focus (first | (exact fun _ => ev_int rfl rfl rfl rfl) | (exact fun _ => ev_str rfl rfl rfl) | (exact fun _ => ev_build rfl) | (exact fun _ => ev_lenS rfl rfl) | (exact fun _ => ev_lenL rfl rfl) | (exact fun _ => ev_mkI rfl) | (intro _; simp [go_sem, *]; done))); try walk_nrm) | (co_applyP takeK_load1 (i := 6) rfl (by rfl) (by kernel_rfl) (by kernel_rfl) (by kernel_rfl) (by first | assumption | exact Kn.Grow.refl _ | rfl) rfl rfl ?_ ?_ ?_; (focus (intro _; go_simp)); (focus (exact fun k' h => h.has q2)); try walk_nrm) | (refine takeK_un (i := 6) rfl (by rfl) (by kernel_rfl) (by kernel_rfl) (by kernel_rfl) (by first | assumption | exact Kn.Grow.refl _ | rfl) ?_; try walk_nrm))
      (first | (refine takeK_nil (i := 7) rfl (by rfl) (by kernel_rfl) (by kernel_rfl) (by kernel_rfl) (by first | assumption | exact Kn.Grow.refl _ | rfl) rfl rfl (by kernel_rfl) ?_; try simp only [Option.isNone_none, Option.isNone_some]; try walk_nrm) | (co_applyP takeK_pure (i := 7) rfl (by rfl) (by kernel_rfl) (by kernel_rfl) (by kernel_rfl) (by first | assumption | exact Kn.Grow.refl _ | rfl) ?_ ?_ ?_; (focus (intro _ K hK; go_simp; exact hK)); (focus (first | (exact fun _ => ev_int rfl rfl rfl rfl) | (exact fun _ => ev_str rfl rfl rfl) | (exact fun _ => ev_build rfl) | (exact fun _ => ev_lenS rfl rfl) | (exact fun _ => ev_lenL rfl rfl) | (exact fun _ => ev_mkI rfl) | (intro _; simp [go_sem, *]; done))); try walk_nrm) | (co_applyP takeK_load1 (i := 7) rfl (by rfl) (by kernel_rfl) (by kernel_rfl) (by kernel_rfl) (by first | assumption | exact Kn.Grow.refl _ | rfl) rfl rfl ?_ ?_ ?_; (focus (intro _; go_simp)); (focus (exact fun k' h => h.has q2)); try walk_nrm) | (refine takeK_un (i := 7) rfl (by rfl) (by kernel_rfl) (by kernel_rfl) (by kernel_rfl) (by first | assumption | exact Kn.Grow.refl _ | rfl) ?_; try walk_nrm))
      (first | (refine takeK_nil (i := 8) rfl (by rfl) (by kernel_rfl) (by kernel_rfl) (by kernel_rfl) (by first | assumption | exact Kn.Grow.refl _ | rfl) rfl rfl (by kernel_rfl) ?_; try simp only [Option.isNone_none, Option.isNone_some]; try walk_nrm) | (co_applyP takeK_pure (i := 8) rfl (by rfl) (by kernel_rfl) (by kernel_rfl) (by kernel_rfl) (by first | assumption | exact Kn.Grow.refl _ | rfl) ?_ ?_ ?_; (focus (intro _ K hK; go_simp; exact hK)); (focus (first | (exact fun _ => ev_int rfl rfl rfl rfl) | (exact fun _ => ev_str rfl rfl rfl) | (exact fun _ => ev_build rfl) | (exact fun _ => ev_lenS rfl rfl) | (exact fun _ => ev_lenL rfl rfl) | (exact fun _ => ev_mkI rfl) | (intro _; simp [go_sem, *]; done))); try walk_nrm) | (co_applyP takeK_load1 (i := 8) rfl (by rfl) (by kernel_rfl) (by kernel_rfl) (by kernel_rfl) (by first | assumption | exact Kn.Grow.refl _ | rfl) rfl rfl ?_ ?_ ?_; (focus (intro _; go_simp)); (focus (exact fun k' h => h.has q2)); try walk_nrm) | (refine takeK_un (i := 8) rfl (by rfl) (by kernel_rfl) (by kernel_rfl) (by kernel_rfl) (by first | assumption | exact Kn.Grow.refl _ | rfl) ?_; try walk_nrm))
      (first | (refine takeK_nil (i := 9) rfl (by rfl) (by kernel_rfl) (by kernel_rfl) (by kernel_rfl) (by first | assumption | exact Kn.Grow.refl _ | rfl) rfl rfl (by kernel_rfl) ?_; try simp only [Option.isNone_none, Option.isNone_some]; try walk_nrm) | (co_applyP takeK_pure (i := 9) rfl (by rfl) (by kernel_rfl) (by kernel_rfl) (by kernel_rfl) (by first | assumption | exact Kn.Grow.refl _ | rfl) ?_ ?_ ?_; (focus (intro _ K hK; go_simp; exact hK)); (focus (first | (exact fun _ => ev_int rfl rfl rfl rfl) | (exact fun _ => ev_str rfl rfl rfl) | (exact fun _ => ev_build rfl) | (exact fun _ => ev_lenS rfl rfl) | (exact fun _ => ev_lenL rfl rfl) | (exact fun _ => ev_mkI rfl) | (intro _; simp [go_sem, *]; done))); try walk_nrm) | (co_applyP takeK_load1 (i := 9) rfl (by rfl) (by kernel_rfl) (by kernel_rfl) (by kernel_rfl) (by first | assumption | exact Kn.Grow.refl _ | rfl) rfl rfl ?_ ?_ ?_; (focus (intro _; go_simp)); (focus (exact fun k' h => h.has q2)); try walk_nrm) | (refine takeK_un (i := 9) rfl (by rfl) (by kernel_rfl) (by kernel_rfl) (by kernel_rfl) (by first | assumption | exact Kn.Grow.refl _ | rfl) ?_; try walk_nrm))
      refine takeK_loadN (i := 10) (vs := [.pointer x]) rfl (by rfl) (by kernel_rfl) (by kernel_rfl) (by kernel_rfl) sK rfl rfl (fun w => by kernel_rfl) (fun w => by kernel_rfl) (fun k' h => reads1 (h.has q3)) ?_
      walk_nrm
      refine tkF 11 ?_
      refine anyK_trip 12 (by kernel_rfl) rfl (by rfl) (exec_alloc (z := .agg #[.int .i64 0, .pointer none]) rfl (fun w => by kernel_rfl) ?_)
      intro b7 hb7
      refine hb7.pack (M := fun k1 => _ ∧ AnyK _ _ _ _ _ _ _ _ _ _ k1) _ ?_
      intro k7 x7 o7 n7
      try simp only [Value.cells] at o7
      refine ⟨x7, ?_⟩
      walk_nrm
      refine anyK_trip 13 (by kernel_rfl) rfl (by rfl) (exec_storeL (c' := #[.int .i64 (num + 1), .pointer x]) rfl rfl (by first | rfl | (rw [w1]; rfl)) rfl (fun w => by kernel_rfl) o7 rfl rfl rfl ?_)
      refine ⟨x7.set_new n7 _, ?_⟩
      have x8 : k6.Ext (k7.set b7 (.cells #[.int .i64 (num + 1), .pointer x] 62)) := x7.set_new n7 _
      have o8 : (k7.set b7 (.cells #[.int .i64 (num + 1), .pointer x] 62)).own b7 = some (.cells #[.int .i64 (num + 1), .pointer x] 62) := Kn.set_same _ _ _
      generalize k7.set b7 (.cells #[.int .i64 (num + 1), .pointer x] 62) = k8 at x8 o8
      walk_nrm
      (refine anyK_done (by kernel_rfl) ?_ _; simp only [thenK, blockK, if_true, if_false, reduceIte, Nat.reduceEqDiff])
      replace oB := x8.own _ _ oB
      replace oT := x8.own _ _ oT
      replace ol := x8.own _ _ ol
      replace om := x8.own _ _ om
      have q5 : k8.Has ⟨T, 4, none⟩ (.map (some mc)) := Kn.has_own oT rfl
      repeat (first | (apply wpK_region; simp only [List.size_toArray, List.length_cons, List.length_nil, Nat.reduceAdd, Nat.zero_add, List.range, List.range.loop]) | ((first | refine opsK_max rfl (by rfl) rfl rfl rfl ?_ | refine opsK_eqNil rfl (by rfl) rfl rfl (by kernel_rfl) ?_ | refine opsK_neNil rfl (by rfl) rfl rfl (by kernel_rfl) ?_); try simp only [Option.isNone_none, Option.isNone_some, Bool.not_true, Bool.not_false]; try walk_nrm) | (co_applyP opsK_pure_k rfl (by rfl) ?_ ?_ ?_; (focus (intro _ K hK; go_simp; exact hK)); (focus (first | (exact fun _ => ev_int rfl rfl rfl rfl) | (exact fun _ => ev_str rfl rfl rfl) | (exact fun _ => ev_build rfl) | (exact fun _ => ev_lenS rfl rfl) | (exact fun _ => ev_lenL rfl rfl) | (exact fun _ => ev_mkI rfl) | (intro _; simp [go_sem, *]; done))); try walk_nrm) | (co_applyP opsK_load1 rfl (by rfl) rfl rfl ?_ ?_ ?_; (focus (intro _; go_simp)); (focus (exact q5)); try walk_nrm) | ((first | apply wpK_seq | apply wpK_block | apply wpK_skip | apply wpK_label | apply wpK_ret | apply wpK_exit | apply opsK_nil); try simp only [thenK, blockK, if_true, if_false, reduceIte, Nat.reduceEqDiff]) | (refine wpK_cond rfl ?_; simp only [if_true, if_false, reduceIte, Bool.false_eq_true]) | (refine opsK_unwanted rfl (by rfl) ?_; try walk_nrm))
      refine opsK_range (kt := 9) (e := 94) rfl (by rfl) rfl rfl (by kernel_rfl) om ?_
      (intro b9 hb9; refine hb9.pack (M := fun k1 => OpsK _ _ _ _ _ _ _ k1) _ ?_; intro k9 x9 o9 n9; try simp only [Value.cells] at o9); walk_nrm
      refine opsK_nil ?_
      simp only [thenK, blockK, if_true, if_false, reduceIte, Nat.reduceEqDiff]
      have x08 := x06.trans x8
      have n97 : b9 ≠ b7 := fun e => by subst e; rw [o8] at n9; cases n9
      have n9l : b9 ≠ ml := fun e => by subst e; rw [ol] at n9; cases n9
      have n9c : b9 ≠ mc := fun e => by subst e; rw [om] at n9; cases n9
      have n9B : b9 ≠ B := fun e => by subst e; rw [oB] at n9; cases n9
      have n7l : b7 ≠ ml := fun e => by subst e; rw [o8] at ol; cases ol
      have n7c : b7 ≠ mc := fun e => by subst e; rw [o8] at om; cases om
      have n7B : b7 ≠ B := fun e => by subst e; rw [o8] at oB; simp at oB
      have kn7 : k.own b7 = none := by
        cases h : k.own b7 with
        | none => rfl
        | some o => rw [(xB.trans x06.x).own _ _ n7B h] at n7; cases n7
      have kn9 : k.own b9 = none := by
        cases h : k.own b9 with
        | none => rfl
        | some o => rw [(xB.trans x08.x).own _ _ n9B h] at n9; cases n9
      have x8' : k.ExtX (· = B) k9 := (xB.trans x08.x).trans x9.x
      replace o8 := x9.own _ _ o8
      replace oB := x9.own _ _ oB
      replace oT := x9.own _ _ oT
      replace ol := x9.own _ _ ol
      replace om := x9.own _ _ om
      have t9 : TrK k9.ro (.pointer x) t := hp.mono x8'.ro
      clear x1 x4 x3 x6 x7 x8 x9 x08 x06 n1 n4 n7 q2 q3 q4 q5 sK h2 h3 x00 o1 o4 o7
      refine wpK_mid (M := fun a' k' => k9.ExtX (fun b => b = b9 ∨ b = b7 ∨ b = ml) k' ∧ (∃ pn tn, k'.own b7 = some (.cells #[.int .i64 (num + 1), pn] 62) ∧ TrK k'.ro pn tn ∧ tn.ok ∧ Srt tn.ents ∧ tn.sz ≤ t.sz + nC ∧ (∀ s, getL tn.ents s = (C s).or (getL t.ents s))) ∧ LastK k' ml (fun s => if (C s).isSome then some (num + 1) else L s) ∧
        ∃ T' : Array Value, a' = ⟨T', [dcall 53 #[.pointer (some ⟨B, 0, none⟩)]]⟩ ∧ T' = #[.pointer (some ⟨B, 0, none⟩), .pointer (some ⟨T, 0, none⟩), (fun j => T'.getD j undef) 2, (fun j => T'.getD j undef) 3, (fun j => T'.getD j undef) 4, (fun j => T'.getD j undef) 5, (fun j => T'.getD j undef) 6, (fun j => T'.getD j undef) 7, .pointer (some ⟨b7, 0, none⟩), (fun j => T'.getD j undef) 9, (fun j => T'.getD j undef) 10, (fun j => T'.getD j undef) 11, (fun j => T'.getD j undef) 12, (fun j => T'.getD j undef) 13, (fun j => T'.getD j undef) 14, (fun j => T'.getD j undef) 15, (fun j => T'.getD j undef) 16, (fun j => T'.getD j undef) 17, (fun j => T'.getD j undef) 18, (fun j => T'.getD j undef) 19, (fun j => T'.getD j undef) 20, (fun j => T'.getD j undef) 21, (fun j => T'.getD j undef) 22, (fun j => T'.getD j undef) 23, (fun j => T'.getD j undef) 24, (fun j => T'.getD j undef) 25, (fun j => T'.getD j undef) 26, (fun j => T'.getD j undef) 27, (fun j => T'.getD j undef) 28, (fun j => T'.getD j undef) 29, (fun j => T'.getD j undef) 30, (fun j => T'.getD j undef) 31, (fun j => T'.getD j undef) 32, (fun j => T'.getD j undef) 33, (fun j => T'.getD j undef) 34, (fun j => T'.getD j undef) 35, (fun j => T'.getD j undef) 36, (fun j => T'.getD j undef) 37, (fun j => T'.getD j undef) 38, (fun j => T'.getD j undef) 39, (fun j => T'.getD j undef) 40, (fun j => T'.getD j undef) 41, (fun j => T'.getD j undef) 42, (fun j => T'.getD j undef) 43, (fun j => T'.getD j undef) 44, (fun j => T'.getD j undef) 45, (fun j => T'.getD j undef) 46, (fun j => T'.getD j undef) 47, (fun j => T'.getD j undef) 48, (fun j => T'.getD j undef) 49, (fun j => T'.getD j undef) 50, (fun j => T'.getD j undef) 51, (fun j => T'.getD j undef) 52, (fun j => T'.getD j undef) 53, (fun j => T'.getD j undef) 54, (fun j => T'.getD j undef) 55, (fun j => T'.getD j undef) 56, (fun j => T'.getD j undef) 57, (fun j => T'.getD j undef) 58, (fun j => T'.getD j undef) 59, (fun j => T'.getD j undef) 60, (fun j => T'.getD j undef) 61, (fun j => T'.getD j undef) 62, (fun j => T'.getD j undef) 63, (fun j => T'.getD j undef) 64, (fun j => T'.getD j undef) 65, (fun j => T'.getD j undef) 66, (fun j => T'.getD j undef) 67, (fun j => T'.getD j undef) 68, (fun j => T'.getD j undef) 69, (fun j => T'.getD j undef) 70, (fun j => T'.getD j undef) 71, (fun j => T'.getD j undef) 72, (fun j => T'.getD j undef) 73, (fun j => T'.getD j undef) 74, (fun j => T'.getD j undef) 75, (fun j => T'.getD j undef) 76, (fun j => T'.getD j undef) 77, (fun j => T'.getD j undef) 78, (fun j => T'.getD j undef) 79, (fun j => T'.getD j undef) 80, (fun j => T'.getD j undef) 81, (fun j => T'.getD j undef) 82, (fun j => T'.getD j undef) 83, (fun j => T'.getD j undef) 84, (fun j => T'.getD j undef) 85, (fun j => T'.getD j undef) 86, (fun j => T'.getD j undef) 87, (fun j => T'.getD j undef) 88, (fun j => T'.getD j undef) 89, (fun j => T'.getD j undef) 90, (fun j => T'.getD j undef) 91, (fun j => T'.getD j undef) 92, (fun j => T'.getD j undef) 93, (fun j => T'.getD j undef) 94, (fun j => T'.getD j undef) 95, (fun j => T'.getD j undef) 96, (fun j => T'.getD j undef) 97, (fun j => T'.getD j undef) 98, (fun j => T'.getD j undef) 99, (fun j => T'.getD j undef) 100, (fun j => T'.getD j undef) 101, (fun j => T'.getD j undef) 102, (fun j => T'.getD j undef) 103, (fun j => T'.getD j undef) 104, (fun j => T'.getD j undef) 105, (fun j => T'.getD j undef) 106, (fun j => T'.getD j undef) 107, (fun j => T'.getD j undef) 108, (fun j => T'.getD j undef) 109, (fun j => T'.getD j undef) 110, (fun j => T'.getD j undef) 111, (fun j => T'.getD j undef) 112, (fun j => T'.getD j undef) 113, (fun j => T'.getD j undef) 114, (fun j => T'.getD j undef) 115, (fun j => T'.getD j undef) 116, (fun j => T'.getD j undef) 117, (fun j => T'.getD j undef) 118, (fun j => T'.getD j undef) 119]) ?_ ?_
      · (first | apply wpK_seq | apply wpK_block | apply wpK_skip | apply wpK_label | apply wpK_ret | apply wpK_exit | apply opsK_nil)
        refine wpK_loop (measure id).wf (I := fun n a' k' => ∃ (seen : Array Nat) (pn : Value) (tn : Tr) (es : Array MapEntry) (c : Nat), k'.own b9 = some (.mapIter (some mc) cc seen cc) ∧ n = (remL ec seen).length ∧
          k'.own b7 = some (.cells #[.int .i64 (num + 1), pn] 62) ∧ TrK k'.ro pn tn ∧ tn.ok ∧ Srt tn.ents ∧ tn.sz + (remL ec seen).length ≤ t.sz + ec.size ∧ k'.own ml = some (.map es c) ∧ MOk es c ∧ k9.ExtX (fun b => b = b9 ∨ b = b7 ∨ b = ml) k' ∧
          (∀ s, (C s = none ∨ ∃ e ∈ remL ec seen, e.key = .string s) → getL tn.ents s = getL t.ents s ∧ mgetL es.toList s = (L s).map intV) ∧
          (∀ e ∈ ec.toList, e ∉ remL ec seen → ∀ s, e.key = .string s → getL tn.ents s = C s ∧ mgetL es.toList s = some (intV (num + 1))) ∧
          ∃ T' : Array Value, a' = ⟨T', [dcall 53 #[.pointer (some ⟨B, 0, none⟩)]]⟩ ∧ T' = #[.pointer (some ⟨B, 0, none⟩), .pointer (some ⟨T, 0, none⟩), (fun j => T'.getD j undef) 2, (fun j => T'.getD j undef) 3, (fun j => T'.getD j undef) 4, (fun j => T'.getD j undef) 5, (fun j => T'.getD j undef) 6, (fun j => T'.getD j undef) 7, .pointer (some ⟨b7, 0, none⟩), (fun j => T'.getD j undef) 9, (fun j => T'.getD j undef) 10, (fun j => T'.getD j undef) 11, (fun j => T'.getD j undef) 12, (fun j => T'.getD j undef) 13, (fun j => T'.getD j undef) 14, (fun j => T'.getD j undef) 15, (fun j => T'.getD j undef) 16, (fun j => T'.getD j undef) 17, (fun j => T'.getD j undef) 18, (fun j => T'.getD j undef) 19, (fun j => T'.getD j undef) 20, (fun j => T'.getD j undef) 21, (fun j => T'.getD j undef) 22, (fun j => T'.getD j undef) 23, (fun j => T'.getD j undef) 24, (fun j => T'.getD j undef) 25, (fun j => T'.getD j undef) 26, (fun j => T'.getD j undef) 27, (fun j => T'.getD j undef) 28, (fun j => T'.getD j undef) 29, (fun j => T'.getD j undef) 30, (fun j => T'.getD j undef) 31, (fun j => T'.getD j undef) 32, (fun j => T'.getD j undef) 33, (fun j => T'.getD j undef) 34, (fun j => T'.getD j undef) 35, (fun j => T'.getD j undef) 36, (fun j => T'.getD j undef) 37, (fun j => T'.getD j undef) 38, (fun j => T'.getD j undef) 39, (fun j => T'.getD j undef) 40, (fun j => T'.getD j undef) 41, (fun j => T'.getD j undef) 42, (fun j => T'.getD j undef) 43, (fun j => T'.getD j undef) 44, (fun j => T'.getD j undef) 45, (fun j => T'.getD j undef) 46, (fun j => T'.getD j undef) 47, (fun j => T'.getD j undef) 48, (fun j => T'.getD j undef) 49, (fun j => T'.getD j undef) 50, (fun j => T'.getD j undef) 51, (fun j => T'.getD j undef) 52, (fun j => T'.getD j undef) 53, (fun j => T'.getD j undef) 54, (fun j => T'.getD j undef) 55, (fun j => T'.getD j undef) 56, (fun j => T'.getD j undef) 57, (fun j => T'.getD j undef) 58, (fun j => T'.getD j undef) 59, (fun j => T'.getD j undef) 60, (fun j => T'.getD j undef) 61, (fun j => T'.getD j undef) 62, (fun j => T'.getD j undef) 63, (fun j => T'.getD j undef) 64, (fun j => T'.getD j undef) 65, (fun j => T'.getD j undef) 66, (fun j => T'.getD j undef) 67, (fun j => T'.getD j undef) 68, (fun j => T'.getD j undef) 69, (fun j => T'.getD j undef) 70, (fun j => T'.getD j undef) 71, (fun j => T'.getD j undef) 72, (fun j => T'.getD j undef) 73, (fun j => T'.getD j undef) 74, (fun j => T'.getD j undef) 75, (fun j => T'.getD j undef) 76, (fun j => T'.getD j undef) 77, (fun j => T'.getD j undef) 78, (fun j => T'.getD j undef) 79, (fun j => T'.getD j undef) 80, (fun j => T'.getD j undef) 81, (fun j => T'.getD j undef) 82, (fun j => T'.getD j undef) 83, (fun j => T'.getD j undef) 84, (fun j => T'.getD j undef) 85, (fun j => T'.getD j undef) 86, .pointer (some ⟨b9, 0, none⟩), (fun j => T'.getD j undef) 88, (fun j => T'.getD j undef) 89, (fun j => T'.getD j undef) 90, (fun j => T'.getD j undef) 91, (fun j => T'.getD j undef) 92, (fun j => T'.getD j undef) 93, (fun j => T'.getD j undef) 94, (fun j => T'.getD j undef) 95, (fun j => T'.getD j undef) 96, (fun j => T'.getD j undef) 97, (fun j => T'.getD j undef) 98, (fun j => T'.getD j undef) 99, (fun j => T'.getD j undef) 100, (fun j => T'.getD j undef) 101, (fun j => T'.getD j undef) 102, (fun j => T'.getD j undef) 103, (fun j => T'.getD j undef) 104, (fun j => T'.getD j undef) 105, (fun j => T'.getD j undef) 106, (fun j => T'.getD j undef) 107, (fun j => T'.getD j undef) 108, (fun j => T'.getD j undef) 109, (fun j => T'.getD j undef) 110, (fun j => T'.getD j undef) 111, (fun j => T'.getD j undef) 112, (fun j => T'.getD j undef) 113, (fun j => T'.getD j undef) 114, (fun j => T'.getD j undef) 115, (fun j => T'.getD j undef) 116, (fun j => T'.getD j undef) 117, (fun j => T'.getD j undef) 118, (fun j => T'.getD j undef) 119]) (x := ec.toList.length)
          ⟨#[], .pointer x, t, el, cl, o9, by rw [remL_nil], o8, t9, ot, st, by rw [remL_nil]; simp, ol, hl2, Kn.ExtX.refl _, fun s _ => ⟨rfl, hl3 s⟩, fun e he hn => absurd (by rw [remL_nil]; exact he) hn, _, rfl, rfl⟩ ?_
        rintro n _ ka ⟨seen, pn, tn, es, c, a9, rfl, a7, at_, aok, asrt, asz, al, aes, ax, hrest, hdone, T', rfl, hT'⟩
        obtain ⟨y, rfl⟩ : ∃ y : Nat → Value, T' = #[.pointer (some ⟨B, 0, none⟩), .pointer (some ⟨T, 0, none⟩), y 2, y 3, y 4, y 5, y 6, y 7, .pointer (some ⟨b7, 0, none⟩), y 9, y 10, y 11, y 12, y 13, y 14, y 15, y 16, y 17, y 18, y 19, y 20, y 21, y 22, y 23, y 24, y 25, y 26, y 27, y 28, y 29, y 30, y 31, y 32, y 33, y 34, y 35, y 36, y 37, y 38, y 39, y 40, y 41, y 42, y 43, y 44, y 45, y 46, y 47, y 48, y 49, y 50, y 51, y 52, y 53, y 54, y 55, y 56, y 57, y 58, y 59, y 60, y 61, y 62, y 63, y 64, y 65, y 66, y 67, y 68, y 69, y 70, y 71, y 72, y 73, y 74, y 75, y 76, y 77, y 78, y 79, y 80, y 81, y 82, y 83, y 84, y 85, y 86, .pointer (some ⟨b9, 0, none⟩), y 88, y 89, y 90, y 91, y 92, y 93, y 94, y 95, y 96, y 97, y 98, y 99, y 100, y 101, y 102, y 103, y 104, y 105, y 106, y 107, y 108, y 109, y 110, y 111, y 112, y 113, y 114, y 115, y 116, y 117, y 118, y 119] := ⟨fun j => T'.getD j undef, hT'⟩
        clear hT'
        (first | apply wpK_seq | apply wpK_block | apply wpK_skip | apply wpK_label | apply wpK_ret | apply wpK_exit | apply opsK_nil)
        (apply wpK_region; simp only [List.size_toArray, List.length_cons, List.length_nil, Nat.reduceAdd, Nat.zero_add, List.range, List.range.loop])
        have am : ka.own mc = some (.map ec cc) := ax.own _ _ (by simp only [not_or]; exact ⟨Ne.symm n9c, Ne.symm n7c, Ne.symm nlc⟩) om
        refine opsK_next rfl (by rfl) rfl rfl a9 am hc2 ?_ ?_
        · intro hrem
          walk_nrm
          refine goF ?_
          have hfin : ∀ s v, C s = some v → getL tn.ents s = C s ∧ mgetL es.toList s = some (intV (num + 1)) := by
            intro s v hv
            have hg := hc3 s
            rw [hv] at hg
            obtain ⟨e, he, hk, _⟩ := mgetL_some hg
            exact hdone e he (by rw [hrem]; simp) s hk
          refine ⟨ax, ⟨pn, tn, a7, at_, aok, asrt, by rw [hrem] at asz; simp at asz; omega, fun s => ?_⟩, ⟨es, c, al, aes, fun s => ?_⟩, _, rfl, rfl⟩
          · cases hv : C s with
            | none => simpa using (hrest s (.inl hv)).1
            | some v => rw [(hfin s v hv).1, hv]; rfl
          · cases hv : C s with
            | none => simpa using (hrest s (.inl hv)).2
            | some v => rw [(hfin s v hv).2]; rfl
        · intro e he
          have hem := (remL_mem.1 he).1
          obtain ⟨s, hk⟩ := hc2.str e hem
          have hpush := remL_push hc2 he
          have hmm := mgetL_of_mem hc2.apart hem hk
          rw [hc3 s] at hmm
          obtain ⟨xv, hxv, hev⟩ := Option.map_eq_some_iff.1 hmm
          have z9 : (ka.set b9 (.mapIter (some mc) cc (seen.push e.born) cc)).own b9 = some (.mapIter (some mc) cc (seen.push e.born) cc) := Kn.set_same _ _ _
          have z7 : (ka.set b9 (.mapIter (some mc) cc (seen.push e.born) cc)).own b7 = some (.cells #[.int .i64 (num + 1), pn] 62) := by rw [Kn.set_ne _ _ (Ne.symm n97)]; exact a7
          have zl : (ka.set b9 (.mapIter (some mc) cc (seen.push e.born) cc)).own ml = some (.map es c) := by rw [Kn.set_ne _ _ (Ne.symm n9l)]; exact al
          have zm : (ka.set b9 (.mapIter (some mc) cc (seen.push e.born) cc)).own mc = some (.map ec cc) := by rw [Kn.set_ne _ _ (Ne.symm n9c)]; exact am
          have zx : k9.ExtX (fun b => b = b9 ∨ b = b7 ∨ b = ml) (ka.set b9 (.mapIter (some mc) cc (seen.push e.born) cc)) := ax.trans (Kn.ExtX.set _ _ _ (.inl rfl))
          have zt : TrK (ka.set b9 (.mapIter (some mc) cc (seen.push e.born) cc)).ro pn tn := at_
          generalize ka.set b9 (.mapIter (some mc) cc (seen.push e.born) cc) = kb at z9 z7 zl zm zx zt ⊢
          clear a7 a9 am al ax
          obtain ⟨pa, rfl⟩ := at_.ptr
          simp only [hk, ← hev]
          walk_nrm
          refine goF ?_
          refine opsK_entry rfl (by rfl) rfl rfl z9 zm hc2 hem ?_
          simp only [hk, ← hev, chV]
          walk_nrm
          refine goF ?_
          refine opsK_alloc (z := .agg #[.int .i64 0, .bool false]) rfl (by rfl) rfl (fun w => by kernel_rfl) ?_
          (intro b10 hb10; refine hb10.pack (M := fun k1 => OpsK _ _ _ _ _ _ _ k1) _ ?_; intro k10 x10 o10 n10; try simp only [Value.cells] at o10); walk_nrm
          refine goF ?_
          refine opsK_storeL (c' := #[.int .i64 xv, .bool false]) rfl (by rfl) rfl rfl rfl rfl (fun w => by kernel_rfl) o10 rfl rfl rfl ?_
          walk_nrm
          have y10 : (k10.set b10 (.cells #[.int .i64 xv, .bool false] 94)).own b10 = some (.cells #[.int .i64 xv, .bool false] 94) := Kn.set_same _ _ _
          have yx : kb.Ext (k10.set b10 (.cells #[.int .i64 xv, .bool false] 94)) := x10.set_new n10 _
          generalize k10.set b10 (.cells #[.int .i64 xv, .bool false] 94) = kc at y10 yx ⊢
          clear x10 o10
          replace z9 := yx.own _ _ z9
          replace z7 := yx.own _ _ z7
          replace zl := yx.own _ _ zl
          replace zx := zx.trans yx.x
          replace zt := zt.mono yx.ro
          have r1 : kc.Has ⟨b10, 1, none⟩ (.bool false) := Kn.has_own y10 rfl
          have r0 : kc.Has ⟨b10, 0, none⟩ (.int .i64 xv) := Kn.has_own y10 rfl
          have r7 : kc.Has ⟨b7, 1, none⟩ (.pointer pa) := Kn.has_own z7 rfl
          repeat (first | (apply wpK_region; simp only [List.size_toArray, List.length_cons, List.length_nil, Nat.reduceAdd, Nat.zero_add, List.range, List.range.loop]) | ((first | refine opsK_max rfl (by rfl) rfl rfl rfl ?_ | refine opsK_eqNil rfl (by rfl) rfl rfl (by kernel_rfl) ?_ | refine opsK_neNil rfl (by rfl) rfl rfl (by kernel_rfl) ?_); try simp only [Option.isNone_none, Option.isNone_some, Bool.not_true, Bool.not_false]; try walk_nrm) | (co_applyP opsK_pure_k rfl (by rfl) ?_ ?_ ?_; (focus (intro _ K hK; go_simp; exact hK)); (focus (first | (exact fun _ => ev_int rfl rfl rfl rfl) | (exact fun _ => ev_str rfl rfl rfl) | (exact fun _ => ev_build rfl) | (exact fun _ => ev_lenS rfl rfl) | (exact fun _ => ev_lenL rfl rfl) | (exact fun _ => ev_mkI rfl) | (intro _; simp [go_sem, *]; done))); try walk_nrm) | (co_applyP opsK_load1 rfl (by rfl) rfl rfl ?_ ?_ ?_; (focus (intro _; go_simp)); (focus (exact r1)); try walk_nrm) | ((first | apply wpK_seq | apply wpK_block | apply wpK_skip | apply wpK_label | apply wpK_ret | apply wpK_exit | apply opsK_nil); try simp only [thenK, blockK, if_true, if_false, reduceIte, Nat.reduceEqDiff]) | (refine wpK_cond rfl ?_; simp only [if_true, if_false, reduceIte, Bool.false_eq_true]) | (refine opsK_unwanted rfl (by rfl) ?_; try walk_nrm))
          refine opsK_loadN (vs := [.pointer pa]) rfl (by rfl) rfl rfl (fun w => by kernel_rfl) (fun w => by kernel_rfl) (reads1 r7) ?_
          walk_nrm
          repeat (first | (apply wpK_region; simp only [List.size_toArray, List.length_cons, List.length_nil, Nat.reduceAdd, Nat.zero_add, List.range, List.range.loop]) | ((first | refine opsK_max rfl (by rfl) rfl rfl rfl ?_ | refine opsK_eqNil rfl (by rfl) rfl rfl (by kernel_rfl) ?_ | refine opsK_neNil rfl (by rfl) rfl rfl (by kernel_rfl) ?_); try simp only [Option.isNone_none, Option.isNone_some, Bool.not_true, Bool.not_false]; try walk_nrm) | (co_applyP opsK_pure_k rfl (by rfl) ?_ ?_ ?_; (focus (intro _ K hK; go_simp; exact hK)); (focus (first | (exact fun _ => ev_int rfl rfl rfl rfl) | (exact fun _ => ev_str rfl rfl rfl) | (exact fun _ => ev_build rfl) | (exact fun _ => ev_lenS rfl rfl) | (exact fun _ => ev_lenL rfl rfl) | (exact fun _ => ev_mkI rfl) | (intro _; simp [go_sem, *]; done))); try walk_nrm) | (co_applyP opsK_load1 rfl (by rfl) rfl rfl ?_ ?_ ?_; (focus (intro _; go_simp)); (focus (exact r0)); try walk_nrm) | ((first | apply wpK_seq | apply wpK_block | apply wpK_skip | apply wpK_label | apply wpK_ret | apply wpK_exit | apply opsK_nil); try simp only [thenK, blockK, if_true, if_false, reduceIte, Nat.reduceEqDiff]) | (refine wpK_cond rfl ?_; simp only [if_true, if_false, reduceIte, Bool.false_eq_true]) | (refine opsK_unwanted rfl (by rfl) ?_; try walk_nrm))
          refine opsK_callv rfl (by rfl) rfl (by first | (walk_nrm; done) | (walk_nrm; rfl)) (mapPut_k s xv tn kc _ zt aok (by omega)) ?_
          rintro _ kd ⟨p', rfl, t', xd⟩
          obtain ⟨pa', rfl⟩ := t'.ptr
          walk_nrm
          refine goF ?_
          refine opsK_storeL (c' := #[.int .i64 (num + 1), .pointer pa']) rfl (by rfl) rfl rfl rfl rfl (fun w => by kernel_rfl) (xd.own _ _ z7) rfl rfl rfl ?_
          walk_nrm
          refine goF ?_
          have v7 : (kd.set b7 (.cells #[.int .i64 (num + 1), .pointer pa'] 62)).own b7 = some (.cells #[.int .i64 (num + 1), .pointer pa'] 62) := Kn.set_same _ _ _
          have vx : kc.ExtX (fun b => b = b9 ∨ b = b7 ∨ b = ml) (kd.set b7 (.cells #[.int .i64 (num + 1), .pointer pa'] 62)) := xd.x.trans (Kn.ExtX.set _ _ _ (.inr (.inl rfl)))
          have v9 : (kd.set b7 (.cells #[.int .i64 (num + 1), .pointer pa'] 62)).own b9 = some (.mapIter (some mc) cc (seen.push e.born) cc) := by rw [Kn.set_ne _ _ n97]; exact xd.own _ _ z9
          have vl : (kd.set b7 (.cells #[.int .i64 (num + 1), .pointer pa'] 62)).own ml = some (.map es c) := by rw [Kn.set_ne _ _ (Ne.symm n7l)]; exact xd.own _ _ zl
          have vt : TrK (kd.set b7 (.cells #[.int .i64 (num + 1), .pointer pa'] 62)).ro (.pointer pa') (putT tn s xv) := t'
          generalize kd.set b7 (.cells #[.int .i64 (num + 1), .pointer pa'] 62) = ke at v7 vx v9 vl vt ⊢
          replace zx := zx.trans vx
          have vB : ke.own B = some (.cells #[.int .i32 1, .int .u32 0, .int .i64 num, .pointer x, .map (some ml)] 64) := zx.own _ _ (by simp only [not_or]; exact ⟨Ne.symm n9B, Ne.symm n7B, nBl⟩) oB
          have sK : ke.ExtX (· = ml) ke := Kn.ExtX.refl ke
          (refine wpK_region_held (fun k' => ke.ExtX (· = ml) k') (by kernel_rfl) ?_; simp only [List.size_toArray, List.length_cons, List.length_nil, Nat.reduceAdd, Nat.zero_add])
          (first | (refine takeK_nil (i := 0) rfl (by rfl) (by kernel_rfl) (by kernel_rfl) (by kernel_rfl) (by first | assumption | exact Kn.Grow.refl _ | rfl) rfl rfl (by kernel_rfl) ?_; try simp only [Option.isNone_none, Option.isNone_some]; try walk_nrm) | (co_applyP takeK_pure (i := 0) rfl (by rfl) (by kernel_rfl) (by kernel_rfl) (by kernel_rfl) (by first | assumption | exact Kn.Grow.refl _ | rfl) ?_ ?_ ?_; (focus (intro _ K hK; go_simp; exact hK)); (focus (first | (exact fun _ => ev_int rfl rfl rfl rfl) | (exact fun _ => ev_str rfl rfl rfl) | (exact fun _ => ev_build rfl) | (exact fun _ => ev_lenS rfl rfl) | (exact fun _ => ev_lenL rfl rfl) | (exact fun _ => ev_mkI rfl) | (intro _; simp [go_sem, *]; done))); try walk_nrm) | (co_applyP takeK_load1 (i := 0) rfl (by rfl) (by kernel_rfl) (by kernel_rfl) (by kernel_rfl) (by first | assumption | exact Kn.Grow.refl _ | rfl) rfl rfl ?_ ?_ ?_; (focus (intro _; go_simp)); (focus (first | exact fun k' h => Kn.has_own (h.own _ _ nBl vB) rfl | exact fun k' h => Kn.has_own (h.own _ _ n7l v7) rfl)); try walk_nrm) | (refine takeK_un (i := 0) rfl (by rfl) (by kernel_rfl) (by kernel_rfl) (by kernel_rfl) (by first | assumption | exact Kn.Grow.refl _ | rfl) ?_; try walk_nrm))
          (first | (refine takeK_nil (i := 1) rfl (by rfl) (by kernel_rfl) (by kernel_rfl) (by kernel_rfl) (by first | assumption | exact Kn.Grow.refl _ | rfl) rfl rfl (by kernel_rfl) ?_; try simp only [Option.isNone_none, Option.isNone_some]; try walk_nrm) | (co_applyP takeK_pure (i := 1) rfl (by rfl) (by kernel_rfl) (by kernel_rfl) (by kernel_rfl) (by first | assumption | exact Kn.Grow.refl _ | rfl) ?_ ?_ ?_; (focus (intro _ K hK; go_simp; exact hK)); (focus (first | (exact fun _ => ev_int rfl rfl rfl rfl) | (exact fun _ => ev_str rfl rfl rfl) | (exact fun _ => ev_build rfl) | (exact fun _ => ev_lenS rfl rfl) | (exact fun _ => ev_lenL rfl rfl) | (exact fun _ => ev_mkI rfl) | (intro _; simp [go_sem, *]; done))); try walk_nrm) | (co_applyP takeK_load1 (i := 1) rfl (by rfl) (by kernel_rfl) (by kernel_rfl) (by kernel_rfl) (by first | assumption | exact Kn.Grow.refl _ | rfl) rfl rfl ?_ ?_ ?_; (focus (intro _; go_simp)); (focus (first | exact fun k' h => Kn.has_own (h.own _ _ nBl vB) rfl | exact fun k' h => Kn.has_own (h.own _ _ n7l v7) rfl)); try walk_nrm) | (refine takeK_un (i := 1) rfl (by rfl) (by kernel_rfl) (by kernel_rfl) (by kernel_rfl) (by first | assumption | exact Kn.Grow.refl _ | rfl) ?_; try walk_nrm))
          (first | (refine takeK_nil (i := 2) rfl (by rfl) (by kernel_rfl) (by kernel_rfl) (by kernel_rfl) (by first | assumption | exact Kn.Grow.refl _ | rfl) rfl rfl (by kernel_rfl) ?_; try simp only [Option.isNone_none, Option.isNone_some]; try walk_nrm) | (co_applyP takeK_pure (i := 2) rfl (by rfl) (by kernel_rfl) (by kernel_rfl) (by kernel_rfl) (by first | assumption | exact Kn.Grow.refl _ | rfl) ?_ ?_ ?_; (focus (intro _ K hK; go_simp; exact hK)); (focus (first | (exact fun _ => ev_int rfl rfl rfl rfl) | (exact fun _ => ev_str rfl rfl rfl) | (exact fun _ => ev_build rfl) | (exact fun _ => ev_lenS rfl rfl) | (exact fun _ => ev_lenL rfl rfl) | (exact fun _ => ev_mkI rfl) | (intro _; simp [go_sem, *]; done))); try walk_nrm) | (co_applyP takeK_load1 (i := 2) rfl (by rfl) (by kernel_rfl) (by kernel_rfl) (by kernel_rfl) (by first | assumption | exact Kn.Grow.refl _ | rfl) rfl rfl ?_ ?_ ?_; (focus (intro _; go_simp)); (focus (first | exact fun k' h => Kn.has_own (h.own _ _ nBl vB) rfl | exact fun k' h => Kn.has_own (h.own _ _ n7l v7) rfl)); try walk_nrm) | (refine takeK_un (i := 2) rfl (by rfl) (by kernel_rfl) (by kernel_rfl) (by kernel_rfl) (by first | assumption | exact Kn.Grow.refl _ | rfl) ?_; try walk_nrm))
          (first | (refine takeK_nil (i := 3) rfl (by rfl) (by kernel_rfl) (by kernel_rfl) (by kernel_rfl) (by first | assumption | exact Kn.Grow.refl _ | rfl) rfl rfl (by kernel_rfl) ?_; try simp only [Option.isNone_none, Option.isNone_some]; try walk_nrm) | (co_applyP takeK_pure (i := 3) rfl (by rfl) (by kernel_rfl) (by kernel_rfl) (by kernel_rfl) (by first | assumption | exact Kn.Grow.refl _ | rfl) ?_ ?_ ?_; (focus (intro _ K hK; go_simp; exact hK)); (focus (first | (exact fun _ => ev_int rfl rfl rfl rfl) | (exact fun _ => ev_str rfl rfl rfl) | (exact fun _ => ev_build rfl) | (exact fun _ => ev_lenS rfl rfl) | (exact fun _ => ev_lenL rfl rfl) | (exact fun _ => ev_mkI rfl) | (intro _; simp [go_sem, *]; done))); try walk_nrm) | (co_applyP takeK_load1 (i := 3) rfl (by rfl) (by kernel_rfl) (by kernel_rfl) (by kernel_rfl) (by first | assumption | exact Kn.Grow.refl _ | rfl) rfl rfl ?_ ?_ ?_; (focus (intro _; go_simp)); (focus (first | exact fun k' h => Kn.has_own (h.own _ _ nBl vB) rfl | exact fun k' h => Kn.has_own (h.own _ _ n7l v7) rfl)); try walk_nrm) | (refine takeK_un (i := 3) rfl (by rfl) (by kernel_rfl) (by kernel_rfl) (by kernel_rfl) (by first | assumption | exact Kn.Grow.refl _ | rfl) ?_; try walk_nrm))
          (first | (refine takeK_nil (i := 4) rfl (by rfl) (by kernel_rfl) (by kernel_rfl) (by kernel_rfl) (by first | assumption | exact Kn.Grow.refl _ | rfl) rfl rfl (by kernel_rfl) ?_; try simp only [Option.isNone_none, Option.isNone_some]; try walk_nrm) | (co_applyP takeK_pure (i := 4) rfl (by rfl) (by kernel_rfl) (by kernel_rfl) (by kernel_rfl) (by first | assumption | exact Kn.Grow.refl _ | rfl) ?_ ?_ ?_; (focus (intro _ K hK; go_simp; exact hK)); (focus (first | (exact fun _ => ev_int rfl rfl rfl rfl) | (exact fun _ => ev_str rfl rfl rfl) | (exact fun _ => ev_build rfl) | (exact fun _ => ev_lenS rfl rfl) | (exact fun _ => ev_lenL rfl rfl) | (exact fun _ => ev_mkI rfl) | (intro _; simp [go_sem, *]; done))); try walk_nrm) | (co_applyP takeK_load1 (i := 4) rfl (by rfl) (by kernel_rfl) (by kernel_rfl) (by kernel_rfl) (by first | assumption | exact Kn.Grow.refl _ | rfl) rfl rfl ?_ ?_ ?_; (focus (intro _; go_simp)); (focus (first | exact fun k' h => Kn.has_own (h.own _ _ nBl vB) rfl | exact fun k' h => Kn.has_own (h.own _ _ n7l v7) rfl)); try walk_nrm) | (refine takeK_un (i := 4) rfl (by rfl) (by kernel_rfl) (by kernel_rfl) (by kernel_rfl) (by first | assumption | exact Kn.Grow.refl _ | rfl) ?_; try walk_nrm))
          (first | (refine takeK_nil (i := 5) rfl (by rfl) (by kernel_rfl) (by kernel_rfl) (by kernel_rfl) (by first | assumption | exact Kn.Grow.refl _ | rfl) rfl rfl (by kernel_rfl) ?_; try simp only [Option.isNone_none, Option.isNone_some]; try walk_nrm) | (co_applyP takeK_pure (i := 5) rfl (by rfl) (by kernel_rfl) (by kernel_rfl) (by kernel_rfl) (by first | assumption | exact Kn.Grow.refl _ | rfl) ?_ ?_ ?_; (focus (intro _ K hK; go_simp; exact hK)); (focus (first | (exact fun _ => ev_int rfl rfl rfl rfl) | (exact fun _ => ev_str rfl rfl rfl) | (exact fun _ => ev_build rfl) | (exact fun _ => ev_lenS rfl rfl) | (exact fun _ => ev_lenL rfl rfl) | (exact fun _ => ev_mkI rfl) | (intro _; simp [go_sem, *]; done))); try walk_nrm) | (co_applyP takeK_load1 (i := 5) rfl (by rfl) (by kernel_rfl) (by kernel_rfl) (by kernel_rfl) (by first | assumption | exact Kn.Grow.refl _ | rfl) rfl rfl ?_ ?_ ?_; (focus (intro _; go_simp)); (focus (first | exact fun k' h => Kn.has_own (h.own _ _ nBl vB) rfl | exact fun k' h => Kn.has_own (h.own _ _ n7l v7) rfl)); try walk_nrm) | (refine takeK_un (i := 5) rfl (by rfl) (by kernel_rfl) (by kernel_rfl) (by kernel_rfl) (by first | assumption | exact Kn.Grow.refl _ | rfl) ?_; try walk_nrm))
          (first | (refine takeK_nil (i := 6) rfl (by rfl) (by kernel_rfl) (by kernel_rfl) (by kernel_rfl) (by first | assumption | exact Kn.Grow.refl _ | rfl) rfl rfl (by kernel_rfl) ?_; try simp only [Option.isNone_none, Option.isNone_some]; try walk_nrm) | (co_applyP takeK_pure (i := 6) rfl (by rfl) (by kernel_rfl) (by kernel_rfl) (by kernel_rfl) (by first | assumption | exact Kn.Grow.refl _ | rfl) ?_ ?_ ?_; (focus (intro _ K hK; go_simp; exact hK)); (focus (first | (exact fun _ => ev_int rfl rfl rfl rfl) | (exact fun _ => ev_str rfl rfl rfl) | (exact fun _ => ev_build rfl) | (exact fun _ => ev_lenS rfl rfl) | (exact fun _ => ev_lenL rfl rfl) | (exact fun _ => ev_mkI rfl) | (intro _; simp [go_sem, *]; done))); try walk_nrm) | (co_applyP takeK_load1 (i := 6) rfl (by rfl) (by kernel_rfl) (by kernel_rfl) (by kernel_rfl) (by first | assumption | exact Kn.Grow.refl _ | rfl) rfl rfl ?_ ?_ ?_; (focus (intro _; go_simp)); (focus (first | exact fun k' h => Kn.has_own (h.own _ _ nBl vB) rfl | exact fun k' h => Kn.has_own (h.own _ _ n7l v7) rfl)); try walk_nrm) | (refine takeK_un (i := 6) rfl (by rfl) (by kernel_rfl) (by kernel_rfl) (by kernel_rfl) (by first | assumption | exact Kn.Grow.refl _ | rfl) ?_; try walk_nrm))
          refine anyK_trip 7 (by kernel_rfl) rfl (by rfl) (exec_mapUpdate (kt := 9) (e := 3) (v := intV (num + 1)) rfl rfl rfl rfl (by kernel_rfl) (by kernel_rfl) vl aes ?_)
          refine ⟨Kn.ExtX.set _ _ _ rfl, ?_⟩
          obtain ⟨es', c', e1, e2, e3, _⟩ := msetA_ok aes s (intV (num + 1))
          rw [e1]
          walk_nrm
          (refine anyK_done (by kernel_rfl) ?_ _; simp only [thenK, blockK, if_true, if_false, reduceIte, Nat.reduceEqDiff])
          refine goF ?_
          refine ⟨(remL ec (seen.push e.born)).length, ?_, seen.push e.born, .pointer pa', putT tn s xv, es', c', ?_, rfl, ?_, vt, putT_ok aok s xv, ?_, ?_, Kn.set_same _ _ _, e2, zx.trans (Kn.ExtX.set _ _ _ (.inr (.inr rfl))), ?_, ?_, _, rfl, rfl⟩
          · simp [WellFoundedRelation.rel, measure, invImage, InvImage]
            omega
          · rw [Kn.set_ne _ _ n9l]; exact v9
          · rw [Kn.set_ne _ _ n7l]; exact v7
          · rw [putT_ents asrt]; exact srt_insL asrt
          · have := putT_sz s xv aok
            omega
          · intro u hu
            have hus : u ≠ s := by
              rintro rfl
              rcases hu with h | ⟨e', he', hk'⟩
              · rw [h] at hxv; cases hxv
              · exact ((hpush.2 e').1 he').2 (hk'.trans hk.symm)
            have := hrest u (hu.imp id fun ⟨e', he', hk'⟩ => ⟨e', ((hpush.2 e').1 he').1, hk'⟩)
            rw [putT_ents asrt, getL_insL asrt, if_neg hus, e3 u, if_neg hus]
            exact this
          · intro e' he' hn u hu
            rw [putT_ents asrt, getL_insL asrt, e3 u]
            by_cases hus : u = s
            · subst hus
              rw [if_pos rfl, if_pos rfl]
              exact ⟨hxv.symm, rfl⟩
            · rw [if_neg hus, if_neg hus]
              refine hdone e' he' (fun hr => hn ((hpush.2 e').2 ⟨hr, fun h => ?_⟩)) u hu
              rw [hu, hk] at h
              cases h
              exact hus rfl
      · rintro _ kf ⟨fx, ⟨pn, tn, f7, ft, fok, fsrt, fsz, fget⟩, fL, T7, rfl, hT7⟩
        obtain ⟨y, rfl⟩ : ∃ y : Nat → Value, T7 = #[.pointer (some ⟨B, 0, none⟩), .pointer (some ⟨T, 0, none⟩), y 2, y 3, y 4, y 5, y 6, y 7, .pointer (some ⟨b7, 0, none⟩), y 9, y 10, y 11, y 12, y 13, y 14, y 15, y 16, y 17, y 18, y 19, y 20, y 21, y 22, y 23, y 24, y 25, y 26, y 27, y 28, y 29, y 30, y 31, y 32, y 33, y 34, y 35, y 36, y 37, y 38, y 39, y 40, y 41, y 42, y 43, y 44, y 45, y 46, y 47, y 48, y 49, y 50, y 51, y 52, y 53, y 54, y 55, y 56, y 57, y 58, y 59, y 60, y 61, y 62, y 63, y 64, y 65, y 66, y 67, y 68, y 69, y 70, y 71, y 72, y 73, y 74, y 75, y 76, y 77, y 78, y 79, y 80, y 81, y 82, y 83, y 84, y 85, y 86, y 87, y 88, y 89, y 90, y 91, y 92, y 93, y 94, y 95, y 96, y 97, y 98, y 99, y 100, y 101, y 102, y 103, y 104, y 105, y 106, y 107, y 108, y 109, y 110, y 111, y 112, y 113, y 114, y 115, y 116, y 117, y 118, y 119] := ⟨fun j => T7.getD j undef, hT7⟩
        clear hT7
        obtain ⟨pa, rfl⟩ := ft.ptr
        have fB := fx.own _ _ (by simp only [not_or]; exact ⟨Ne.symm n9B, Ne.symm n7B, nBl⟩) oB
        have g0 : kf.Has ⟨b7, 0, none⟩ (.int .i64 (num + 1)) := Kn.has_own f7 rfl
        have g1 : kf.Has ⟨b7, 1, none⟩ (.pointer pa) := Kn.has_own f7 rfl
        refine goF ?_
        refine opsK_loadN (vs := [.int .i64 (num + 1), .pointer pa]) rfl (by rfl) rfl rfl (fun w => by kernel_rfl) (fun w => by kernel_rfl) (reads2 g0 g1) ?_
        walk_nrm
        refine goF ?_
        refine opsK_storeL (c' := #[.int .i32 1, .int .u32 0, .int .i64 (num + 1), .pointer pa, .map (some ml)]) rfl (by rfl) rfl rfl rfl rfl (fun w => by kernel_rfl) fB rfl rfl rfl ?_
        walk_nrm
        have hB3 : (kf.set B (.cells #[.int .i32 1, .int .u32 0, .int .i64 (num + 1), .pointer pa, .map (some ml)] 64)).own B = some (.cells #[.int .i32 1, .int .u32 0, .int .i64 (num + 1), .pointer pa, .map (some ml)] 64) := Kn.set_same _ _ _
        have g2 : (kf.set B (.cells #[.int .i32 1, .int .u32 0, .int .i64 (num + 1), .pointer pa, .map (some ml)] 64)).Has ⟨b7, 0, none⟩ (.int .i64 (num + 1)) := Kn.has_own (by rw [Kn.set_ne _ _ n7B]; exact f7) rfl
        repeat (first | (apply wpK_region; simp only [List.size_toArray, List.length_cons, List.length_nil, Nat.reduceAdd, Nat.zero_add, List.range, List.range.loop]) | ((first | refine opsK_max rfl (by rfl) rfl rfl rfl ?_ | refine opsK_eqNil rfl (by rfl) rfl rfl (by kernel_rfl) ?_ | refine opsK_neNil rfl (by rfl) rfl rfl (by kernel_rfl) ?_); try simp only [Option.isNone_none, Option.isNone_some, Bool.not_true, Bool.not_false]; try walk_nrm) | (co_applyP opsK_pure_k rfl (by rfl) ?_ ?_ ?_; (focus (intro _ K hK; go_simp; exact hK)); (focus (first | (exact fun _ => ev_int rfl rfl rfl rfl) | (exact fun _ => ev_str rfl rfl rfl) | (exact fun _ => ev_build rfl) | (exact fun _ => ev_lenS rfl rfl) | (exact fun _ => ev_lenL rfl rfl) | (exact fun _ => ev_mkI rfl) | (intro _; simp [go_sem, *]; done))); try walk_nrm) | (co_applyP opsK_load1 rfl (by rfl) rfl rfl ?_ ?_ ?_; (focus (intro _; go_simp)); (focus (exact g2)); try walk_nrm) | ((first | apply wpK_seq | apply wpK_block | apply wpK_skip | apply wpK_label | apply wpK_ret | apply wpK_exit | apply opsK_nil); try simp only [thenK, blockK, if_true, if_false, reduceIte, Nat.reduceEqDiff]) | (refine wpK_cond rfl ?_; simp only [if_true, if_false, reduceIte, Bool.false_eq_true]) | (refine opsK_unwanted rfl (by rfl) ?_; try walk_nrm))
        refine retKD rfl (unlock_k _ B _ 64 hB3 rfl) ?_
        rintro _ _ rfl
        rw [Kn.set_set]
        refine leave2 (t := 4) (u := 5) rfl (.inr ⟨rfl, ?_, .pointer pa, tn, Kn.set_same _ _ _, fL.ext fun o h => by rw [Kn.set_ne _ _ (Ne.symm nBl)]; exact h, ft, fok, fsrt, fget, fsz, ?_⟩)
        · intro s hs
          rcases hs with h | h
          · exact hR s h
          · exact hC s h
        · refine ⟨fun a v h => fx.ro _ _ (x8'.ro _ _ h), fun b o hn h => ?_, fx.oc.trans x8'.oc, fx.deaf.trans x8'.deaf, fx.live.trans x8'.live, fx.gh.trans x8'.gh⟩
          simp only [not_or] at hn
          have hk9 := x8'.own _ _ hn.1 h
          rw [Kn.set_ne _ _ hn.1]
          refine fx.own _ _ ?_ hk9
          simp only [not_or]
          refine ⟨fun e => ?_, fun e => ?_, hn.2⟩
          · subst e; rw [kn9] at h; cases h
          · subst e; rw [kn7] at h; cases h
end Go.Proofs.Ytacfhfeegalmlaa

/- THE SESSION, in company: Commit, perform. -/
namespace Go.Proofs.Ytacfhfeegalmlaa
open Go.Conc
set_option linter.unusedVariables false
set_option linter.unusedSimpArgs false

/-- What Commit comes to. -/
def TCommitTo (k : Kn) (B ml T : Nat) (num bg : Int) (L C : ByteArray → Option Int) (R : ByteArray → Option Value) (t : Tr) (nC : Nat) (v : Value) (k' : Kn) : Prop :=
  ((∀ s, C s = none) ∧ v = .tuple #[intV bg, .nilIface] ∧ k.ExtX (· = T) k') ∨
  ((∃ s, C s ≠ none) ∧ v = .tuple #[intV 0, errV 11] ∧ (∃ s, (R s ≠ none ∨ C s ≠ none) ∧ bg < lastN L s) ∧ k.ExtX (· = T) k') ∨
  ((∃ s, C s ≠ none) ∧ v = .tuple #[intV (num + 1), .nilIface] ∧ (∀ s, R s ≠ none ∨ C s ≠ none → lastN L s ≤ bg) ∧ ∃ p' t', k'.own B = some (.cells (boxC (num + 1) p' (.map (some ml))) 64) ∧ LastK k' ml (fun s => if (C s).isSome then some (num + 1) else L s) ∧
    TrK k'.ro p' t' ∧ t'.ok ∧ Srt t'.ents ∧ (∀ s, getL t'.ents s = (C s).or (getL t.ents s)) ∧ t'.sz ≤ t.sz + nC ∧ k.ExtX (fun b => b = B ∨ b = ml ∨ b = T) k')
set_option maxRecDepth 100000 in
set_option maxHeartbeats 4000000 in
theorem tcommit_k {main : Who} (k : Kn) (B ml T : Nat) (num bg : Int) (p pb : Value) (t : Tr) (L C : ByteArray → Option Int) (R : ByteArray → Option Value) (mr mc nC : Nat)
    (hB : k.own B = some (.cells (boxC num p (.map (some ml))) 64)) (hL : LastK k ml L) (hT : TxnK k T B bg pb R (fun s => (C s).map chV) mr mc nC false) (hp : TrK k.ro p t) (ot : t.ok) (st : Srt t.ents) (hnum : 0 ≤ num ∧ num < 4611686018427387904) (hsz : t.sz + nC < 288230376151711744) (nlr : ml ≠ mr) (nlc : ml ≠ mc) :
    CallsK Try.prog main 13 #[.pointer (some ⟨T, 0, none⟩)] k fun v k' => TCommitTo k B ml T num bg L C R t nC v k' := by
  have h0 : k.Has ⟨T, 0, none⟩ (.pointer (some ⟨B, 0, none⟩)) := Kn.has_own hT.txn rfl
  have h5 : k.Has ⟨T, 5, none⟩ (.bool false) := Kn.has_own hT.txn rfl
  obtain ⟨er, cr, hr1, hr2, hr3⟩ := hT.rd
  obtain ⟨ec, cc, hc1, hc2, hc3, hc4⟩ := hT.ch
  obtain ⟨el, cl, hl1, _⟩ := hL.at_
  have nBT : B ≠ T := fun e => by subst e; have := hT.txn; rw [hB] at this; simp [boxC, txnC] at this
  have nlT : ml ≠ T := fun e => by subst e; have := hT.txn; rw [hl1] at this; cases this
  (refine callsK_of Try.func13 (by first | rfl | kernel_rfl) rfl ?_; simp only [Try.ntmps13, List.size_toArray, List.length_cons, List.length_nil, Nat.reduceAdd, Nat.reduceSub, Array.replicate_succ, Array.replicate_zero, List.push_toArray, List.append_toArray, List.nil_append, List.cons_append])
  repeat (first | (apply wpK_region; simp only [List.size_toArray, List.length_cons, List.length_nil, Nat.reduceAdd, Nat.zero_add, List.range, List.range.loop]) | ((first | refine opsK_max rfl (by rfl) rfl rfl rfl ?_ | refine opsK_eqNil rfl (by rfl) rfl rfl (by kernel_rfl) ?_ | refine opsK_neNil rfl (by rfl) rfl rfl (by kernel_rfl) ?_); try simp only [Option.isNone_none, Option.isNone_some, Bool.not_true, Bool.not_false]; try walk_nrm) | (co_applyP opsK_pure_k rfl (by rfl) ?_ ?_ ?_; (focus (intro _ K hK; go_simp; exact hK)); (focus (first | (exact fun _ => ev_int rfl rfl rfl rfl) | (exact fun _ => ev_str rfl rfl rfl) | (exact fun _ => ev_build rfl) | (exact fun _ => ev_lenS rfl rfl) | (exact fun _ => ev_lenL rfl rfl) | (exact fun _ => ev_mkI rfl) | (intro _; simp [go_sem, *]; done))); try walk_nrm) | (co_applyP opsK_load1 rfl (by rfl) rfl rfl ?_ ?_ ?_; (focus (intro _; go_simp)); (focus (first | exact h0 | exact h5)); try walk_nrm) | ((first | apply wpK_seq | apply wpK_block | apply wpK_skip | apply wpK_label | apply wpK_ret | apply wpK_exit | apply opsK_nil); try simp only [thenK, blockK, if_true, if_false, reduceIte, Nat.reduceEqDiff]) | (refine wpK_cond rfl ?_; simp only [if_true, if_false, reduceIte, Bool.false_eq_true]) | (refine opsK_unwanted rfl (by rfl) ?_; try walk_nrm))
  refine opsK_storeL (c' := txnC B bg pb mr mc true) rfl (by rfl) rfl rfl rfl rfl (fun w => by kernel_rfl) hT.txn rfl rfl rfl ?_
  walk_nrm
  have xT : k.ExtX (· = T) (k.set T (.cells (txnC B bg pb mr mc true) 98)) := Kn.ExtX.set _ _ _ rfl
  have oT : (k.set T (.cells (txnC B bg pb mr mc true) 98)).own T = some (.cells (txnC B bg pb mr mc true) 98) := Kn.set_same _ _ _
  have hT' : TxnK (k.set T (.cells (txnC B bg pb mr mc true) 98)) T B bg pb R (fun s => (C s).map chV) mr mc nC true :=
    ⟨oT, ⟨er, cr, xT.own _ _ (Ne.symm hT.ne1) hr1, hr2, hr3⟩, ⟨ec, cc, xT.own _ _ (Ne.symm hT.ne2) hc1, hc2, hc3, hc4⟩, hT.ne1, hT.ne2, hT.ne3⟩
  have hBo := xT.own _ _ nBT hB
  have hLo : LastK (k.set T (.cells (txnC B bg pb mr mc true) 98)) ml L := hL.ext fun o h => xT.own _ _ nlT h
  have hpo : TrK (k.set T (.cells (txnC B bg pb mr mc true) 98)).ro p t := hp
  have hco := xT.own _ _ (Ne.symm hT.ne2) hc1
  generalize k.set T (.cells (txnC B bg pb mr mc true) 98) = k1 at *
  have g0 : k1.Has ⟨T, 0, none⟩ (.pointer (some ⟨B, 0, none⟩)) := Kn.has_own oT rfl
  have g1 : k1.Has ⟨T, 1, none⟩ (.int .i64 bg) := Kn.has_own oT rfl
  have g4 : k1.Has ⟨T, 4, none⟩ (.map (some mc)) := Kn.has_own oT rfl
  repeat (first | (apply wpK_region; simp only [List.size_toArray, List.length_cons, List.length_nil, Nat.reduceAdd, Nat.zero_add, List.range, List.range.loop]) | ((first | refine opsK_max rfl (by rfl) rfl rfl rfl ?_ | refine opsK_eqNil rfl (by rfl) rfl rfl (by kernel_rfl) ?_ | refine opsK_neNil rfl (by rfl) rfl rfl (by kernel_rfl) ?_); try simp only [Option.isNone_none, Option.isNone_some, Bool.not_true, Bool.not_false]; try walk_nrm) | (co_applyP opsK_pure_k rfl (by rfl) ?_ ?_ ?_; (focus (intro _ K hK; go_simp; exact hK)); (focus (first | (exact fun _ => ev_int rfl rfl rfl rfl) | (exact fun _ => ev_str rfl rfl rfl) | (exact fun _ => ev_build rfl) | (exact fun _ => ev_lenS rfl rfl) | (exact fun _ => ev_lenL rfl rfl) | (exact fun _ => ev_mkI rfl) | (intro _; simp [go_sem, *]; done))); try walk_nrm) | (co_applyP opsK_load1 rfl (by rfl) rfl rfl ?_ ?_ ?_; (focus (intro _; go_simp)); (focus (exact g4)); try walk_nrm) | ((first | apply wpK_seq | apply wpK_block | apply wpK_skip | apply wpK_label | apply wpK_ret | apply wpK_exit | apply opsK_nil); try simp only [thenK, blockK, if_true, if_false, reduceIte, Nat.reduceEqDiff]) | (refine wpK_cond rfl ?_; simp only [if_true, if_false, reduceIte, Bool.false_eq_true]) | (refine opsK_unwanted rfl (by rfl) ?_; try walk_nrm))
  refine opsK_lenMap (kt := 9) (e := 94) rfl (by rfl) rfl rfl (by kernel_rfl) hco ?_
  by_cases hz : ec.size = 0
  · have d1 : decide ((ec.size : Int) = 0) = true := by simp [hz]
    rw [hz]
    walk_nrm
    repeat (first | (apply wpK_region; simp only [List.size_toArray, List.length_cons, List.length_nil, Nat.reduceAdd, Nat.zero_add, List.range, List.range.loop]) | ((first | refine opsK_max rfl (by rfl) rfl rfl rfl ?_ | refine opsK_eqNil rfl (by rfl) rfl rfl (by kernel_rfl) ?_ | refine opsK_neNil rfl (by rfl) rfl rfl (by kernel_rfl) ?_); try simp only [Option.isNone_none, Option.isNone_some, Bool.not_true, Bool.not_false]; try walk_nrm) | (co_applyP opsK_pure_k rfl (by rfl) ?_ ?_ ?_; (focus (intro _ K hK; go_simp; exact hK)); (focus (first | (exact fun _ => ev_int rfl rfl rfl rfl) | (exact fun _ => ev_str rfl rfl rfl) | (exact fun _ => ev_build rfl) | (exact fun _ => ev_lenS rfl rfl) | (exact fun _ => ev_lenL rfl rfl) | (exact fun _ => ev_mkI rfl) | (intro _; simp [go_sem, *]; done))); try walk_nrm) | (co_applyP opsK_load1 rfl (by rfl) rfl rfl ?_ ?_ ?_; (focus (intro _; go_simp)); (focus (exact g1)); try walk_nrm) | ((first | apply wpK_seq | apply wpK_block | apply wpK_skip | apply wpK_label | apply wpK_ret | apply wpK_exit | apply opsK_nil); try simp only [thenK, blockK, if_true, if_false, reduceIte, Nat.reduceEqDiff]) | (refine wpK_cond rfl ?_; simp only [if_true, if_false, reduceIte, Bool.false_eq_true]) | (refine opsK_unwanted rfl (by rfl) ?_; try walk_nrm))
    refine retK2 rfl rfl (.inl ⟨fun s => ?_, rfl, xT⟩)
    have : ec = #[] := Array.size_eq_zero_iff.1 hz
    have h := hc3 s
    rw [this] at h
    simpa [mgetL] using h.symm
  · have d1 : ((ec.size : Int) == 0) = false := beq_eq_false_iff_ne.2 (by omega)
    have hex : ∃ s, C s ≠ none := by
      obtain ⟨e, he⟩ : ∃ e, e ∈ ec.toList := by
        cases hl : ec.toList with
        | nil => exact absurd (by have := congrArg List.length hl; simpa using this) hz
        | cons e l => exact ⟨e, by simp⟩
      obtain ⟨s, hk⟩ := hc2.str e he
      have hmm := mgetL_of_mem hc2.apart he hk
      rw [hc3 s] at hmm
      exact ⟨s, fun h => by rw [h] at hmm; cases hmm⟩
    walk_nrm
    repeat (first | (apply wpK_region; simp only [List.size_toArray, List.length_cons, List.length_nil, Nat.reduceAdd, Nat.zero_add, List.range, List.range.loop]) | ((first | refine opsK_max rfl (by rfl) rfl rfl rfl ?_ | refine opsK_eqNil rfl (by rfl) rfl rfl (by kernel_rfl) ?_ | refine opsK_neNil rfl (by rfl) rfl rfl (by kernel_rfl) ?_); try simp only [Option.isNone_none, Option.isNone_some, Bool.not_true, Bool.not_false]; try walk_nrm) | (co_applyP opsK_pure_k rfl (by rfl) ?_ ?_ ?_; (focus (intro _ K hK; go_simp; exact hK)); (focus (first | (exact fun _ => ev_int rfl rfl rfl rfl) | (exact fun _ => ev_str rfl rfl rfl) | (exact fun _ => ev_build rfl) | (exact fun _ => ev_lenS rfl rfl) | (exact fun _ => ev_lenL rfl rfl) | (exact fun _ => ev_mkI rfl) | (intro _; simp [go_sem, *]; done))); try walk_nrm) | (co_applyP opsK_load1 rfl (by rfl) rfl rfl ?_ ?_ ?_; (focus (intro _; go_simp)); (focus (exact g0)); try walk_nrm) | ((first | apply wpK_seq | apply wpK_block | apply wpK_skip | apply wpK_label | apply wpK_ret | apply wpK_exit | apply opsK_nil); try simp only [thenK, blockK, if_true, if_false, reduceIte, Nat.reduceEqDiff]) | (refine wpK_cond rfl ?_; simp only [if_true, if_false, reduceIte, Bool.false_eq_true]) | (refine opsK_unwanted rfl (by rfl) ?_; try walk_nrm))
    refine opsK_callv rfl (by rfl) rfl (by first | (walk_nrm; done) | (walk_nrm; rfl)) (commit_k k1 B ml T num bg p pb t L C R mr mc nC true hBo hLo hT' hpo ot st hnum hsz nlr nlc) ?_
    intro v k2 hv
    rcases hv with ⟨rfl, hc, hx⟩ | ⟨rfl, hno, p', t', e1, e2, e3, e4, e5, e6, e7, e8⟩
    · walk_nrm
      refine goF ?_
      exact retK2 rfl rfl (.inr (.inl ⟨hex, rfl, hc, xT.trans hx.x⟩))
    · walk_nrm
      refine goF ?_
      exact retK2 rfl rfl (.inr (.inr ⟨hex, rfl, hno, p', t', e1, e2, e3, e4, e5, e6, e7, (xT.mono fun b h => .inr (.inr h)).trans (e8.mono fun b h => h.imp id .inl)⟩))
end Go.Proofs.Ytacfhfeegalmlaa
