/-
  Joined texts: THE SESSION, in company: perform. · THE SESSION, in company: New, Begin, Version.
-/
import Derived.Test.YtacfhfeegalmlaaWW7

/- THE SESSION, in company: perform. -/
namespace Go.Proofs.Ytacfhfeegalmlaa
open Go.Conc
set_option linter.unusedVariables false
set_option linter.unusedSimpArgs false

/-- A slice of n elements of sz cells that stand for ever. -/
structure RoSl (ro : Addr → Option Value) (v : Value) (n sz : Nat) (cs : List Value) : Prop where
  len : cs.length = n * sz
  at_ : ∃ a c, v = .slice a n c ∧ ∀ j u, cs[j]? = some u → ∃ b off, a = some ⟨b, off, none⟩ ∧ ro ⟨b, off + j, none⟩ = some u
theorem RoSl.mono {ro ro' : Addr → Option Value} {v : Value} {n sz : Nat} {cs : List Value} (h : RoSl ro v n sz cs) (hm : ∀ a u, ro a = some u → ro' a = some u) : RoSl ro' v n sz cs :=
  ⟨h.len, h.at_.imp fun a ⟨c, h1, h2⟩ => ⟨c, h1, fun j u hj => let ⟨b, off, e, x⟩ := h2 j u hj; ⟨b, off, e, hm _ _ x⟩⟩⟩
def lookT (t : Tr) (s : ByteArray) : Int := (getT t s).getD (-1)
noncomputable def rdF (l : List ByteArray) : ByteArray → Option Value := l.foldl (fun R s => updB R s (.bool true)) (fun _ => none)
noncomputable def wrF (l : List (ByteArray × Int)) : ByteArray → Option Int := l.foldl (fun C x => updB C x.1 x.2) (fun _ => none)
theorem rdF_snoc (l : List ByteArray) (s : ByteArray) : rdF (l ++ [s]) = updB (rdF l) s (.bool true) := by simp [rdF]
theorem wrF_snoc (l : List (ByteArray × Int)) (x : ByteArray × Int) : wrF (l ++ [x]) = updB (wrF l) x.1 x.2 := by simp [wrF]
theorem take_snoc {α : Type} {l : List α} {i : Nat} {x : α} (h : l[i]? = some x) : l.take (i + 1) = l.take i ++ [x] := by rw [List.take_add_one, h]; rfl
/-- The cells of written pairs. -/
def namedC (l : List (ByteArray × Int)) : List Value := l.flatMap fun x => [.string x.1, intV x.2]
theorem namedC_get {l : List (ByteArray × Int)} {i : Nat} {x : ByteArray × Int} (h : l[i]? = some x) : (namedC l)[i * 2]? = some (.string x.1) ∧ (namedC l)[i * 2 + 1]? = some (intV x.2) := by
  induction l generalizing i with
  | nil => cases h
  | cons y l ih =>
    have e : namedC (y :: l) = .string y.1 :: intV y.2 :: namedC l := rfl
    rw [e]
    cases i with
    | zero => simp only [List.getElem?_cons_zero, Option.some.injEq] at h; subst h; exact ⟨rfl, rfl⟩
    | succ i =>
      have := ih (i := i) (by simpa using h)
      rw [show (i + 1) * 2 = i * 2 + 1 + 1 by omega]
      simpa using this
/-- A row of one's own that was turned, or a new one: all else of one's own is kept. -/
theorem RowTo.keep {k k' : Kn} {v : Value} {et : TypeId} {sz n : Nat} {vs : List Value} {v' : Value} (h : RowTo k v k' v') (hown : OwnSl k et sz v n vs) {b : Nat} {o : Obj} (hb : k.own b = some o) (ho : ∀ c, o ≠ .cells c et) : k'.own b = some o := by
  obtain ⟨b', o', rfl, _, hn | ⟨m, cap, rfl⟩⟩ := h.is
  · rw [Kn.set_ne _ _ (hn.ne hb)]; exact hb
  · rcases hown.at_ with ⟨e, _⟩ | ⟨b2, cap2, c, e, _, h3, _⟩
    · cases e
    · cases e
      rw [Kn.set_ne _ _ (fun e => by subst e; rw [hb] at h3; exact ho _ (Option.some.inj h3))]
      exact hb
theorem RowTo.rest {k k' : Kn} {v v' : Value} (h : RowTo k v k' v') : k'.ro = k.ro ∧ k'.oc = k.oc ∧ k'.deaf = k.deaf ∧ k'.live = k.live ∧ k'.gh = k.gh := by
  obtain ⟨b', o', rfl, _, _⟩ := h.is
  exact ⟨rfl, rfl, rfl, rfl, rfl⟩
theorem wpK_midB {P : Program} {main : Who} {fn : FuncId} {c : Code} {id : Nat} {M N : Act → Kn → Prop} {Q : Exit → Act → Kn → Prop} {a : Act} {k : Kn} (h : c.wpK P main fn (blockK id (thenK M Q)) a k) (hm : ∀ a k, M a k → N a k) : c.wpK P main fn (blockK id (thenK N Q)) a k :=
  wpK_mono h fun e a k q => by
    cases e with
    | normal => exact hm _ _ q
    | exit i =>
      simp only [blockK] at q ⊢
      split
      · rename_i e; rw [if_pos e] at q; exact hm _ _ q
      · rename_i e; rw [if_neg e] at q; exact q
    | _ => exact q
/-- Seen from further back, where the row is not known. -/
theorem RowTo.extX {S : Nat → Prop} {k k3 k4 : Kn} {v v' : Value} (h : RowTo k3 v k4 v') (x : k.ExtX S k3) (hS : ∀ b, S b → k3.own b ≠ none) (hn : ∀ b n c, v = .slice (some ⟨b, 0, none⟩) n c → k.own b = none) :
    k.ExtX S k4 ∧ ∀ b n c, v' = .slice (some ⟨b, 0, none⟩) n c → k.own b = none := by
  obtain ⟨b', o', rfl, ⟨m, cap, rfl⟩, hb⟩ := h.is
  have hk : k.own b' = none := by
    rcases hb with hb | ⟨n, c, rfl⟩
    · cases e : k.own b' with
      | none => rfl
      | some o =>
        by_cases hs : S b'
        · exact absurd hb.own (hS b' hs)
        · have := x.own _ _ hs e
          rw [hb.own] at this
          cases this
    · exact hn b' n c rfl
  refine ⟨⟨x.ro, fun b o hs ho => ?_, x.oc, x.deaf, x.live, x.gh⟩, fun b n c e => ?_⟩
  · rw [Kn.set_ne _ _ (fun e => by subst e; rw [hk] at ho; cases ho)]
    exact x.own _ _ hs ho
  · cases e; exact hk
noncomputable def TI24 : TypeInfo := (Try.prog.info? 24).getD default
def jobC (rv wv : Value) (af : Int) : Array Value := #[rv, wv, .int .i64 af]
/-- What perform comes to. -/
def PerformTo (k : Kn) (T B : Nat) (num : Int) (p : Value) (mr mc : Nat) (t : Tr) (rs : List ByteArray) (ws : List (ByteArray × Int)) (v : Value) (k' : Kn) : Prop :=
  ((∃ s, (s ∈ rs ∨ ∃ x ∈ ws, x.1 = s) ∧ validN s = false) ∧ v = .tuple #[.slice none 0 0, errV 13] ∧ k.ExtX (fun b => b = mr ∨ b = mc) k') ∨
  ((∀ s ∈ rs, validN s = true) ∧ (∀ x ∈ ws, validN x.1 = true) ∧ ∃ sv, v = .tuple #[sv, .nilIface] ∧ OwnSl k' 24 1 sv rs.length (rs.map fun s => intV (lookT t s)) ∧ (∀ b n c, sv = .slice (some ⟨b, 0, none⟩) n c → k.own b = none) ∧
    TxnK k' T B num p (rdF rs) (fun s => (wrF ws s).map chV) mr mc ws.length false ∧ k.ExtX (fun b => b = mr ∨ b = mc) k')
set_option maxRecDepth 100000 in
set_option maxHeartbeats 4000000 in
theorem perform_k {main : Who} (k : Kn) (T B : Nat) (num : Int) (p : Value) (mr mc : Nat) (t : Tr) (rs : List ByteArray) (ws : List (ByteArray × Int)) (rv wv : Value) (af : Int) (hT : TxnK k T B num p (fun _ => none) (fun _ => none) mr mc 0 false) (hp : TrK k.ro p t)
    (hr : RoSl k.ro rv rs.length 1 (rs.map .string)) (hw : RoSl k.ro wv ws.length 2 (namedC ws)) (hrn : rs.length < 1099511627776) (hwn : ws.length < 1099511627776) :
    CallsK Try.prog main 46 #[.pointer (some ⟨T, 0, none⟩), .agg (jobC rv wv af)] k fun v k' => PerformTo k T B num p mr mc t rs ws v k' := by
  obtain ⟨ra, rc, rfl, hra⟩ := hr.at_
  obtain ⟨wa, wc, rfl, hwa⟩ := hw.at_
  (refine callsK_of Try.func46 (by first | rfl | kernel_rfl) rfl ?_; simp only [Try.ntmps46, List.size_toArray, List.length_cons, List.length_nil, Nat.reduceAdd, Nat.reduceSub, Array.replicate_succ, Array.replicate_zero, List.push_toArray, List.append_toArray, List.nil_append, List.cons_append])
  (first | apply wpK_seq | apply wpK_block | apply wpK_skip | apply wpK_label | apply wpK_ret | apply wpK_exit | apply opsK_nil)
  (apply wpK_region; simp only [List.size_toArray, List.length_cons, List.length_nil, Nat.reduceAdd, Nat.zero_add, List.range, List.range.loop])
  refine opsK_box rfl (by rfl) rfl rfl ?_
  (intro b1 hb1; refine hb1.pack (M := fun k1 => OpsK _ _ _ _ _ _ _ k1) _ ?_; intro k1 x1 o1 n1; try simp only [Value.cells] at o1); walk_nrm
  have o1 : k1.own b1 = some (.cells #[.slice ra rs.length rc, .slice wa ws.length wc, .int .i64 af] 119) := o1
  have q0 : k1.Has ⟨b1, 0, none⟩ (.slice ra rs.length rc) := Kn.has_own o1 rfl
  have q1 : k1.Has ⟨b1, 1, none⟩ (.slice wa ws.length wc) := Kn.has_own o1 rfl
  repeat (first | (apply wpK_region; simp only [List.size_toArray, List.length_cons, List.length_nil, Nat.reduceAdd, Nat.zero_add, List.range, List.range.loop]) | ((first | refine opsK_max rfl (by rfl) rfl rfl rfl ?_ | refine opsK_eqNil rfl (by rfl) rfl rfl (by kernel_rfl) ?_ | refine opsK_neNil rfl (by rfl) rfl rfl (by kernel_rfl) ?_); try simp only [Option.isNone_none, Option.isNone_some, Bool.not_true, Bool.not_false]; try walk_nrm) | (co_applyP opsK_pure_k rfl (by rfl) ?_ ?_ ?_; (focus (intro _ K hK; go_simp; exact hK)); (focus (first | (exact fun _ => ev_int rfl rfl rfl rfl) | (exact fun _ => ev_str rfl rfl rfl) | (exact fun _ => ev_build rfl) | (exact fun _ => ev_lenS rfl rfl) | (exact fun _ => ev_lenL rfl rfl) | (exact fun _ => ev_mkI rfl) | (intro _; simp [go_sem, *]; done))); try walk_nrm) | (co_applyP opsK_load1 rfl (by rfl) rfl rfl ?_ ?_ ?_; (focus (intro _; go_simp)); (focus (exact q0)); try walk_nrm) | ((first | apply wpK_seq | apply wpK_block | apply wpK_skip | apply wpK_label | apply wpK_ret | apply wpK_exit | apply opsK_nil); try simp only [thenK, blockK, if_true, if_false, reduceIte, Nat.reduceEqDiff]) | (refine wpK_cond rfl ?_; simp only [if_true, if_false, reduceIte, Bool.false_eq_true]) | (refine opsK_unwanted rfl (by rfl) ?_; try walk_nrm))
  have n1T : k.own b1 = none := n1
  have nTb : T ≠ b1 := fun e => by subst e; rw [hT.txn] at n1; cases n1
  refine wpK_midB (M := fun a' k' => (∀ s ∈ rs, validN s = true) ∧ k.ExtX (fun b => b = mr ∨ b = mc) k' ∧ k'.own b1 = some (.cells #[.slice ra rs.length rc, .slice wa ws.length wc, .int .i64 af] 119) ∧ TxnK k' T B num p (rdF rs) (fun _ => none) mr mc 0 false ∧
    ∃ sv, OwnSl k' 24 1 sv rs.length (rs.map fun s => intV (lookT t s)) ∧ (∀ b n c, sv = .slice (some ⟨b, 0, none⟩) n c → k.own b = none) ∧ ∃ T' : Array Value, a' = ⟨T', []⟩ ∧ T' = #[.pointer (some ⟨T, 0, none⟩), (fun j => T'.getD j undef) 1, (fun j => T'.getD j undef) 2, .pointer (some ⟨b1, 0, none⟩), (fun j => T'.getD j undef) 4, (fun j => T'.getD j undef) 5, sv, (fun j => T'.getD j undef) 7, (fun j => T'.getD j undef) 8, (fun j => T'.getD j undef) 9, (fun j => T'.getD j undef) 10, (fun j => T'.getD j undef) 11, (fun j => T'.getD j undef) 12, (fun j => T'.getD j undef) 13, (fun j => T'.getD j undef) 14, (fun j => T'.getD j undef) 15, (fun j => T'.getD j undef) 16, (fun j => T'.getD j undef) 17, (fun j => T'.getD j undef) 18, (fun j => T'.getD j undef) 19, (fun j => T'.getD j undef) 20, (fun j => T'.getD j undef) 21, (fun j => T'.getD j undef) 22, (fun j => T'.getD j undef) 23, (fun j => T'.getD j undef) 24, (fun j => T'.getD j undef) 25, (fun j => T'.getD j undef) 26, (fun j => T'.getD j undef) 27, (fun j => T'.getD j undef) 28, (fun j => T'.getD j undef) 29, (fun j => T'.getD j undef) 30, (fun j => T'.getD j undef) 31, (fun j => T'.getD j undef) 32, (fun j => T'.getD j undef) 33, (fun j => T'.getD j undef) 34, (fun j => T'.getD j undef) 35, (fun j => T'.getD j undef) 36, (fun j => T'.getD j undef) 37, (fun j => T'.getD j undef) 38, (fun j => T'.getD j undef) 39, (fun j => T'.getD j undef) 40, (fun j => T'.getD j undef) 41, (fun j => T'.getD j undef) 42, (fun j => T'.getD j undef) 43, (fun j => T'.getD j undef) 44, (fun j => T'.getD j undef) 45, (fun j => T'.getD j undef) 46, (fun j => T'.getD j undef) 47, (fun j => T'.getD j undef) 48, (fun j => T'.getD j undef) 49, (fun j => T'.getD j undef) 50, (fun j => T'.getD j undef) 51, (fun j => T'.getD j undef) 52, (fun j => T'.getD j undef) 53, (fun j => T'.getD j undef) 54, (fun j => T'.getD j undef) 55, (fun j => T'.getD j undef) 56, (fun j => T'.getD j undef) 57, (fun j => T'.getD j undef) 58]) ?_ ?_
  · refine wpK_loop (measure fun i => rs.length - i).wf (I := fun i a' k' => i ≤ rs.length ∧ (∀ s ∈ rs.take i, validN s = true) ∧ k.ExtX (fun b => b = mr ∨ b = mc) k' ∧ k'.own b1 = some (.cells #[.slice ra rs.length rc, .slice wa ws.length wc, .int .i64 af] 119) ∧ TxnK k' T B num p (rdF (rs.take i)) (fun _ => none) mr mc 0 false ∧
      ∃ sv, OwnSl k' 24 1 sv i ((rs.take i).map fun s => intV (lookT t s)) ∧ (∀ b n c, sv = .slice (some ⟨b, 0, none⟩) n c → k.own b = none) ∧ ∃ T' : Array Value, a' = ⟨T', []⟩ ∧ T' = #[.pointer (some ⟨T, 0, none⟩), (fun j => T'.getD j undef) 1, (fun j => T'.getD j undef) 2, .pointer (some ⟨b1, 0, none⟩), (fun j => T'.getD j undef) 4, (fun j => T'.getD j undef) 5, sv, (fun j => T'.getD j undef) 7, (fun j => T'.getD j undef) 8, (fun j => T'.getD j undef) 9, (fun j => T'.getD j undef) 10, (fun j => T'.getD j undef) 11, (fun j => T'.getD j undef) 12, (fun j => T'.getD j undef) 13, (fun j => T'.getD j undef) 14, (fun j => T'.getD j undef) 15, .slice ra rs.length rc, .int .i64 rs.length, .int .i64 i, (fun j => T'.getD j undef) 19, (fun j => T'.getD j undef) 20, (fun j => T'.getD j undef) 21, (fun j => T'.getD j undef) 22, (fun j => T'.getD j undef) 23, (fun j => T'.getD j undef) 24, (fun j => T'.getD j undef) 25, (fun j => T'.getD j undef) 26, (fun j => T'.getD j undef) 27, (fun j => T'.getD j undef) 28, (fun j => T'.getD j undef) 29, (fun j => T'.getD j undef) 30, (fun j => T'.getD j undef) 31, (fun j => T'.getD j undef) 32, (fun j => T'.getD j undef) 33, (fun j => T'.getD j undef) 34, (fun j => T'.getD j undef) 35, (fun j => T'.getD j undef) 36, (fun j => T'.getD j undef) 37, (fun j => T'.getD j undef) 38, (fun j => T'.getD j undef) 39, (fun j => T'.getD j undef) 40, (fun j => T'.getD j undef) 41, (fun j => T'.getD j undef) 42, (fun j => T'.getD j undef) 43, (fun j => T'.getD j undef) 44, (fun j => T'.getD j undef) 45, (fun j => T'.getD j undef) 46, (fun j => T'.getD j undef) 47, (fun j => T'.getD j undef) 48, (fun j => T'.getD j undef) 49, (fun j => T'.getD j undef) 50, (fun j => T'.getD j undef) 51, (fun j => T'.getD j undef) 52, (fun j => T'.getD j undef) 53, (fun j => T'.getD j undef) 54, (fun j => T'.getD j undef) 55, (fun j => T'.getD j undef) 56, (fun j => T'.getD j undef) 57, (fun j => T'.getD j undef) 58]) (x := 0)
      ⟨Nat.zero_le _, by simp, x1.x, o1, hT.ext x1.own, .slice none 0 0, by simpa using OwnSl.nil k1 24 1, fun b n c h => (by cases h), _, rfl, rfl⟩ ?_
    rintro i _ ka ⟨hi, hv, ax, a1, aT, sv, asv, asn, T', rfl, hT'⟩
    obtain ⟨y, rfl⟩ : ∃ y : Nat → Value, T' = #[.pointer (some ⟨T, 0, none⟩), y 1, y 2, .pointer (some ⟨b1, 0, none⟩), y 4, y 5, sv, y 7, y 8, y 9, y 10, y 11, y 12, y 13, y 14, y 15, .slice ra rs.length rc, .int .i64 rs.length, .int .i64 i, y 19, y 20, y 21, y 22, y 23, y 24, y 25, y 26, y 27, y 28, y 29, y 30, y 31, y 32, y 33, y 34, y 35, y 36, y 37, y 38, y 39, y 40, y 41, y 42, y 43, y 44, y 45, y 46, y 47, y 48, y 49, y 50, y 51, y 52, y 53, y 54, y 55, y 56, y 57, y 58] := ⟨fun j => T'.getD j undef, hT'⟩
    clear hT'
    by_cases hlt : i < rs.length
    · have d1 : decide ((i : Int) < (rs.length : Int)) = true := by simp; omega
      obtain ⟨s, hs⟩ : ∃ s, rs[i]? = some s := ⟨rs[i], List.getElem?_eq_getElem hlt⟩
      obtain ⟨b, off, rfl, hro⟩ := hra i (.string s) (by rw [List.getElem?_map, hs]; rfl)
      have hs1 : ka.Has ⟨b, off + i, none⟩ (.string s) := .inl (ax.ro _ _ hro)
      have htk := take_snoc hs
      have w1 : IntKind.i64.wrap ((i : Int) + 1) = ((i + 1 : Nat) : Int) := by rw [wr64 (by omega) (by omega)]; rfl
      repeat (first | (apply wpK_region; simp only [List.size_toArray, List.length_cons, List.length_nil, Nat.reduceAdd, Nat.zero_add, List.range, List.range.loop]) | ((first | refine opsK_max rfl (by rfl) rfl rfl rfl ?_ | refine opsK_eqNil rfl (by rfl) rfl rfl (by kernel_rfl) ?_ | refine opsK_neNil rfl (by rfl) rfl rfl (by kernel_rfl) ?_); try simp only [Option.isNone_none, Option.isNone_some, Bool.not_true, Bool.not_false]; try walk_nrm) | (co_applyP opsK_pure_k rfl (by rfl) ?_ ?_ ?_; (focus (intro _ K hK; go_simp; exact hK)); (focus (first | (exact fun _ => ev_int rfl rfl rfl rfl) | (exact fun _ => ev_str rfl rfl rfl) | (exact fun _ => ev_build rfl) | (exact fun _ => ev_lenS rfl rfl) | (exact fun _ => ev_lenL rfl rfl) | (exact fun _ => ev_mkI rfl) | (intro _; simp [go_sem, *]; done))); try walk_nrm) | (co_applyP opsK_load1 rfl (by rfl) rfl rfl ?_ ?_ ?_; (focus (intro _; go_simp)); (focus (exact hs1)); try walk_nrm) | ((first | apply wpK_seq | apply wpK_block | apply wpK_skip | apply wpK_label | apply wpK_ret | apply wpK_exit | apply opsK_nil); try simp only [thenK, blockK, if_true, if_false, reduceIte, Nat.reduceEqDiff]) | (refine wpK_cond rfl ?_; simp only [if_true, if_false, reduceIte, Bool.false_eq_true]) | (refine opsK_unwanted rfl (by rfl) ?_; try walk_nrm))
      refine opsK_callv rfl (by rfl) rfl (by first | (walk_nrm; done) | (walk_nrm; rfl)) (check_k ka T B num p mr mc s aT.txn) ?_
      rintro _ _ ⟨rfl, rfl⟩
      cases hvs : validN s with
      | false =>
        simp only [if_false, Bool.false_eq_true]
        walk_nrm
        refine goF ?_
        refine opsK_sure (.bool true) rfl (by rfl) (fun w => by kernel_rfl) (fun w => by kernel_rfl) ?_; walk_nrm
        refine goF ?_
        exact retK2 rfl rfl (.inl ⟨⟨s, .inl (List.mem_of_getElem? hs), hvs⟩, rfl, ax⟩)
      | true =>
        simp only [if_true]
        walk_nrm
        refine goF ?_
        refine opsK_sure (.bool false) rfl (by rfl) (fun w => by kernel_rfl) (fun w => by kernel_rfl) ?_; walk_nrm
        refine goF ?_
        refine opsK_callv rfl (by rfl) rfl (by first | (walk_nrm; done) | (walk_nrm; rfl)) (see_k ka T B num p (rdF (rs.take i)) (fun _ => none) mr mc 0 t s aT (hp.mono ax.ro) rfl) ?_
        rintro _ kb ⟨rfl, bT, bx⟩
        have b1' := bx.own _ _ (show b1 ≠ mr from fun e => by subst e; rw [aT.rd.choose_spec.choose_spec.1] at a1; cases a1) a1
        have bsv : OwnSl kb 24 1 sv i ((rs.take i).map fun s => intV (lookT t s)) := ⟨asv.len, asv.at_.imp id fun ⟨b, cap, c, h1, h2, h3, h4⟩ => ⟨b, cap, c, h1, h2, bx.own _ _ (fun e => by subst e; rw [aT.rd.choose_spec.choose_spec.1] at h3; cases h3) h3, h4⟩⟩
        have bx' := ax.trans (bx.mono fun b (h : b = mr) => Or.inl (b := b = mc) h)
        rw [← rdF_snoc, ← htk] at bT
        -- the text
        have hgv : ∃ vx vb, getV t s = .tuple #[.int .i64 vx, .bool vb] ∧ (if vb then vx else -1) = lookT t s := by
          unfold getV lookT
          cases getT t s with
          | none => exact ⟨0, false, rfl, rfl⟩
          | some v => exact ⟨v, true, rfl, rfl⟩
        obtain ⟨vx, vb, ev, hvb⟩ := hgv
        rw [ev]
        cases vb with
        | true =>
          obtain rfl : vx = lookT t s := hvb
          walk_nrm
          refine goF ?_
          refine opsK_buildSlice1 (e := 24) (sz := 1) (z := intV 0) (v := intV (lookT t s)) rfl (by rfl) rfl rfl (by kernel_rfl) (fun w => by kernel_rfl) (by decide) (by decide) (fun w => by kernel_rfl) rfl rfl ?_
          (intro b3 hb3; refine hb3.pack (M := fun k1 => OpsK _ _ _ _ _ _ _ k1) _ ?_; intro k3 x3 o3 n3; try simp only [Value.cells] at o3); walk_nrm
          have o3 : k3.own b3 = some (.cells #[intV (lookT t s)] 24) := o3
          refine opsK_append1 (e := 24) (sz := 1) (n := i) (z := intV 0) (ti := TI24) (news := [intV (lookT t s)]) rfl (by rfl) rfl rfl rfl (by kernel_rfl) (by kernel_rfl) (by kernel_rfl) (by decide) (fun w => by kernel_rfl) (fun w => by kernel_rfl) rfl (bsv.ext x3.own) (reads1 (Kn.has_own o3 rfl)) rfl rfl (by show (i + 1) * 8 ≤ _; omega) ?_
          intro sv' k4 hsv' hto
          have hke : ∀ {b : Nat} {o : Obj}, k3.own b = some o → (∀ c, o ≠ .cells c 24) → k4.own b = some o := fun hb ho => hto.keep (bsv.ext x3.own) hb ho
          obtain ⟨hro4, hoc4, hd4, hl4, hg4⟩ := hto.rest
          walk_nrm
          refine goF ?_
          have hS : ∀ b, (b = mr ∨ b = mc) → k3.own b ≠ none := by
            rintro b (rfl | rfl)
            · obtain ⟨es, c, h1, _⟩ := (bT.ext x3.own).rd; rw [h1]; simp
            · obtain ⟨es, c, h1, _⟩ := (bT.ext x3.own).ch; rw [h1]; simp
          obtain ⟨hx4, hn4⟩ := hto.extX (bx'.trans x3.x) hS asn
          have hT4 : TxnK k4 T B num p (rdF (rs.take (i + 1))) (fun _ => none) mr mc 0 false :=
            ⟨hke (x3.own _ _ bT.txn) (fun c h => by simp [txnC] at h), by obtain ⟨es, c, h1, h2⟩ := bT.rd; exact ⟨es, c, hke (x3.own _ _ h1) (fun _ h => by cases h), h2⟩, by obtain ⟨es, c, h1, h2⟩ := bT.ch; exact ⟨es, c, hke (x3.own _ _ h1) (fun _ h => by cases h), h2⟩, bT.ne1, bT.ne2, bT.ne3⟩
          refine ⟨i + 1, ?_, by omega, ?_, hx4, hke (x3.own _ _ b1') (fun c h => by simp at h), hT4, sv', ?_, hn4, _, rfl, rfl⟩
          · simp [WellFoundedRelation.rel, measure, invImage, InvImage]; omega
          · rw [htk]
            intro u hu
            rcases List.mem_append.1 hu with h | h
            · exact hv u h
            · simp at h; subst h; exact hvs
          · rw [htk, List.map_append]; exact hsv'
        | false =>
          have hvb : -1 = lookT t s := hvb
          walk_nrm
          refine goF ?_
          refine opsK_buildSlice1 (e := 24) (sz := 1) (z := intV 0) (v := intV (lookT t s)) rfl (by rfl) rfl rfl (by kernel_rfl) (fun w => by kernel_rfl) (by decide) (by decide) (fun w => by kernel_rfl) rfl rfl ?_
          (intro b3 hb3; refine hb3.pack (M := fun k1 => OpsK _ _ _ _ _ _ _ k1) _ ?_; intro k3 x3 o3 n3; try simp only [Value.cells] at o3); walk_nrm
          have o3 : k3.own b3 = some (.cells #[intV (lookT t s)] 24) := o3
          refine opsK_append1 (e := 24) (sz := 1) (n := i) (z := intV 0) (ti := TI24) (news := [intV (lookT t s)]) rfl (by rfl) rfl rfl rfl (by kernel_rfl) (by kernel_rfl) (by kernel_rfl) (by decide) (fun w => by kernel_rfl) (fun w => by kernel_rfl) rfl (bsv.ext x3.own) (reads1 (Kn.has_own o3 rfl)) rfl rfl (by show (i + 1) * 8 ≤ _; omega) ?_
          intro sv' k4 hsv' hto
          have hke : ∀ {b : Nat} {o : Obj}, k3.own b = some o → (∀ c, o ≠ .cells c 24) → k4.own b = some o := fun hb ho => hto.keep (bsv.ext x3.own) hb ho
          obtain ⟨hro4, hoc4, hd4, hl4, hg4⟩ := hto.rest
          walk_nrm
          refine goF ?_
          have hS : ∀ b, (b = mr ∨ b = mc) → k3.own b ≠ none := by
            rintro b (rfl | rfl)
            · obtain ⟨es, c, h1, _⟩ := (bT.ext x3.own).rd; rw [h1]; simp
            · obtain ⟨es, c, h1, _⟩ := (bT.ext x3.own).ch; rw [h1]; simp
          obtain ⟨hx4, hn4⟩ := hto.extX (bx'.trans x3.x) hS asn
          have hT4 : TxnK k4 T B num p (rdF (rs.take (i + 1))) (fun _ => none) mr mc 0 false :=
            ⟨hke (x3.own _ _ bT.txn) (fun c h => by simp [txnC] at h), by obtain ⟨es, c, h1, h2⟩ := bT.rd; exact ⟨es, c, hke (x3.own _ _ h1) (fun _ h => by cases h), h2⟩, by obtain ⟨es, c, h1, h2⟩ := bT.ch; exact ⟨es, c, hke (x3.own _ _ h1) (fun _ h => by cases h), h2⟩, bT.ne1, bT.ne2, bT.ne3⟩
          refine ⟨i + 1, ?_, by omega, ?_, hx4, hke (x3.own _ _ b1') (fun c h => by simp at h), hT4, sv', ?_, hn4, _, rfl, rfl⟩
          · simp [WellFoundedRelation.rel, measure, invImage, InvImage]; omega
          · rw [htk]
            intro u hu
            rcases List.mem_append.1 hu with h | h
            · exact hv u h
            · simp at h; subst h; exact hvs
          · rw [htk, List.map_append]; exact hsv'
    · have d1 : decide ((i : Int) < (rs.length : Int)) = false := by simp; omega
      obtain rfl : i = rs.length := by omega
      rw [List.take_length] at hv aT asv
      refine goF ?_
      exact ⟨hv, ax, a1, aT, sv, asv, asn, _, rfl, rfl⟩
  · rintro _ k5 ⟨hrv, x5, o5, T5, sv, sv5, svn, T', rfl, hT'⟩
    obtain ⟨y, rfl⟩ : ∃ y : Nat → Value, T' = #[.pointer (some ⟨T, 0, none⟩), y 1, y 2, .pointer (some ⟨b1, 0, none⟩), y 4, y 5, sv, y 7, y 8, y 9, y 10, y 11, y 12, y 13, y 14, y 15, y 16, y 17, y 18, y 19, y 20, y 21, y 22, y 23, y 24, y 25, y 26, y 27, y 28, y 29, y 30, y 31, y 32, y 33, y 34, y 35, y 36, y 37, y 38, y 39, y 40, y 41, y 42, y 43, y 44, y 45, y 46, y 47, y 48, y 49, y 50, y 51, y 52, y 53, y 54, y 55, y 56, y 57, y 58] := ⟨fun j => T'.getD j undef, hT'⟩
    clear hT'
    have q1 : k5.Has ⟨b1, 1, none⟩ (.slice wa ws.length wc) := Kn.has_own o5 rfl
    repeat (first | (apply wpK_region; simp only [List.size_toArray, List.length_cons, List.length_nil, Nat.reduceAdd, Nat.zero_add, List.range, List.range.loop]) | ((first | refine opsK_max rfl (by rfl) rfl rfl rfl ?_ | refine opsK_eqNil rfl (by rfl) rfl rfl (by kernel_rfl) ?_ | refine opsK_neNil rfl (by rfl) rfl rfl (by kernel_rfl) ?_); try simp only [Option.isNone_none, Option.isNone_some, Bool.not_true, Bool.not_false]; try walk_nrm) | (co_applyP opsK_pure_k rfl (by rfl) ?_ ?_ ?_; (focus (intro _ K hK; go_simp; exact hK)); (focus (first | (exact fun _ => ev_int rfl rfl rfl rfl) | (exact fun _ => ev_str rfl rfl rfl) | (exact fun _ => ev_build rfl) | (exact fun _ => ev_lenS rfl rfl) | (exact fun _ => ev_lenL rfl rfl) | (exact fun _ => ev_mkI rfl) | (intro _; simp [go_sem, *]; done))); try walk_nrm) | (co_applyP opsK_load1 rfl (by rfl) rfl rfl ?_ ?_ ?_; (focus (intro _; go_simp)); (focus (exact q1)); try walk_nrm) | ((first | apply wpK_seq | apply wpK_block | apply wpK_skip | apply wpK_label | apply wpK_ret | apply wpK_exit | apply opsK_nil); try simp only [thenK, blockK, if_true, if_false, reduceIte, Nat.reduceEqDiff]) | (refine wpK_cond rfl ?_; simp only [if_true, if_false, reduceIte, Bool.false_eq_true]) | (refine opsK_unwanted rfl (by rfl) ?_; try walk_nrm))
    refine wpK_midB (M := fun a' k' => (∀ x ∈ ws, validN x.1 = true) ∧ k.ExtX (fun b => b = mr ∨ b = mc) k' ∧ TxnK k' T B num p (rdF rs) (fun s => (wrF ws s).map chV) mr mc ws.length false ∧
      OwnSl k' 24 1 sv rs.length (rs.map fun s => intV (lookT t s)) ∧ ∃ T' : Array Value, a' = ⟨T', []⟩ ∧ T' = #[(fun j => T'.getD j undef) 0, (fun j => T'.getD j undef) 1, (fun j => T'.getD j undef) 2, (fun j => T'.getD j undef) 3, (fun j => T'.getD j undef) 4, (fun j => T'.getD j undef) 5, sv, (fun j => T'.getD j undef) 7, (fun j => T'.getD j undef) 8, (fun j => T'.getD j undef) 9, (fun j => T'.getD j undef) 10, (fun j => T'.getD j undef) 11, (fun j => T'.getD j undef) 12, (fun j => T'.getD j undef) 13, (fun j => T'.getD j undef) 14, (fun j => T'.getD j undef) 15, (fun j => T'.getD j undef) 16, (fun j => T'.getD j undef) 17, (fun j => T'.getD j undef) 18, (fun j => T'.getD j undef) 19, (fun j => T'.getD j undef) 20, (fun j => T'.getD j undef) 21, (fun j => T'.getD j undef) 22, (fun j => T'.getD j undef) 23, (fun j => T'.getD j undef) 24, (fun j => T'.getD j undef) 25, (fun j => T'.getD j undef) 26, (fun j => T'.getD j undef) 27, (fun j => T'.getD j undef) 28, (fun j => T'.getD j undef) 29, (fun j => T'.getD j undef) 30, (fun j => T'.getD j undef) 31, (fun j => T'.getD j undef) 32, (fun j => T'.getD j undef) 33, (fun j => T'.getD j undef) 34, (fun j => T'.getD j undef) 35, (fun j => T'.getD j undef) 36, (fun j => T'.getD j undef) 37, (fun j => T'.getD j undef) 38, (fun j => T'.getD j undef) 39, (fun j => T'.getD j undef) 40, (fun j => T'.getD j undef) 41, (fun j => T'.getD j undef) 42, (fun j => T'.getD j undef) 43, (fun j => T'.getD j undef) 44, (fun j => T'.getD j undef) 45, (fun j => T'.getD j undef) 46, (fun j => T'.getD j undef) 47, (fun j => T'.getD j undef) 48, (fun j => T'.getD j undef) 49, (fun j => T'.getD j undef) 50, (fun j => T'.getD j undef) 51, (fun j => T'.getD j undef) 52, (fun j => T'.getD j undef) 53, (fun j => T'.getD j undef) 54, (fun j => T'.getD j undef) 55, (fun j => T'.getD j undef) 56, (fun j => T'.getD j undef) 57, (fun j => T'.getD j undef) 58]) ?_ ?_
    · refine wpK_loop (measure fun i => ws.length - i).wf (I := fun i a' k' => i ≤ ws.length ∧ (∀ x ∈ ws.take i, validN x.1 = true) ∧ k.ExtX (fun b => b = mr ∨ b = mc) k' ∧ TxnK k' T B num p (rdF rs) (fun s => (wrF (ws.take i) s).map chV) mr mc i false ∧
        OwnSl k' 24 1 sv rs.length (rs.map fun s => intV (lookT t s)) ∧ ∃ T' : Array Value, a' = ⟨T', []⟩ ∧ T' = #[.pointer (some ⟨T, 0, none⟩), (fun j => T'.getD j undef) 1, (fun j => T'.getD j undef) 2, (fun j => T'.getD j undef) 3, (fun j => T'.getD j undef) 4, (fun j => T'.getD j undef) 5, sv, (fun j => T'.getD j undef) 7, (fun j => T'.getD j undef) 8, (fun j => T'.getD j undef) 9, (fun j => T'.getD j undef) 10, (fun j => T'.getD j undef) 11, (fun j => T'.getD j undef) 12, (fun j => T'.getD j undef) 13, (fun j => T'.getD j undef) 14, (fun j => T'.getD j undef) 15, (fun j => T'.getD j undef) 16, (fun j => T'.getD j undef) 17, (fun j => T'.getD j undef) 18, (fun j => T'.getD j undef) 19, (fun j => T'.getD j undef) 20, (fun j => T'.getD j undef) 21, (fun j => T'.getD j undef) 22, (fun j => T'.getD j undef) 23, (fun j => T'.getD j undef) 24, (fun j => T'.getD j undef) 25, (fun j => T'.getD j undef) 26, (fun j => T'.getD j undef) 27, (fun j => T'.getD j undef) 28, (fun j => T'.getD j undef) 29, (fun j => T'.getD j undef) 30, (fun j => T'.getD j undef) 31, (fun j => T'.getD j undef) 32, (fun j => T'.getD j undef) 33, (fun j => T'.getD j undef) 34, (fun j => T'.getD j undef) 35, (fun j => T'.getD j undef) 36, (fun j => T'.getD j undef) 37, (fun j => T'.getD j undef) 38, (fun j => T'.getD j undef) 39, (fun j => T'.getD j undef) 40, (fun j => T'.getD j undef) 41, .slice wa ws.length wc, .int .i64 ws.length, .int .i64 i, (fun j => T'.getD j undef) 45, (fun j => T'.getD j undef) 46, (fun j => T'.getD j undef) 47, (fun j => T'.getD j undef) 48, (fun j => T'.getD j undef) 49, (fun j => T'.getD j undef) 50, (fun j => T'.getD j undef) 51, (fun j => T'.getD j undef) 52, (fun j => T'.getD j undef) 53, (fun j => T'.getD j undef) 54, (fun j => T'.getD j undef) 55, (fun j => T'.getD j undef) 56, (fun j => T'.getD j undef) 57, (fun j => T'.getD j undef) 58]) (x := 0)
        ⟨Nat.zero_le _, by simp, x5, T5, sv5, _, rfl, rfl⟩ ?_
      rintro i _ ka ⟨hi, hv, ax, aT, asv, T', rfl, hT'⟩
      obtain ⟨y, rfl⟩ : ∃ y : Nat → Value, T' = #[.pointer (some ⟨T, 0, none⟩), y 1, y 2, y 3, y 4, y 5, sv, y 7, y 8, y 9, y 10, y 11, y 12, y 13, y 14, y 15, y 16, y 17, y 18, y 19, y 20, y 21, y 22, y 23, y 24, y 25, y 26, y 27, y 28, y 29, y 30, y 31, y 32, y 33, y 34, y 35, y 36, y 37, y 38, y 39, y 40, y 41, .slice wa ws.length wc, .int .i64 ws.length, .int .i64 i, y 45, y 46, y 47, y 48, y 49, y 50, y 51, y 52, y 53, y 54, y 55, y 56, y 57, y 58] := ⟨fun j => T'.getD j undef, hT'⟩
      clear hT'
      by_cases hlt : i < ws.length
      · have d1 : decide ((i : Int) < (ws.length : Int)) = true := by simp; omega
        obtain ⟨x, hs⟩ : ∃ x, ws[i]? = some x := ⟨ws[i], List.getElem?_eq_getElem hlt⟩
        obtain ⟨h0, h1⟩ := namedC_get hs
        obtain ⟨b, off, rfl, hro0⟩ := hwa _ _ h0
        obtain ⟨b', off', e, hro1⟩ := hwa _ _ h1
        obtain ⟨rfl, rfl⟩ : b = b' ∧ off = off' := by simpa using e
        have hs0 : ka.Has ⟨b, off + i * 2, none⟩ (.string x.1) := .inl (ax.ro _ _ hro0)
        have hs1 : ka.Has ⟨b, off + i * 2 + 1, none⟩ (intV x.2) := .inl (ax.ro _ _ (by rw [Nat.add_assoc]; exact hro1))
        have htk := take_snoc hs
        have w1 : IntKind.i64.wrap ((i : Int) + 1) = ((i + 1 : Nat) : Int) := by rw [wr64 (by omega) (by omega)]; rfl
        refine goF ?_
        refine opsK_loadN (vs := [.string x.1, intV x.2]) rfl (by rfl) rfl rfl (fun w => by kernel_rfl) (fun w => by kernel_rfl) (reads2 hs0 hs1) ?_
        walk_nrm
        refine opsK_alloc (z := .agg #[.string ⟨#[]⟩, .int .i64 0]) rfl (by rfl) rfl (fun w => by kernel_rfl) ?_
        (intro b6 hb6; refine hb6.pack (M := fun k1 => OpsK _ _ _ _ _ _ _ k1) _ ?_; intro k6 x6 o6 n6; try simp only [Value.cells] at o6); walk_nrm
        refine opsK_storeL (c' := #[.string x.1, intV x.2]) rfl (by rfl) rfl rfl rfl rfl (fun w => by kernel_rfl) o6 rfl rfl rfl ?_
        walk_nrm
        have y6 : (k6.set b6 (.cells #[.string x.1, intV x.2] 26)).own b6 = some (.cells #[.string x.1, intV x.2] 26) := Kn.set_same _ _ _
        have yx : ka.Ext (k6.set b6 (.cells #[.string x.1, intV x.2] 26)) := x6.set_new n6 _
        generalize k6.set b6 (.cells #[.string x.1, intV x.2] 26) = k7 at y6 yx ⊢
        have r0 : k7.Has ⟨b6, 0, none⟩ (.string x.1) := Kn.has_own y6 rfl
        have r1 : k7.Has ⟨b6, 1, none⟩ (.int .i64 x.2) := Kn.has_own y6 rfl
        have T7 := aT.ext yx.own
        repeat (first | (apply wpK_region; simp only [List.size_toArray, List.length_cons, List.length_nil, Nat.reduceAdd, Nat.zero_add, List.range, List.range.loop]) | ((first | refine opsK_max rfl (by rfl) rfl rfl rfl ?_ | refine opsK_eqNil rfl (by rfl) rfl rfl (by kernel_rfl) ?_ | refine opsK_neNil rfl (by rfl) rfl rfl (by kernel_rfl) ?_); try simp only [Option.isNone_none, Option.isNone_some, Bool.not_true, Bool.not_false]; try walk_nrm) | (co_applyP opsK_pure_k rfl (by rfl) ?_ ?_ ?_; (focus (intro _ K hK; go_simp; exact hK)); (focus (first | (exact fun _ => ev_int rfl rfl rfl rfl) | (exact fun _ => ev_str rfl rfl rfl) | (exact fun _ => ev_build rfl) | (exact fun _ => ev_lenS rfl rfl) | (exact fun _ => ev_lenL rfl rfl) | (exact fun _ => ev_mkI rfl) | (intro _; simp [go_sem, *]; done))); try walk_nrm) | (co_applyP opsK_load1 rfl (by rfl) rfl rfl ?_ ?_ ?_; (focus (intro _; go_simp)); (focus (first | exact r0 | exact r1)); try walk_nrm) | ((first | apply wpK_seq | apply wpK_block | apply wpK_skip | apply wpK_label | apply wpK_ret | apply wpK_exit | apply opsK_nil); try simp only [thenK, blockK, if_true, if_false, reduceIte, Nat.reduceEqDiff]) | (refine wpK_cond rfl ?_; simp only [if_true, if_false, reduceIte, Bool.false_eq_true]) | (refine opsK_unwanted rfl (by rfl) ?_; try walk_nrm))
        refine opsK_callv rfl (by rfl) rfl (by first | (walk_nrm; done) | (walk_nrm; rfl)) (tput_k k7 T B num p (rdF rs) _ mr mc i x.1 x.2 T7) ?_
        rintro _ k8 ⟨rfl, T8, x8⟩
        have n8 : ∀ {b : Nat} {c : Array Value} {ty : TypeId}, k7.own b = some (.cells c ty) → k8.own b = some (.cells c ty) := fun {b c ty} h => x8.own _ _ (fun e => by subst e; obtain ⟨es, c', h1, _⟩ := T7.ch; rw [h1] at h; cases h) h
        have ax8 : k.ExtX (fun b => b = mr ∨ b = mc) k8 := (ax.trans yx.x).trans (x8.mono fun b (h : b = mc) => Or.inr (a := b = mr) h)
        have sv8 : OwnSl k8 24 1 sv rs.length (rs.map fun s => intV (lookT t s)) := ⟨asv.len, asv.at_.imp id fun ⟨b, cap, c, h1, h2, h3, h4⟩ => ⟨b, cap, c, h1, h2, n8 (yx.own _ _ h3), h4⟩⟩
        cases hvs : validN x.1 with
        | false =>
          simp only [if_false, Bool.false_eq_true]
          walk_nrm
          refine goF ?_
          refine opsK_sure (.bool true) rfl (by rfl) (fun w => by kernel_rfl) (fun w => by kernel_rfl) ?_; walk_nrm
          refine goF ?_
          exact retK2 rfl rfl (.inl ⟨⟨x.1, .inr ⟨x, List.mem_of_getElem? hs, rfl⟩, hvs⟩, rfl, ax8⟩)
        | true =>
          rw [hvs] at T8
          simp only [if_true] at T8 ⊢
          walk_nrm
          refine goF ?_
          refine opsK_sure (.bool false) rfl (by rfl) (fun w => by kernel_rfl) (fun w => by kernel_rfl) ?_; walk_nrm
          refine goF ?_
          refine ⟨i + 1, ?_, by omega, ?_, ax8, ?_, sv8, _, rfl, rfl⟩
          · simp [WellFoundedRelation.rel, measure, invImage, InvImage]; omega
          · rw [htk]
            intro u hu
            rcases List.mem_append.1 hu with h | h
            · exact hv u h
            · simp at h; subst h; exact hvs
          · rw [htk, wrF_snoc]
            have e : (fun s => (updB (wrF (ws.take i)) x.1 x.2 s).map chV) = updB (fun s => (wrF (ws.take i) s).map chV) x.1 (.agg #[.int .i64 x.2, .bool false]) := by
              funext s
              unfold updB
              split <;> rfl
            rw [e]
            exact T8
      · have d1 : decide ((i : Int) < (ws.length : Int)) = false := by simp; omega
        obtain rfl : i = ws.length := by omega
        rw [List.take_length] at hv aT
        refine goF ?_
        exact ⟨hv, ax, aT, asv, _, rfl, rfl⟩
    · rintro _ k9 ⟨hwv, x9, T9, sv9, T', rfl, hT'⟩
      obtain ⟨y, rfl⟩ : ∃ y : Nat → Value, T' = #[y 0, y 1, y 2, y 3, y 4, y 5, sv, y 7, y 8, y 9, y 10, y 11, y 12, y 13, y 14, y 15, y 16, y 17, y 18, y 19, y 20, y 21, y 22, y 23, y 24, y 25, y 26, y 27, y 28, y 29, y 30, y 31, y 32, y 33, y 34, y 35, y 36, y 37, y 38, y 39, y 40, y 41, y 42, y 43, y 44, y 45, y 46, y 47, y 48, y 49, y 50, y 51, y 52, y 53, y 54, y 55, y 56, y 57, y 58] := ⟨fun j => T'.getD j undef, hT'⟩
      clear hT'
      refine goF ?_
      exact retK2 rfl rfl (.inr ⟨hrv, hwv, sv, rfl, sv9, svn, T9, x9⟩)
end Go.Proofs.Ytacfhfeegalmlaa

/- THE SESSION, in company: New, Begin, Version. -/
namespace Go.Proofs.Ytacfhfeegalmlaa
open Go.Conc
set_option linter.unusedVariables false
set_option linter.unusedSimpArgs false

/-- entries, one put after the other -/
def insAll (l : List (ByteArray × Int)) : Ents := l.foldl (fun E x => insL x.1 x.2 E) []
theorem insAll_snoc (l : List (ByteArray × Int)) (x : ByteArray × Int) : insAll (l ++ [x]) = insL x.1 x.2 (insAll l) := by simp [insAll]
theorem mem_insAll {l : List (ByteArray × Int)} {s : ByteArray} {v : Int} (h : getL (insAll l) s = some v) (hs : Srt (insAll l)) : ∃ x ∈ l, x.1 = s := by
  have key : ∀ (l : List (ByteArray × Int)) (E : Ents), (∃ x ∈ l.foldl (fun E x => insL x.1 x.2 E) E, x.1 = s) → (∃ x ∈ E, x.1 = s) ∨ ∃ x ∈ l, x.1 = s := by
    intro l
    induction l with
    | nil => intro E h; exact .inl h
    | cons y l ih =>
      intro E h
      rcases ih _ h with ⟨x, hx, e⟩ | ⟨x, hx, e⟩
      · rcases mem_insL hx with rfl | hx
        · exact .inr ⟨y, by simp, e⟩
        · exact .inl ⟨x, hx, e⟩
      · exact .inr ⟨x, by simp [hx], e⟩
  have : ∃ x ∈ insAll l, x.1 = s := by
    unfold getL at h
    obtain ⟨x, hx, _⟩ := Option.map_eq_some_iff.1 h
    exact ⟨x, List.mem_of_find?_eq_some hx, by simpa using List.find?_some hx⟩
  rcases key l [] this with ⟨x, hx, _⟩ | h
  · cases hx
  · exact h
set_option maxRecDepth 100000 in
set_option maxHeartbeats 4000000 in
theorem new_k {main : Who} (k : Kn) (l : List (ByteArray × Int)) (a : Addr) (c : Nat) (hv : ∀ x ∈ l, validN x.1 = true) (hd : l.Pairwise fun x y => x.1 ≠ y.1) (hn : l.length < 1099511627776) (ha : a.spot = none)
    (hl : ∀ j u, (namedC l)[j]? = some u → k.Has ⟨a.block, a.off + j, none⟩ u) :
    CallsK Try.prog main 5 #[.slice (some a) l.length c] k fun v k' => ∃ B ml p t, v = .tuple #[.pointer (some ⟨B, 0, none⟩), .nilIface] ∧ k.Ext k' ∧ k.own B = none ∧ k.own ml = none ∧ k'.own B = some (.cells (boxC 0 p (.map (some ml))) 64) ∧ LastK k' ml (fun _ => none) ∧
      TrK k'.ro p t ∧ t.ok ∧ t.ents = insAll l ∧ Srt t.ents ∧ t.sz ≤ l.length := by
  obtain ⟨ab, ao, as'⟩ := a
  obtain rfl : as' = none := ha
  (refine callsK_of Try.func5 (by first | rfl | kernel_rfl) rfl ?_; simp only [Try.ntmps5, List.size_toArray, List.length_cons, List.length_nil, Nat.reduceAdd, Nat.reduceSub, Array.replicate_succ, Array.replicate_zero, List.push_toArray, List.append_toArray, List.nil_append, List.cons_append])
  refine goF ?_
  refine opsK_makeMap rfl (by rfl) rfl ?_
  (intro b1 hb1; refine hb1.pack (M := fun k1 => OpsK _ _ _ _ _ _ _ k1) _ ?_; intro k1 x1 o1 n1; try simp only [Value.cells] at o1); walk_nrm
  refine goF ?_
  refine opsK_box rfl (by rfl) rfl rfl ?_
  (intro b2 hb2; refine hb2.pack (M := fun k1 => OpsK _ _ _ _ _ _ _ k1) _ ?_; intro k2 x2 o2 n2; try simp only [Value.cells] at o2); walk_nrm
  have o2 : k2.own b2 = some (.cells (boxC 0 (.pointer none) (.map (some b1))) 64) := o2
  refine goF ?_
  have o21 := x2.own _ _ o1
  have n21 : b2 ≠ b1 := fun e => by subst e; rw [o1] at n2; cases n2
  have x02 := x1.trans x2
  have kn2 : k.own b2 = none := by
    cases h : k.own b2 with
    | none => rfl
    | some o => rw [x1.own _ _ h] at n2; cases n2
  refine wpK_midB (M := fun a' k' => k2.ExtX (· = b2) k' ∧ (∃ p t, k'.own b2 = some (.cells (boxC 0 p (.map (some b1))) 64) ∧ TrK k'.ro p t ∧ t.ok ∧ t.ents = insAll l ∧ Srt t.ents ∧ t.sz ≤ l.length) ∧
    ∃ T' : Array Value, a' = ⟨T', []⟩ ∧ T' = #[(fun j => T'.getD j undef) 0, (fun j => T'.getD j undef) 1, (fun j => T'.getD j undef) 2, (fun j => T'.getD j undef) 3, .pointer (some ⟨b2, 0, none⟩), (fun j => T'.getD j undef) 5, (fun j => T'.getD j undef) 6, (fun j => T'.getD j undef) 7, (fun j => T'.getD j undef) 8, (fun j => T'.getD j undef) 9, (fun j => T'.getD j undef) 10, (fun j => T'.getD j undef) 11, (fun j => T'.getD j undef) 12, (fun j => T'.getD j undef) 13, (fun j => T'.getD j undef) 14, (fun j => T'.getD j undef) 15, (fun j => T'.getD j undef) 16, (fun j => T'.getD j undef) 17, (fun j => T'.getD j undef) 18, (fun j => T'.getD j undef) 19, (fun j => T'.getD j undef) 20, (fun j => T'.getD j undef) 21, (fun j => T'.getD j undef) 22, (fun j => T'.getD j undef) 23, (fun j => T'.getD j undef) 24, (fun j => T'.getD j undef) 25, (fun j => T'.getD j undef) 26, (fun j => T'.getD j undef) 27, (fun j => T'.getD j undef) 28, (fun j => T'.getD j undef) 29, (fun j => T'.getD j undef) 30, (fun j => T'.getD j undef) 31, (fun j => T'.getD j undef) 32, (fun j => T'.getD j undef) 33, (fun j => T'.getD j undef) 34, (fun j => T'.getD j undef) 35, (fun j => T'.getD j undef) 36, (fun j => T'.getD j undef) 37, (fun j => T'.getD j undef) 38, (fun j => T'.getD j undef) 39, (fun j => T'.getD j undef) 40, (fun j => T'.getD j undef) 41, (fun j => T'.getD j undef) 42, (fun j => T'.getD j undef) 43, (fun j => T'.getD j undef) 44, (fun j => T'.getD j undef) 45, (fun j => T'.getD j undef) 46, (fun j => T'.getD j undef) 47, (fun j => T'.getD j undef) 48, (fun j => T'.getD j undef) 49, (fun j => T'.getD j undef) 50, (fun j => T'.getD j undef) 51]) ?_ ?_
  · refine wpK_loop (measure fun i => l.length - i).wf (I := fun i a' k' => i ≤ l.length ∧ k2.ExtX (· = b2) k' ∧ (∃ p t, k'.own b2 = some (.cells (boxC 0 p (.map (some b1))) 64) ∧ TrK k'.ro p t ∧ t.ok ∧ t.ents = insAll (l.take i) ∧ Srt t.ents ∧ t.sz ≤ i) ∧
      ∃ T' : Array Value, a' = ⟨T', []⟩ ∧ T' = #[(fun j => T'.getD j undef) 0, (fun j => T'.getD j undef) 1, (fun j => T'.getD j undef) 2, (fun j => T'.getD j undef) 3, .pointer (some ⟨b2, 0, none⟩), (fun j => T'.getD j undef) 5, (fun j => T'.getD j undef) 6, (fun j => T'.getD j undef) 7, (fun j => T'.getD j undef) 8, (fun j => T'.getD j undef) 9, (fun j => T'.getD j undef) 10, (fun j => T'.getD j undef) 11, .slice (some ⟨ab, ao, none⟩) l.length c, .int .i64 l.length, .int .i64 i, (fun j => T'.getD j undef) 15, (fun j => T'.getD j undef) 16, (fun j => T'.getD j undef) 17, (fun j => T'.getD j undef) 18, (fun j => T'.getD j undef) 19, (fun j => T'.getD j undef) 20, (fun j => T'.getD j undef) 21, (fun j => T'.getD j undef) 22, (fun j => T'.getD j undef) 23, (fun j => T'.getD j undef) 24, (fun j => T'.getD j undef) 25, (fun j => T'.getD j undef) 26, (fun j => T'.getD j undef) 27, (fun j => T'.getD j undef) 28, (fun j => T'.getD j undef) 29, (fun j => T'.getD j undef) 30, (fun j => T'.getD j undef) 31, (fun j => T'.getD j undef) 32, (fun j => T'.getD j undef) 33, (fun j => T'.getD j undef) 34, (fun j => T'.getD j undef) 35, (fun j => T'.getD j undef) 36, (fun j => T'.getD j undef) 37, (fun j => T'.getD j undef) 38, (fun j => T'.getD j undef) 39, (fun j => T'.getD j undef) 40, (fun j => T'.getD j undef) 41, (fun j => T'.getD j undef) 42, (fun j => T'.getD j undef) 43, (fun j => T'.getD j undef) 44, (fun j => T'.getD j undef) 45, (fun j => T'.getD j undef) 46, (fun j => T'.getD j undef) 47, (fun j => T'.getD j undef) 48, (fun j => T'.getD j undef) 49, (fun j => T'.getD j undef) 50, (fun j => T'.getD j undef) 51]) (x := 0)
      ⟨Nat.zero_le _, Kn.ExtX.refl _, ⟨.pointer none, .lf, o2, rfl, trivial, rfl, List.Pairwise.nil, Nat.le_refl _⟩, _, rfl, rfl⟩ ?_
    rintro i _ ka ⟨hi, ax, ⟨p, t, aB, at_, aok, aents, asrt, asz⟩, T', rfl, hT'⟩
    obtain ⟨y, rfl⟩ : ∃ y : Nat → Value, T' = #[y 0, y 1, y 2, y 3, .pointer (some ⟨b2, 0, none⟩), y 5, y 6, y 7, y 8, y 9, y 10, y 11, .slice (some ⟨ab, ao, none⟩) l.length c, .int .i64 l.length, .int .i64 i, y 15, y 16, y 17, y 18, y 19, y 20, y 21, y 22, y 23, y 24, y 25, y 26, y 27, y 28, y 29, y 30, y 31, y 32, y 33, y 34, y 35, y 36, y 37, y 38, y 39, y 40, y 41, y 42, y 43, y 44, y 45, y 46, y 47, y 48, y 49, y 50, y 51] := ⟨fun j => T'.getD j undef, hT'⟩
    clear hT'
    obtain ⟨pa, rfl⟩ := at_.ptr
    by_cases hlt : i < l.length
    · have d1 : decide ((i : Int) < (l.length : Int)) = true := by simp; omega
      obtain ⟨x, hs⟩ : ∃ x, l[i]? = some x := ⟨l[i], List.getElem?_eq_getElem hlt⟩
      obtain ⟨h0, h1⟩ := namedC_get hs
      have hka : ∀ {j : Nat} {u : Value}, k.Has ⟨ab, j, none⟩ u → ka.Has ⟨ab, j, none⟩ u := fun {j u} h => by
        have h2 := x02.has h
        rcases h2 with h2 | ⟨cc, ct, cf, h2, h3, h4⟩ | h2
        · exact .inl (ax.ro _ _ h2)
        · rcases h with h | ⟨cc', ct', cf', h', _⟩ | h
          · exact .inl (ax.ro _ _ (x02.ro _ _ h))
          · exact .inr (.inl ⟨cc, ct, cf, ax.own _ _ (fun e => by simp only at e; subst e; rw [kn2] at h'; cases h') h2, h3, h4⟩)
          · exact .inr (.inr (by rw [ax.oc, x02.oc]; exact h))
        · exact .inr (.inr (by rw [ax.oc]; exact h2))
      have hs0 : ka.Has ⟨ab, ao + i * 2, none⟩ (.string x.1) := hka (hl _ _ h0)
      have hs1 : ka.Has ⟨ab, ao + i * 2 + 1, none⟩ (intV x.2) := hka (by rw [Nat.add_assoc]; exact hl _ _ h1)
      have htk := take_snoc hs
      have w1 : IntKind.i64.wrap ((i : Int) + 1) = ((i + 1 : Nat) : Int) := by rw [wr64 (by omega) (by omega)]; rfl
      have hvx := hv x (List.mem_of_getElem? hs)
      refine goF ?_
      refine opsK_loadN (vs := [.string x.1, intV x.2]) rfl (by rfl) rfl rfl (fun w => by kernel_rfl) (fun w => by kernel_rfl) (reads2 hs0 hs1) ?_
      walk_nrm
      refine opsK_alloc (z := .agg #[.string ⟨#[]⟩, .int .i64 0]) rfl (by rfl) rfl (fun w => by kernel_rfl) ?_
      (intro b6 hb6; refine hb6.pack (M := fun k1 => OpsK _ _ _ _ _ _ _ k1) _ ?_; intro k6 x6 o6 n6; try simp only [Value.cells] at o6); walk_nrm
      refine opsK_storeL (c' := #[.string x.1, intV x.2]) rfl (by rfl) rfl rfl rfl rfl (fun w => by kernel_rfl) o6 rfl rfl rfl ?_
      walk_nrm
      have y6 : (k6.set b6 (.cells #[.string x.1, intV x.2] 26)).own b6 = some (.cells #[.string x.1, intV x.2] 26) := Kn.set_same _ _ _
      have yx : ka.Ext (k6.set b6 (.cells #[.string x.1, intV x.2] 26)) := x6.set_new n6 _
      generalize k6.set b6 (.cells #[.string x.1, intV x.2] 26) = k7 at y6 yx ⊢
      have r0 : k7.Has ⟨b6, 0, none⟩ (.string x.1) := Kn.has_own y6 rfl
      have r1 : k7.Has ⟨b6, 1, none⟩ (.int .i64 x.2) := Kn.has_own y6 rfl
      have yB := yx.own _ _ aB
      have rB : k7.Has ⟨b2, 3, none⟩ (.pointer pa) := Kn.has_own yB rfl
      have yt := at_.mono yx.ro
      have n26 : b2 ≠ b6 := fun e => by subst e; rw [aB] at n6; cases n6
      repeat (first | (apply wpK_region; simp only [List.size_toArray, List.length_cons, List.length_nil, Nat.reduceAdd, Nat.zero_add, List.range, List.range.loop]) | ((first | refine opsK_max rfl (by rfl) rfl rfl rfl ?_ | refine opsK_eqNil rfl (by rfl) rfl rfl (by kernel_rfl) ?_ | refine opsK_neNil rfl (by rfl) rfl rfl (by kernel_rfl) ?_); try simp only [Option.isNone_none, Option.isNone_some, Bool.not_true, Bool.not_false]; try walk_nrm) | (co_applyP opsK_pure_k rfl (by rfl) ?_ ?_ ?_; (focus (intro _ K hK; go_simp; exact hK)); (focus (first | (exact fun _ => ev_int rfl rfl rfl rfl) | (exact fun _ => ev_str rfl rfl rfl) | (exact fun _ => ev_build rfl) | (exact fun _ => ev_lenS rfl rfl) | (exact fun _ => ev_lenL rfl rfl) | (exact fun _ => ev_mkI rfl) | (intro _; simp [go_sem, *]; done))); try walk_nrm) | (co_applyP opsK_load1 rfl (by rfl) rfl rfl ?_ ?_ ?_; (focus (intro _; go_simp)); (focus (exact r0)); try walk_nrm) | ((first | apply wpK_seq | apply wpK_block | apply wpK_skip | apply wpK_label | apply wpK_ret | apply wpK_exit | apply opsK_nil); try simp only [thenK, blockK, if_true, if_false, reduceIte, Nat.reduceEqDiff]) | (refine wpK_cond rfl ?_; simp only [if_true, if_false, reduceIte, Bool.false_eq_true]) | (refine opsK_unwanted rfl (by rfl) ?_; try walk_nrm))
      refine opsK_callv rfl (by rfl) rfl (by first | (walk_nrm; done) | (walk_nrm; rfl)) (valid_k k7 x.1) ?_
      rintro _ _ ⟨rfl, rfl⟩
      rw [hvx]
      walk_nrm
      refine goF ?_
      have sK : k7.Grow k7 := Kn.Grow.refl _
      (refine wpK_region_held (fun k' => k7.Grow k') (by kernel_rfl) ?_; simp only [List.size_toArray, List.length_cons, List.length_nil, Nat.reduceAdd, Nat.zero_add])
      refine tkF 0 ?_
      refine tkF 1 ?_
      refine tkF 2 ?_
      refine tkF 3 ?_
      refine takeK_loadN (i := 4) (vs := [.pointer pa]) rfl (by rfl) (by kernel_rfl) (by kernel_rfl) (by kernel_rfl) sK rfl rfl (fun w => by kernel_rfl) (fun w => by kernel_rfl) (fun k' h => reads1 (h.ext.has rB)) ?_
      walk_nrm
      (first | (refine takeK_nil (i := 5) rfl (by rfl) (by kernel_rfl) (by kernel_rfl) (by kernel_rfl) (by first | assumption | exact Kn.Grow.refl _ | rfl) rfl rfl (by kernel_rfl) ?_; try simp only [Option.isNone_none, Option.isNone_some]; try walk_nrm) | (co_applyP takeK_pure (i := 5) rfl (by rfl) (by kernel_rfl) (by kernel_rfl) (by kernel_rfl) (by first | assumption | exact Kn.Grow.refl _ | rfl) ?_ ?_ ?_; (focus (intro _ K hK; go_simp; exact hK)); (focus (first | (exact fun _ => ev_int rfl rfl rfl rfl) | (exact fun _ => ev_str rfl rfl rfl) | (exact fun _ => ev_build rfl) | (exact fun _ => ev_lenS rfl rfl) | (exact fun _ => ev_lenL rfl rfl) | (exact fun _ => ev_mkI rfl) | (intro _; simp [go_sem, *]; done))); try walk_nrm) | (co_applyP takeK_load1 (i := 5) rfl (by rfl) (by kernel_rfl) (by kernel_rfl) (by kernel_rfl) (by first | assumption | exact Kn.Grow.refl _ | rfl) rfl rfl ?_ ?_ ?_; (focus (intro _; go_simp)); (focus (exact fun k' h => h.ext.has r0)); try walk_nrm) | (refine takeK_un (i := 5) rfl (by rfl) (by kernel_rfl) (by kernel_rfl) (by kernel_rfl) (by first | assumption | exact Kn.Grow.refl _ | rfl) ?_; try walk_nrm))
      (first | (refine takeK_nil (i := 6) rfl (by rfl) (by kernel_rfl) (by kernel_rfl) (by kernel_rfl) (by first | assumption | exact Kn.Grow.refl _ | rfl) rfl rfl (by kernel_rfl) ?_; try simp only [Option.isNone_none, Option.isNone_some]; try walk_nrm) | (co_applyP takeK_pure (i := 6) rfl (by rfl) (by kernel_rfl) (by kernel_rfl) (by kernel_rfl) (by first | assumption | exact Kn.Grow.refl _ | rfl) ?_ ?_ ?_; (focus (intro _ K hK; go_simp; exact hK)); (focus (first | (exact fun _ => ev_int rfl rfl rfl rfl) | (exact fun _ => ev_str rfl rfl rfl) | (exact fun _ => ev_build rfl) | (exact fun _ => ev_lenS rfl rfl) | (exact fun _ => ev_lenL rfl rfl) | (exact fun _ => ev_mkI rfl) | (intro _; simp [go_sem, *]; done))); try walk_nrm) | (co_applyP takeK_load1 (i := 6) rfl (by rfl) (by kernel_rfl) (by kernel_rfl) (by kernel_rfl) (by first | assumption | exact Kn.Grow.refl _ | rfl) rfl rfl ?_ ?_ ?_; (focus (intro _; go_simp)); (focus (exact fun k' h => h.ext.has r0)); try walk_nrm) | (refine takeK_un (i := 6) rfl (by rfl) (by kernel_rfl) (by kernel_rfl) (by kernel_rfl) (by first | assumption | exact Kn.Grow.refl _ | rfl) ?_; try walk_nrm))
      have hgn : getV t x.1 = .tuple #[.int .i64 0, .bool false] := by
        unfold getV
        have : getT t x.1 = none := by
          rw [getT_ents asrt, aents]
          cases hg : getL (insAll (l.take i)) x.1 with
          | none => rfl
          | some v =>
            obtain ⟨z, hz, e⟩ := mem_insAll hg (by rw [← aents]; exact asrt)
            obtain ⟨j, hj, hjz⟩ := List.mem_iff_getElem.1 hz
            have hji : j < i := by simp at hj; omega
            have hp := List.pairwise_iff_getElem.1 hd j i (by omega) hlt hji
            rw [List.getElem_take] at hjz
            rw [hjz, (List.getElem?_eq_some_iff.1 hs).2] at hp
            exact absurd e hp
        rw [this]
      refine anyK_call 7 (by kernel_rfl) rfl (by rfl) rfl (by walk_nrm) (get_k x.1 t k7 _ yt) ?_
      rintro _ k8 ⟨rfl, g8⟩
      refine ⟨g8, ?_⟩
      rw [hgn]
      walk_nrm
      refine tkF 8 ?_
      refine tkF 9 ?_
      refine tkF 10 ?_
      refine tkF 11 ?_
      refine tkF 12 ?_
      (refine anyK_done (by kernel_rfl) ?_ _; simp only [thenK, blockK, if_true, if_false, reduceIte, Nat.reduceEqDiff])
      refine goF ?_
      have zB : k8.own b2 = some (.cells (boxC 0 (.pointer pa) (.map (some b1))) 64) := by rw [g8.own]; exact yB
      have z6 : k8.own b6 = some (.cells #[.string x.1, intV x.2] 26) := by rw [g8.own]; exact y6
      have zt := yt.mono g8.ro
      have sK : k8.ExtX (· = b2) k8 := Kn.ExtX.refl _
      (refine wpK_region_held (fun k' => k8.ExtX (· = b2) k') (by kernel_rfl) ?_; simp only [List.size_toArray, List.length_cons, List.length_nil, Nat.reduceAdd, Nat.zero_add])
      (first | (refine takeK_nil (i := 0) rfl (by rfl) (by kernel_rfl) (by kernel_rfl) (by kernel_rfl) (by first | assumption | exact Kn.Grow.refl _ | rfl) rfl rfl (by kernel_rfl) ?_; try simp only [Option.isNone_none, Option.isNone_some]; try walk_nrm) | (co_applyP takeK_pure (i := 0) rfl (by rfl) (by kernel_rfl) (by kernel_rfl) (by kernel_rfl) (by first | assumption | exact Kn.Grow.refl _ | rfl) ?_ ?_ ?_; (focus (intro _ K hK; go_simp; exact hK)); (focus (first | (exact fun _ => ev_int rfl rfl rfl rfl) | (exact fun _ => ev_str rfl rfl rfl) | (exact fun _ => ev_build rfl) | (exact fun _ => ev_lenS rfl rfl) | (exact fun _ => ev_lenL rfl rfl) | (exact fun _ => ev_mkI rfl) | (intro _; simp [go_sem, *]; done))); try walk_nrm) | (co_applyP takeK_load1 (i := 0) rfl (by rfl) (by kernel_rfl) (by kernel_rfl) (by kernel_rfl) (by first | assumption | exact Kn.Grow.refl _ | rfl) rfl rfl ?_ ?_ ?_; (focus (intro _; go_simp)); (focus (first | exact fun k' h => Kn.has_own (h.own _ _ (Ne.symm n26) z6) rfl)); try walk_nrm) | (refine takeK_un (i := 0) rfl (by rfl) (by kernel_rfl) (by kernel_rfl) (by kernel_rfl) (by first | assumption | exact Kn.Grow.refl _ | rfl) ?_; try walk_nrm))
      (first | (refine takeK_nil (i := 1) rfl (by rfl) (by kernel_rfl) (by kernel_rfl) (by kernel_rfl) (by first | assumption | exact Kn.Grow.refl _ | rfl) rfl rfl (by kernel_rfl) ?_; try simp only [Option.isNone_none, Option.isNone_some]; try walk_nrm) | (co_applyP takeK_pure (i := 1) rfl (by rfl) (by kernel_rfl) (by kernel_rfl) (by kernel_rfl) (by first | assumption | exact Kn.Grow.refl _ | rfl) ?_ ?_ ?_; (focus (intro _ K hK; go_simp; exact hK)); (focus (first | (exact fun _ => ev_int rfl rfl rfl rfl) | (exact fun _ => ev_str rfl rfl rfl) | (exact fun _ => ev_build rfl) | (exact fun _ => ev_lenS rfl rfl) | (exact fun _ => ev_lenL rfl rfl) | (exact fun _ => ev_mkI rfl) | (intro _; simp [go_sem, *]; done))); try walk_nrm) | (co_applyP takeK_load1 (i := 1) rfl (by rfl) (by kernel_rfl) (by kernel_rfl) (by kernel_rfl) (by first | assumption | exact Kn.Grow.refl _ | rfl) rfl rfl ?_ ?_ ?_; (focus (intro _; go_simp)); (focus (first | exact fun k' h => Kn.has_own (h.own _ _ (Ne.symm n26) z6) rfl)); try walk_nrm) | (refine takeK_un (i := 1) rfl (by rfl) (by kernel_rfl) (by kernel_rfl) (by kernel_rfl) (by first | assumption | exact Kn.Grow.refl _ | rfl) ?_; try walk_nrm))
      (first | (refine takeK_nil (i := 2) rfl (by rfl) (by kernel_rfl) (by kernel_rfl) (by kernel_rfl) (by first | assumption | exact Kn.Grow.refl _ | rfl) rfl rfl (by kernel_rfl) ?_; try simp only [Option.isNone_none, Option.isNone_some]; try walk_nrm) | (co_applyP takeK_pure (i := 2) rfl (by rfl) (by kernel_rfl) (by kernel_rfl) (by kernel_rfl) (by first | assumption | exact Kn.Grow.refl _ | rfl) ?_ ?_ ?_; (focus (intro _ K hK; go_simp; exact hK)); (focus (first | (exact fun _ => ev_int rfl rfl rfl rfl) | (exact fun _ => ev_str rfl rfl rfl) | (exact fun _ => ev_build rfl) | (exact fun _ => ev_lenS rfl rfl) | (exact fun _ => ev_lenL rfl rfl) | (exact fun _ => ev_mkI rfl) | (intro _; simp [go_sem, *]; done))); try walk_nrm) | (co_applyP takeK_load1 (i := 2) rfl (by rfl) (by kernel_rfl) (by kernel_rfl) (by kernel_rfl) (by first | assumption | exact Kn.Grow.refl _ | rfl) rfl rfl ?_ ?_ ?_; (focus (intro _; go_simp)); (focus (first | exact fun k' h => Kn.has_own (h.own _ _ (Ne.symm n26) z6) rfl)); try walk_nrm) | (refine takeK_un (i := 2) rfl (by rfl) (by kernel_rfl) (by kernel_rfl) (by kernel_rfl) (by first | assumption | exact Kn.Grow.refl _ | rfl) ?_; try walk_nrm))
      (first | (refine takeK_nil (i := 3) rfl (by rfl) (by kernel_rfl) (by kernel_rfl) (by kernel_rfl) (by first | assumption | exact Kn.Grow.refl _ | rfl) rfl rfl (by kernel_rfl) ?_; try simp only [Option.isNone_none, Option.isNone_some]; try walk_nrm) | (co_applyP takeK_pure (i := 3) rfl (by rfl) (by kernel_rfl) (by kernel_rfl) (by kernel_rfl) (by first | assumption | exact Kn.Grow.refl _ | rfl) ?_ ?_ ?_; (focus (intro _ K hK; go_simp; exact hK)); (focus (first | (exact fun _ => ev_int rfl rfl rfl rfl) | (exact fun _ => ev_str rfl rfl rfl) | (exact fun _ => ev_build rfl) | (exact fun _ => ev_lenS rfl rfl) | (exact fun _ => ev_lenL rfl rfl) | (exact fun _ => ev_mkI rfl) | (intro _; simp [go_sem, *]; done))); try walk_nrm) | (co_applyP takeK_load1 (i := 3) rfl (by rfl) (by kernel_rfl) (by kernel_rfl) (by kernel_rfl) (by first | assumption | exact Kn.Grow.refl _ | rfl) rfl rfl ?_ ?_ ?_; (focus (intro _; go_simp)); (focus (first | exact fun k' h => Kn.has_own (h.own _ _ (Ne.symm n26) z6) rfl)); try walk_nrm) | (refine takeK_un (i := 3) rfl (by rfl) (by kernel_rfl) (by kernel_rfl) (by kernel_rfl) (by first | assumption | exact Kn.Grow.refl _ | rfl) ?_; try walk_nrm))
      (first | (refine takeK_nil (i := 4) rfl (by rfl) (by kernel_rfl) (by kernel_rfl) (by kernel_rfl) (by first | assumption | exact Kn.Grow.refl _ | rfl) rfl rfl (by kernel_rfl) ?_; try simp only [Option.isNone_none, Option.isNone_some]; try walk_nrm) | (co_applyP takeK_pure (i := 4) rfl (by rfl) (by kernel_rfl) (by kernel_rfl) (by kernel_rfl) (by first | assumption | exact Kn.Grow.refl _ | rfl) ?_ ?_ ?_; (focus (intro _ K hK; go_simp; exact hK)); (focus (first | (exact fun _ => ev_int rfl rfl rfl rfl) | (exact fun _ => ev_str rfl rfl rfl) | (exact fun _ => ev_build rfl) | (exact fun _ => ev_lenS rfl rfl) | (exact fun _ => ev_lenL rfl rfl) | (exact fun _ => ev_mkI rfl) | (intro _; simp [go_sem, *]; done))); try walk_nrm) | (co_applyP takeK_load1 (i := 4) rfl (by rfl) (by kernel_rfl) (by kernel_rfl) (by kernel_rfl) (by first | assumption | exact Kn.Grow.refl _ | rfl) rfl rfl ?_ ?_ ?_; (focus (intro _; go_simp)); (focus (first | exact fun k' h => Kn.has_own (h.own _ _ (Ne.symm n26) z6) rfl)); try walk_nrm) | (refine takeK_un (i := 4) rfl (by rfl) (by kernel_rfl) (by kernel_rfl) (by kernel_rfl) (by first | assumption | exact Kn.Grow.refl _ | rfl) ?_; try walk_nrm))
      (first | (refine takeK_nil (i := 6) rfl (by rfl) (by kernel_rfl) (by kernel_rfl) (by kernel_rfl) (by first | assumption | exact Kn.Grow.refl _ | rfl) rfl rfl (by kernel_rfl) ?_; try simp only [Option.isNone_none, Option.isNone_some]; try walk_nrm) | (co_applyP takeK_pure (i := 6) rfl (by rfl) (by kernel_rfl) (by kernel_rfl) (by kernel_rfl) (by first | assumption | exact Kn.Grow.refl _ | rfl) ?_ ?_ ?_; (focus (intro _ K hK; go_simp; exact hK)); (focus (first | (exact fun _ => ev_int rfl rfl rfl rfl) | (exact fun _ => ev_str rfl rfl rfl) | (exact fun _ => ev_build rfl) | (exact fun _ => ev_lenS rfl rfl) | (exact fun _ => ev_lenL rfl rfl) | (exact fun _ => ev_mkI rfl) | (intro _; simp [go_sem, *]; done))); try walk_nrm) | (co_applyP takeK_load1 (i := 6) rfl (by rfl) (by kernel_rfl) (by kernel_rfl) (by kernel_rfl) (by first | assumption | exact Kn.Grow.refl _ | rfl) rfl rfl ?_ ?_ ?_; (focus (intro _; go_simp)); (focus (first | exact fun k' h => Kn.has_own (h.own _ _ (Ne.symm n26) z6) rfl)); try walk_nrm) | (refine takeK_un (i := 6) rfl (by rfl) (by kernel_rfl) (by kernel_rfl) (by kernel_rfl) (by first | assumption | exact Kn.Grow.refl _ | rfl) ?_; try walk_nrm))
      (first | (refine takeK_nil (i := 7) rfl (by rfl) (by kernel_rfl) (by kernel_rfl) (by kernel_rfl) (by first | assumption | exact Kn.Grow.refl _ | rfl) rfl rfl (by kernel_rfl) ?_; try simp only [Option.isNone_none, Option.isNone_some]; try walk_nrm) | (co_applyP takeK_pure (i := 7) rfl (by rfl) (by kernel_rfl) (by kernel_rfl) (by kernel_rfl) (by first | assumption | exact Kn.Grow.refl _ | rfl) ?_ ?_ ?_; (focus (intro _ K hK; go_simp; exact hK)); (focus (first | (exact fun _ => ev_int rfl rfl rfl rfl) | (exact fun _ => ev_str rfl rfl rfl) | (exact fun _ => ev_build rfl) | (exact fun _ => ev_lenS rfl rfl) | (exact fun _ => ev_lenL rfl rfl) | (exact fun _ => ev_mkI rfl) | (intro _; simp [go_sem, *]; done))); try walk_nrm) | (co_applyP takeK_load1 (i := 7) rfl (by rfl) (by kernel_rfl) (by kernel_rfl) (by kernel_rfl) (by first | assumption | exact Kn.Grow.refl _ | rfl) rfl rfl ?_ ?_ ?_; (focus (intro _; go_simp)); (focus (first | exact fun k' h => Kn.has_own (h.own _ _ (Ne.symm n26) z6) rfl)); try walk_nrm) | (refine takeK_un (i := 7) rfl (by rfl) (by kernel_rfl) (by kernel_rfl) (by kernel_rfl) (by first | assumption | exact Kn.Grow.refl _ | rfl) ?_; try walk_nrm))
      (first | (refine takeK_nil (i := 8) rfl (by rfl) (by kernel_rfl) (by kernel_rfl) (by kernel_rfl) (by first | assumption | exact Kn.Grow.refl _ | rfl) rfl rfl (by kernel_rfl) ?_; try simp only [Option.isNone_none, Option.isNone_some]; try walk_nrm) | (co_applyP takeK_pure (i := 8) rfl (by rfl) (by kernel_rfl) (by kernel_rfl) (by kernel_rfl) (by first | assumption | exact Kn.Grow.refl _ | rfl) ?_ ?_ ?_; (focus (intro _ K hK; go_simp; exact hK)); (focus (first | (exact fun _ => ev_int rfl rfl rfl rfl) | (exact fun _ => ev_str rfl rfl rfl) | (exact fun _ => ev_build rfl) | (exact fun _ => ev_lenS rfl rfl) | (exact fun _ => ev_lenL rfl rfl) | (exact fun _ => ev_mkI rfl) | (intro _; simp [go_sem, *]; done))); try walk_nrm) | (co_applyP takeK_load1 (i := 8) rfl (by rfl) (by kernel_rfl) (by kernel_rfl) (by kernel_rfl) (by first | assumption | exact Kn.Grow.refl _ | rfl) rfl rfl ?_ ?_ ?_; (focus (intro _; go_simp)); (focus (first | exact fun k' h => Kn.has_own (h.own _ _ (Ne.symm n26) z6) rfl)); try walk_nrm) | (refine takeK_un (i := 8) rfl (by rfl) (by kernel_rfl) (by kernel_rfl) (by kernel_rfl) (by first | assumption | exact Kn.Grow.refl _ | rfl) ?_; try walk_nrm))
      (first | (refine takeK_nil (i := 9) rfl (by rfl) (by kernel_rfl) (by kernel_rfl) (by kernel_rfl) (by first | assumption | exact Kn.Grow.refl _ | rfl) rfl rfl (by kernel_rfl) ?_; try simp only [Option.isNone_none, Option.isNone_some]; try walk_nrm) | (co_applyP takeK_pure (i := 9) rfl (by rfl) (by kernel_rfl) (by kernel_rfl) (by kernel_rfl) (by first | assumption | exact Kn.Grow.refl _ | rfl) ?_ ?_ ?_; (focus (intro _ K hK; go_simp; exact hK)); (focus (first | (exact fun _ => ev_int rfl rfl rfl rfl) | (exact fun _ => ev_str rfl rfl rfl) | (exact fun _ => ev_build rfl) | (exact fun _ => ev_lenS rfl rfl) | (exact fun _ => ev_lenL rfl rfl) | (exact fun _ => ev_mkI rfl) | (intro _; simp [go_sem, *]; done))); try walk_nrm) | (co_applyP takeK_load1 (i := 9) rfl (by rfl) (by kernel_rfl) (by kernel_rfl) (by kernel_rfl) (by first | assumption | exact Kn.Grow.refl _ | rfl) rfl rfl ?_ ?_ ?_; (focus (intro _; go_simp)); (focus (first | exact fun k' h => Kn.has_own (h.own _ _ (Ne.symm n26) z6) rfl)); try walk_nrm) | (refine takeK_un (i := 9) rfl (by rfl) (by kernel_rfl) (by kernel_rfl) (by kernel_rfl) (by first | assumption | exact Kn.Grow.refl _ | rfl) ?_; try walk_nrm))
      refine anyK_trip 5 (by kernel_rfl) rfl (by rfl) (exec_loadN (vs := [.pointer pa]) rfl rfl (fun w => by kernel_rfl) (fun w => by kernel_rfl) (reads1 (Kn.has_own zB rfl)) ⟨sK, ?_⟩)
      walk_nrm
      refine anyK_call 10 (by kernel_rfl) rfl (by rfl) rfl (by walk_nrm; rfl) (mapPut_k x.1 x.2 t k8 _ zt aok (by omega)) ?_
      rintro _ k9 ⟨p', rfl, t9, x9⟩
      obtain ⟨pb, rfl⟩ := t9.ptr
      have sK9 : k8.ExtX (· = b2) k9 := x9.x
      refine ⟨sK9, ?_⟩
      walk_nrm
      refine tkF 11 ?_
      refine tkF 12 ?_
      refine tkF 13 ?_
      refine anyK_trip 14 (by kernel_rfl) rfl (by rfl) (exec_storeL (c' := boxC 0 (.pointer pb) (.map (some b1))) rfl rfl rfl rfl (fun w => by kernel_rfl) (x9.own _ _ zB) rfl rfl rfl ?_)
      have fx : k8.ExtX (· = b2) (k9.set b2 (.cells (boxC 0 (.pointer pb) (.map (some b1))) 64)) := sK9.trans (Kn.ExtX.set _ _ _ rfl)
      refine ⟨fx, ?_⟩
      walk_nrm
      (refine anyK_done (by kernel_rfl) ?_ _; simp only [thenK, blockK, if_true, if_false, reduceIte, Nat.reduceEqDiff])
      refine goF ?_
      refine ⟨i + 1, ?_, by omega, (ax.trans (yx.trans g8.ext).x).trans fx, ⟨.pointer pb, putT t x.1 x.2, Kn.set_same _ _ _, t9, putT_ok aok _ _, ?_, ?_, ?_⟩, _, rfl, rfl⟩
      · simp [WellFoundedRelation.rel, measure, invImage, InvImage]; omega
      · rw [putT_ents asrt, aents, htk, insAll_snoc]
      · rw [putT_ents asrt]; exact srt_insL asrt
      · have := putT_sz x.1 x.2 aok
        omega
    · have d1 : decide ((i : Int) < (l.length : Int)) = false := by simp; omega
      obtain rfl : i = l.length := by omega
      rw [List.take_length] at aents
      refine goF ?_
      exact ⟨ax, ⟨.pointer pa, t, aB, at_, aok, aents, asrt, asz⟩, _, rfl, rfl⟩
  · rintro _ k9 ⟨x9, ⟨p, t, a1, a2, a3, a4, a5, a6⟩, T', rfl, hT'⟩
    obtain ⟨y, rfl⟩ : ∃ y : Nat → Value, T' = #[y 0, y 1, y 2, y 3, .pointer (some ⟨b2, 0, none⟩), y 5, y 6, y 7, y 8, y 9, y 10, y 11, y 12, y 13, y 14, y 15, y 16, y 17, y 18, y 19, y 20, y 21, y 22, y 23, y 24, y 25, y 26, y 27, y 28, y 29, y 30, y 31, y 32, y 33, y 34, y 35, y 36, y 37, y 38, y 39, y 40, y 41, y 42, y 43, y 44, y 45, y 46, y 47, y 48, y 49, y 50, y 51] := ⟨fun j => T'.getD j undef, hT'⟩
    clear hT'
    refine goF ?_
    refine retK2 rfl rfl ⟨b2, b1, p, t, rfl, ⟨fun a v h => x9.ro _ _ (x02.ro _ _ h), fun b o h => x9.own _ _ (fun e => by subst e; rw [kn2] at h; cases h) (x02.own _ _ h), x9.oc.trans x02.oc, x9.deaf.trans x02.deaf, x9.live.trans x02.live, x9.gh.trans x02.gh⟩, kn2, n1, a1,
      ⟨#[], 0, x9.own _ _ (Ne.symm n21) o21, MOk.nil, fun _ => rfl⟩, a2, a3, a4, a5, a6⟩
set_option maxRecDepth 100000 in
theorem tbegin_k {main : Who} (k : Kn) (B : Nat) (num : Int) (p last : Value) (hp : ∃ x, p = .pointer x) (hl : ∃ x, last = .map x) (hb : k.own B = some (.cells (boxC num p last) 64)) :
    CallsK Try.prog main 11 #[.pointer (some ⟨B, 0, none⟩)] k fun v k' => ∃ T mr mc, v = .pointer (some ⟨T, 0, none⟩) ∧ k.Ext k' ∧ TxnK k' T B num p (fun _ => none) (fun _ => none) mr mc 0 false ∧ k.own T = none ∧ k.own mr = none ∧ k.own mc = none := by
  (refine callsK_of Try.func11 (by first | rfl | kernel_rfl) rfl ?_; simp only [Try.ntmps11, List.size_toArray, List.length_cons, List.length_nil, Nat.reduceAdd, Nat.reduceSub, Array.replicate_succ, Array.replicate_zero, List.push_toArray, List.append_toArray, List.nil_append, List.cons_append])
  refine goF ?_
  refine opsK_callv rfl (by rfl) rfl (by first | (walk_nrm; done) | (walk_nrm; rfl)) (committed_k k B num p last hp hl hb) ?_
  rintro _ k1 ⟨rfl, x1⟩
  walk_nrm
  refine opsK_callv rfl (by rfl) rfl (by first | (walk_nrm; done) | (walk_nrm; rfl)) (begin_k k1 B num p hp) ?_
  rintro _ k2 ⟨T, mr, mc, rfl, x2, hT, n1, n2, n3⟩
  walk_nrm
  refine goF ?_
  have f : ∀ {b : Nat}, k1.own b = none → k.own b = none := fun {b} hn => by
    cases e : k.own b with
    | none => rfl
    | some o => rw [x1.own _ _ e] at hn; cases hn
  exact retK1 rfl rfl ⟨T, mr, mc, rfl, x1.trans x2, hT, f n1, f n2, f n3⟩
set_option maxRecDepth 100000 in
theorem version_k {main : Who} (k : Kn) (B : Nat) (num : Int) (p last : Value) (hp : ∃ x, p = .pointer x) (hl : ∃ x, last = .map x) (hb : k.own B = some (.cells (boxC num p last) 64)) :
    CallsK Try.prog main 7 #[.pointer (some ⟨B, 0, none⟩)] k fun v k' => v = intV num ∧ k.Ext k' := by
  (refine callsK_of Try.func7 (by first | rfl | kernel_rfl) rfl ?_; simp only [Try.ntmps7, List.size_toArray, List.length_cons, List.length_nil, Nat.reduceAdd, Nat.reduceSub, Array.replicate_succ, Array.replicate_zero, List.push_toArray, List.append_toArray, List.nil_append, List.cons_append])
  refine goF ?_
  refine opsK_callv rfl (by rfl) rfl (by first | (walk_nrm; done) | (walk_nrm; rfl)) (committed_k k B num p last hp hl hb) ?_
  rintro _ k1 ⟨rfl, x1⟩
  walk_nrm
  obtain ⟨x, rfl⟩ := hp
  refine opsK_sure (.int .i64 num) rfl (by rfl) (fun w => by kernel_rfl) (fun w => by kernel_rfl) ?_; walk_nrm
  refine goF ?_
  exact retK1 rfl rfl ⟨rfl, x1⟩
end Go.Proofs.Ytacfhfeegalmlaa
