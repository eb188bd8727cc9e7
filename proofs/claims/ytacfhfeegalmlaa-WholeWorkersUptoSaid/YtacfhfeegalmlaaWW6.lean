/-
  Joined texts: THE SESSION, in company: valid, committed. · A TRANSACTION, in company: begin, check, see, Put, Get. · REGIONS THAT DRAW THEIR ORDER, in company: an operation that alone is ready, whatever it does. · A RANGE OVER A FUNCTION, in company: the body's rounds, the loop's entry and end.
-/
import Derived.Test.YtacfhfeegalmlaaWW5
import Derived.AtR

/- THE SESSION, in company: valid, committed. -/
namespace Go.Proofs.Ytacfhfeegalmlaa
open Go.Conc
set_option linter.unusedVariables false
set_option linter.unusedSimpArgs false

section
variable {P : Program} {main : Who} {a : Act} {k : Kn}
theorem retKD {f : Func} {Post : Value → Kn → Prop} {g : FuncId} {args : Array Value} {ds : List Deferred} {Post1 : Value → Kn → Prop} (hd : a.defers = dcall g args :: ds) (hc : CallsK P main g args k Post1)
    (hn : ∀ v k', Post1 v k' → LeaveK P main f a.tmps Post ds k') : bodyK P main f Post .ret a k := by
  show LeaveK P main f a.tmps Post a.defers k
  rw [hd]
  exact .inl ⟨g, args, rfl, hc.mono hn⟩
theorem leaveN {f : Func} {tmps : Array Value} {Post : Value → Kn → Prop} {t : Tmp} {ty : TypeId} {ad : Addr} {vs : List Value} (hr : f.results = #[.cell t ty]) (hx : tmps.getD t undef = .pointer (some ad))
    (hag : ∀ w, (Go.isAgg ty).run P w = .ok true w) (hsz : ∀ w, (Go.sizeOf ty).run P w = .ok vs.length w) (hc : k.Reads ad vs) (hp : Post (.agg vs.toArray) k) : LeaveK P main f tmps Post [] k :=
  retKN (main := main) (a := ⟨tmps, []⟩) hr rfl hx hag hsz hc hp
theorem leave2 {f : Func} {tmps : Array Value} {Post : Value → Kn → Prop} {t u : Tmp} (hr : f.results = #[.tmp t, .tmp u]) (hp : Post (.tuple #[tmps.getD t undef, tmps.getD u undef]) k) : LeaveK P main f tmps Post [] k :=
  retK2 (main := main) (a := ⟨tmps, []⟩) hr rfl hp
end
/-- may it be used as a name? -/
def validN (s : ByteArray) : Bool := decide (1 ≤ s.size) && decide (s.size ≤ 32)
/-- A box in memory. -/
def boxC (num : Int) (p last : Value) : Array Value := #[.int .i32 0, .int .u32 0, .int .i64 num, p, last]
theorem reads2 {k : Kn} {b o : Nat} {u v : Value} (h1 : k.Has ⟨b, o, none⟩ u) (h2 : k.Has ⟨b, o + 1, none⟩ v) : k.Reads ⟨b, o, none⟩ [u, v] := by
  intro j x hj
  match j, hj with
  | 0, hj => obtain rfl := Option.some.inj hj; exact h1
  | 1, hj => obtain rfl := Option.some.inj hj; exact h2
set_option maxRecDepth 100000 in
theorem valid_k {main : Who} (k : Kn) (s : ByteArray) : CallsK Try.prog main 15 #[.string s] k fun v k' => v = .bool (validN s) ∧ k = k' := by
  (refine callsK_of Try.func15 (by first | rfl | kernel_rfl) rfl ?_; simp only [Try.ntmps15, List.size_toArray, List.length_cons, List.length_nil, Nat.reduceAdd, Nat.reduceSub, Array.replicate_succ, Array.replicate_zero, List.push_toArray, List.append_toArray, List.nil_append, List.cons_append])
  by_cases h1 : 1 ≤ s.size
  · have d1 : decide ((1 : Int) ≤ (s.size : Int)) = true := by simp; omega
    refine goF ?_
    refine retK1 rfl rfl ⟨?_, rfl⟩
    simp [h1, validN]
    omega
  · have d1 : decide ((1 : Int) ≤ (s.size : Int)) = false := by simp; omega
    refine goF ?_
    refine retK1 rfl rfl ⟨?_, rfl⟩
    simp [h1, validN]
set_option maxRecDepth 100000 in
theorem committed_k {main : Who} (k : Kn) (B : Nat) (num : Int) (p last : Value) (hp : ∃ x, p = .pointer x) (hl : ∃ x, last = .map x) (hb : k.own B = some (.cells (boxC num p last) 64)) :
    CallsK Try.prog main 24 #[.pointer (some ⟨B, 0, none⟩)] k fun v k' => v = .agg #[.int .i64 num, p] ∧ k.Ext k' := by
  obtain ⟨x, rfl⟩ := hp
  obtain ⟨y, rfl⟩ := hl
  (refine callsK_of Try.func24 (by first | rfl | kernel_rfl) rfl ?_; simp only [Try.ntmps24, List.size_toArray, List.length_cons, List.length_nil, Nat.reduceAdd, Nat.reduceSub, Array.replicate_succ, Array.replicate_zero, List.push_toArray, List.append_toArray, List.nil_append, List.cons_append])
  refine goF ?_
  refine opsK_alloc (z := .agg #[.int .i64 0, .pointer none]) rfl (by rfl) rfl (fun w => by kernel_rfl) ?_
  intro r hr
  have hne : B ≠ r := hr.ne hb
  have g1 : k.Ext (k.set r (.cells #[.int .i64 0, .pointer none] 62)) := hr.ext _
  have hb1 : (k.set r (.cells #[.int .i64 0, .pointer none] 62)).own B = some (.cells (boxC num (.pointer x) (.map y)) 64) := by rw [Kn.set_ne _ _ hne]; exact hb
  walk_nrm
  refine goF ?_
  refine opsK_callv rfl (by rfl) rfl (by first | (walk_nrm; done) | (walk_nrm; rfl)) (lock_k _ B (boxC num (.pointer x) (.map y)) 64 hb1 rfl) ?_
  rintro v _ rfl
  walk_nrm
  refine goF ?_
  refine opsK_defer rfl (by rfl) rfl ?_
  walk_nrm
  refine goF ?_
  have hb2 : ((k.set r (.cells #[.int .i64 0, .pointer none] 62)).set B (.cells ((boxC num (.pointer x) (.map y)).setIfInBounds 0 (.int .i32 1)) 64)).own B = some (.cells #[.int .i32 1, .int .u32 0, .int .i64 num, .pointer x, .map y] 64) := Kn.set_same _ _ _
  have hr2 : ((k.set r (.cells #[.int .i64 0, .pointer none] 62)).set B (.cells ((boxC num (.pointer x) (.map y)).setIfInBounds 0 (.int .i32 1)) 64)).own r = some (.cells #[.int .i64 0, .pointer none] 62) := by rw [Kn.set_ne _ _ (Ne.symm hne)]; exact Kn.set_same _ _ _
  refine opsK_loadN (vs := [.int .i64 num, .pointer x]) rfl (by rfl) rfl rfl (fun w => by kernel_rfl) (fun w => by kernel_rfl) (reads2 (Kn.has_own hb2 rfl) (Kn.has_own hb2 rfl)) ?_
  walk_nrm
  refine opsK_storeL (c' := #[.int .i64 num, .pointer x]) rfl (by rfl) rfl rfl rfl rfl (fun w => by kernel_rfl) hr2 rfl rfl rfl ?_
  walk_nrm
  refine goF ?_
  refine retKD rfl (unlock_k _ B #[.int .i32 1, .int .u32 0, .int .i64 num, .pointer x, .map y] 64 (by rw [Kn.set_ne _ _ hne]; exact hb2) rfl) ?_
  rintro _ _ rfl
  refine leaveN (vs := [.int .i64 num, .pointer x]) rfl rfl (fun w => by kernel_rfl) (fun w => by kernel_rfl) (reads2 ?_ ?_) ⟨rfl, ?_⟩
  · refine Kn.has_own (c := #[.int .i64 num, .pointer x]) (t := 62) (f := (0, 0)) ?_ rfl
    rw [Kn.set_ne _ _ (Ne.symm hne)]; exact Kn.set_same _ _ _
  · refine Kn.has_own (c := #[.int .i64 num, .pointer x]) (t := 62) (f := (0, 0)) ?_ rfl
    rw [Kn.set_ne _ _ (Ne.symm hne)]; exact Kn.set_same _ _ _
  · refine ⟨fun _ _ h => h, fun b o h => ?_, rfl, rfl, rfl, rfl⟩
    by_cases e : b = B
    · subst e
      rw [Kn.set_same, ← h, hb]
      rfl
    · have e2 : b ≠ r := hr.ne h
      rw [Kn.set_ne _ _ e, Kn.set_ne _ _ e2, Kn.set_ne _ _ e, Kn.set_ne _ _ e2]
      exact h
end Go.Proofs.Ytacfhfeegalmlaa

/- A TRANSACTION, in company: begin, check, see, Put, Get. -/
namespace Go.Proofs.Ytacfhfeegalmlaa
open Go.Conc
set_option linter.unusedVariables false
set_option linter.unusedSimpArgs false

theorem Kn.New.pack {k : Kn} {b : Nat} (h : k.New b) (o : Obj) {M : Kn → Prop} (hM : ∀ k1, k.Ext k1 → k1.own b = some o → k.own b = none → M k1) : M (k.set b o) := hM _ (h.ext o) (Kn.set_same _ _ _) h.own
/-- the error number n -/
def errV (n : Int) : Value := .iface 66 (.int .i64 n)
def txnC (B : Nat) (num : Int) (p : Value) (mr mc : Nat) (done : Bool) : Array Value := #[.pointer (some ⟨B, 0, none⟩), .int .i64 num, p, .map (some mr), .map (some mc), .bool done]
/-- A transaction of one's own: what it has read (names), what it has changed. -/
structure TxnK (k : Kn) (T B : Nat) (num : Int) (p : Value) (R C : ByteArray → Option Value) (mr mc nC : Nat) (d : Bool) : Prop where
  txn : k.own T = some (.cells (txnC B num p mr mc d) 98)
  rd : ∃ es c, k.own mr = some (.map es c) ∧ MOk es c ∧ (∀ s, mgetL es.toList s = R s)
  ch : ∃ es c, k.own mc = some (.map es c) ∧ MOk es c ∧ (∀ s, mgetL es.toList s = C s) ∧ es.size ≤ nC
  ne1 : T ≠ mr
  ne2 : T ≠ mc
  ne3 : mr ≠ mc
theorem TxnK.ext {k k' : Kn} {T B : Nat} {num : Int} {p : Value} {R C : ByteArray → Option Value} {mr mc nC : Nat} {d : Bool} (h : TxnK k T B num p R C mr mc nC d) (he : ∀ b o, k.own b = some o → k'.own b = some o) : TxnK k' T B num p R C mr mc nC d :=
  ⟨he _ _ h.txn, h.rd.imp fun es ⟨c, h1, h2⟩ => ⟨c, he _ _ h1, h2⟩, h.ch.imp fun es ⟨c, h1, h2⟩ => ⟨c, he _ _ h1, h2⟩, h.ne1, h.ne2, h.ne3⟩
set_option maxRecDepth 100000 in
theorem begin_k {main : Who} (k : Kn) (B : Nat) (num : Int) (p : Value) (hp : ∃ x, p = .pointer x) :
    CallsK Try.prog main 26 #[.pointer (some ⟨B, 0, none⟩), .agg #[.int .i64 num, p]] k fun v k' => ∃ T mr mc, v = .pointer (some ⟨T, 0, none⟩) ∧ k.Ext k' ∧ TxnK k' T B num p (fun _ => none) (fun _ => none) mr mc 0 false ∧ k.own T = none ∧ k.own mr = none ∧ k.own mc = none := by
  obtain ⟨x, rfl⟩ := hp
  (refine callsK_of Try.func26 (by first | rfl | kernel_rfl) rfl ?_; simp only [Try.ntmps26, List.size_toArray, List.length_cons, List.length_nil, Nat.reduceAdd, Nat.reduceSub, Array.replicate_succ, Array.replicate_zero, List.push_toArray, List.append_toArray, List.nil_append, List.cons_append])
  (first | apply wpK_seq | apply wpK_block | apply wpK_skip | apply wpK_label | apply wpK_ret | apply wpK_exit | apply opsK_nil)
  (apply wpK_region; simp only [List.size_toArray, List.length_cons, List.length_nil, Nat.reduceAdd, Nat.zero_add, List.range, List.range.loop])
  refine opsK_box rfl (by rfl) rfl rfl ?_
  intro b1 hb1
  refine hb1.pack (M := fun k1 => OpsK _ _ _ _ _ _ _ k1) _ ?_
  intro k1 x1 o1 n1
  walk_nrm
  refine goF ?_
  refine opsK_loadN (vs := [.int .i64 num, .pointer x]) rfl (by rfl) rfl rfl (fun w => by kernel_rfl) (fun w => by kernel_rfl) (reads2 (Kn.has_own o1 rfl) (Kn.has_own o1 rfl)) ?_
  walk_nrm
  refine opsK_makeMap rfl (by rfl) rfl ?_
  intro b2 hb2
  refine hb2.pack (M := fun k1 => OpsK _ _ _ _ _ _ _ k1) _ ?_
  intro k2 x2 o2 n2
  walk_nrm
  refine opsK_makeMap rfl (by rfl) rfl ?_
  intro b3 hb3
  refine hb3.pack (M := fun k1 => OpsK _ _ _ _ _ _ _ k1) _ ?_
  intro k3 x3 o3 n3
  walk_nrm
  refine goF ?_
  refine opsK_box rfl (by rfl) rfl rfl ?_
  intro b4 hb4
  refine hb4.pack (M := fun k1 => OpsK _ _ _ _ _ _ _ k1) _ ?_
  intro k4 x4 o4 n4
  walk_nrm
  refine goF ?_
  have x13 := x1.trans (x2.trans x3)
  have f : ∀ {b : Nat} {kk : Kn}, k.Ext kk → kk.own b = none → k.own b = none := fun {b kk} hx hn => by
    cases e : k.own b with
    | none => rfl
    | some o => rw [hx.own _ _ e] at hn; cases hn
  have ne42 : b4 ≠ b2 := fun e => by subst e; rw [x3.own _ _ o2] at n4; cases n4
  have ne43 : b4 ≠ b3 := fun e => by subst e; rw [o3] at n4; cases n4
  have ne23 : b2 ≠ b3 := fun e => by subst e; rw [o2] at n3; cases n3
  refine retK1 rfl rfl ⟨b4, b2, b3, rfl, x13.trans x4, ⟨o4, ⟨#[], 0, x4.own _ _ (x3.own _ _ o2), MOk.nil, fun _ => rfl⟩, ⟨#[], 0, x4.own _ _ o3, MOk.nil, fun _ => rfl, Nat.le_refl _⟩, ne42, ne43, ne23⟩, f x13 n4, f x1 n2, f (x1.trans x2) n3⟩
/-- .. all but some blocks of one's own are kept. -/
structure Kn.ExtX (S : Nat → Prop) (k k' : Kn) : Prop where
  ro : ∀ a v, k.ro a = some v → k'.ro a = some v
  own : ∀ b o, ¬ S b → k.own b = some o → k'.own b = some o
  oc : k'.oc = k.oc
  deaf : k'.deaf = k.deaf
  live : k'.live = k.live
  gh : k'.gh = k.gh
theorem Kn.ExtX.trans {S : Nat → Prop} {k k1 k2 : Kn} (h : k.ExtX S k1) (h' : k1.ExtX S k2) : k.ExtX S k2 :=
  ⟨fun a v x => h'.ro a v (h.ro a v x), fun b o n x => h'.own b o n (h.own b o n x), h'.oc.trans h.oc, h'.deaf.trans h.deaf, h'.live.trans h.live, h'.gh.trans h.gh⟩
theorem Kn.Ext.x {S : Nat → Prop} {k k' : Kn} (h : k.Ext k') : k.ExtX S k' := ⟨h.ro, fun b o _ x => h.own b o x, h.oc, h.deaf, h.live, h.gh⟩
theorem Kn.ExtX.mono {S S' : Nat → Prop} {k k' : Kn} (h : k.ExtX S k') (hs : ∀ b, S b → S' b) : k.ExtX S' k' := ⟨h.ro, fun b o n x => h.own b o (fun y => n (hs b y)) x, h.oc, h.deaf, h.live, h.gh⟩
theorem Kn.ExtX.refl {S : Nat → Prop} (k : Kn) : k.ExtX S k := (Kn.Ext.refl k).x
theorem Kn.ExtX.set {S : Nat → Prop} (k : Kn) (b : Nat) (o : Obj) (h : S b) : k.ExtX S (k.set b o) :=
  ⟨fun _ _ x => x, fun x u n hu => by rw [Kn.set_ne _ _ (fun e => n (by rw [e]; exact h))]; exact hu, rfl, rfl, rfl, rfl⟩
theorem reads1 {k : Kn} {a : Addr} {u : Value} (h : k.Has a u) : k.Reads a [u] := by
  intro j x hj
  match j, hj with
  | 0, hj => obtain rfl := Option.some.inj hj; simpa [Addr.add] using h
theorem getV_tuple (t : Tr) (s : ByteArray) : ∃ x b, getV t s = .tuple #[.int .i64 x, .bool b] := by
  unfold getV
  split
  · exact ⟨_, _, rfl⟩
  · exact ⟨_, _, rfl⟩
open Classical in
noncomputable def updB {α : Type} (f : ByteArray → Option α) (s : ByteArray) (v : α) : ByteArray → Option α := fun u => if u = s then some v else f u
set_option maxRecDepth 100000 in
set_option maxHeartbeats 1000000 in
theorem check_k {main : Who} (k : Kn) (T B : Nat) (num : Int) (p : Value) (mr mc : Nat) (s : ByteArray) (hT : k.own T = some (.cells (txnC B num p mr mc false) 98)) :
    CallsK Try.prog main 27 #[.pointer (some ⟨T, 0, none⟩), .string s] k fun v k' => v = (if validN s then .nilIface else errV 13) ∧ k = k' := by
  have h0 : k.Has ⟨T, 0, none⟩ (.pointer (some ⟨B, 0, none⟩)) := Kn.has_own hT rfl
  have h5 : k.Has ⟨T, 5, none⟩ (.bool false) := Kn.has_own hT rfl
  (refine callsK_of Try.func27 (by first | rfl | kernel_rfl) rfl ?_; simp only [Try.ntmps27, List.size_toArray, List.length_cons, List.length_nil, Nat.reduceAdd, Nat.reduceSub, Array.replicate_succ, Array.replicate_zero, List.push_toArray, List.append_toArray, List.nil_append, List.cons_append])
  repeat (first | (apply wpK_region; simp only [List.size_toArray, List.length_cons, List.length_nil, Nat.reduceAdd, Nat.zero_add, List.range, List.range.loop]) | ((first | refine opsK_max rfl (by rfl) rfl rfl rfl ?_ | refine opsK_eqNil rfl (by rfl) rfl rfl (by kernel_rfl) ?_ | refine opsK_neNil rfl (by rfl) rfl rfl (by kernel_rfl) ?_); try simp only [Option.isNone_none, Option.isNone_some, Bool.not_true, Bool.not_false]; try walk_nrm) | (co_applyP opsK_pure_k rfl (by rfl) ?_ ?_ ?_; (focus (intro _ K hK; go_simp; exact hK)); (focus (first | (exact fun _ => ev_int rfl rfl rfl rfl) | (exact fun _ => ev_str rfl rfl rfl) | (exact fun _ => ev_build rfl) | (exact fun _ => ev_lenS rfl rfl) | (exact fun _ => ev_lenL rfl rfl) | (exact fun _ => ev_mkI rfl) | (intro _; simp [go_sem, *]; done))); try walk_nrm) | (co_applyP opsK_load1 rfl (by rfl) rfl rfl ?_ ?_ ?_; (focus (intro _; go_simp)); (focus (first | exact h0 | exact h5)); try walk_nrm) | ((first | apply wpK_seq | apply wpK_block | apply wpK_skip | apply wpK_label | apply wpK_ret | apply wpK_exit | apply opsK_nil); try simp only [thenK, blockK, if_true, if_false, reduceIte, Nat.reduceEqDiff]) | (refine wpK_cond rfl ?_; simp only [if_true, if_false, reduceIte, Bool.false_eq_true]) | (refine opsK_unwanted rfl (by rfl) ?_; try walk_nrm))
  refine opsK_callv rfl (by rfl) rfl (by first | (walk_nrm; done) | (walk_nrm; rfl)) (valid_k k s) ?_
  rintro _ _ ⟨rfl, rfl⟩
  cases hv : validN s with
  | true =>
    walk_nrm
    refine goF ?_
    exact retK1 rfl rfl ⟨rfl, rfl⟩
  | false =>
    walk_nrm
    refine goF ?_
    exact retK1 rfl rfl ⟨rfl, rfl⟩
set_option maxRecDepth 100000 in
set_option maxHeartbeats 1000000 in
theorem see_k {main : Who} (k : Kn) (T B : Nat) (num : Int) (p : Value) (R C : ByteArray → Option Value) (mr mc nC : Nat) (t : Tr) (s : ByteArray) (hT : TxnK k T B num p R C mr mc nC false) (hp : TrK k.ro p t) (hC : C s = none) :
    CallsK Try.prog main 29 #[.pointer (some ⟨T, 0, none⟩), .string s] k fun v k' => v = getV t s ∧ TxnK k' T B num p (updB R s (.bool true)) C mr mc nC false ∧ k.ExtX (· = mr) k' := by
  obtain ⟨x, rfl⟩ := hp.ptr
  have h1 : k.Has ⟨T, 1, none⟩ (.int .i64 num) := Kn.has_own hT.txn rfl
  have h2 : k.Has ⟨T, 2, none⟩ (.pointer x) := Kn.has_own hT.txn rfl
  have h3 : k.Has ⟨T, 3, none⟩ (.map (some mr)) := Kn.has_own hT.txn rfl
  have h4 : k.Has ⟨T, 4, none⟩ (.map (some mc)) := Kn.has_own hT.txn rfl
  obtain ⟨es, c, hc1, hc2, hc3, hc4⟩ := hT.ch
  (refine callsK_of Try.func29 (by first | rfl | kernel_rfl) rfl ?_; simp only [Try.ntmps29, List.size_toArray, List.length_cons, List.length_nil, Nat.reduceAdd, Nat.reduceSub, Array.replicate_succ, Array.replicate_zero, List.push_toArray, List.append_toArray, List.nil_append, List.cons_append])
  repeat (first | (apply wpK_region; simp only [List.size_toArray, List.length_cons, List.length_nil, Nat.reduceAdd, Nat.zero_add, List.range, List.range.loop]) | ((first | refine opsK_max rfl (by rfl) rfl rfl rfl ?_ | refine opsK_eqNil rfl (by rfl) rfl rfl (by kernel_rfl) ?_ | refine opsK_neNil rfl (by rfl) rfl rfl (by kernel_rfl) ?_); try simp only [Option.isNone_none, Option.isNone_some, Bool.not_true, Bool.not_false]; try walk_nrm) | (co_applyP opsK_pure_k rfl (by rfl) ?_ ?_ ?_; (focus (intro _ K hK; go_simp; exact hK)); (focus (first | (exact fun _ => ev_int rfl rfl rfl rfl) | (exact fun _ => ev_str rfl rfl rfl) | (exact fun _ => ev_build rfl) | (exact fun _ => ev_lenS rfl rfl) | (exact fun _ => ev_lenL rfl rfl) | (exact fun _ => ev_mkI rfl) | (intro _; simp [go_sem, *]; done))); try walk_nrm) | (co_applyP opsK_load1 rfl (by rfl) rfl rfl ?_ ?_ ?_; (focus (intro _; go_simp)); (focus (first | exact h3 | exact h4)); try walk_nrm) | ((first | apply wpK_seq | apply wpK_block | apply wpK_skip | apply wpK_label | apply wpK_ret | apply wpK_exit | apply opsK_nil); try simp only [thenK, blockK, if_true, if_false, reduceIte, Nat.reduceEqDiff]) | (refine wpK_cond rfl ?_; simp only [if_true, if_false, reduceIte, Bool.false_eq_true]) | (refine opsK_unwanted rfl (by rfl) ?_; try walk_nrm))
  refine opsK_lookupOk (kt := 9) (e := 94) (z := .agg #[.int .i64 0, .bool false]) rfl (by rfl) rfl rfl rfl (by kernel_rfl) (by kernel_rfl) (fun w => by kernel_rfl) hc1 hc2 ((hc3 s).trans hC) ?_
  simp only [Option.getD_none, Option.isSome_none]
  walk_nrm
  refine goF ?_
  refine opsK_alloc (z := .agg #[.int .i64 0, .bool false]) rfl (by rfl) rfl (fun w => by kernel_rfl) ?_
  (intro b1 hb1; refine hb1.pack (M := fun k1 => OpsK _ _ _ _ _ _ _ k1) _ ?_; intro k1 x1 o1 n1; try simp only [Value.cells] at o1); walk_nrm
  refine opsK_storeL (c' := #[.int .i64 0, .bool false]) rfl (by rfl) rfl rfl rfl rfl (fun w => by kernel_rfl) o1 rfl rfl rfl ?_
  walk_nrm
  rw [Kn.set_id o1]
  have h1 := x1.has h1
  have h2 := x1.has h2
  have h3 := x1.has h3
  repeat (first | (apply wpK_region; simp only [List.size_toArray, List.length_cons, List.length_nil, Nat.reduceAdd, Nat.zero_add, List.range, List.range.loop]) | ((first | refine opsK_max rfl (by rfl) rfl rfl rfl ?_ | refine opsK_eqNil rfl (by rfl) rfl rfl (by kernel_rfl) ?_ | refine opsK_neNil rfl (by rfl) rfl rfl (by kernel_rfl) ?_); try simp only [Option.isNone_none, Option.isNone_some, Bool.not_true, Bool.not_false]; try walk_nrm) | (co_applyP opsK_pure_k rfl (by rfl) ?_ ?_ ?_; (focus (intro _ K hK; go_simp; exact hK)); (focus (first | (exact fun _ => ev_int rfl rfl rfl rfl) | (exact fun _ => ev_str rfl rfl rfl) | (exact fun _ => ev_build rfl) | (exact fun _ => ev_lenS rfl rfl) | (exact fun _ => ev_lenL rfl rfl) | (exact fun _ => ev_mkI rfl) | (intro _; simp [go_sem, *]; done))); try walk_nrm) | (co_applyP opsK_load1 rfl (by rfl) rfl rfl ?_ ?_ ?_; (focus (intro _; go_simp)); (focus (exact h3)); try walk_nrm) | ((first | apply wpK_seq | apply wpK_block | apply wpK_skip | apply wpK_label | apply wpK_ret | apply wpK_exit | apply opsK_nil); try simp only [thenK, blockK, if_true, if_false, reduceIte, Nat.reduceEqDiff]) | (refine wpK_cond rfl ?_; simp only [if_true, if_false, reduceIte, Bool.false_eq_true]) | (refine opsK_unwanted rfl (by rfl) ?_; try walk_nrm))
  obtain ⟨er, cr, hr1, hr2, hr3⟩ := hT.rd
  refine opsK_mapUpdate (kt := 9) (e := 4) (v := .bool true) rfl (by rfl) rfl rfl rfl rfl (by kernel_rfl) (by kernel_rfl) (x1.own _ _ hr1) hr2 ?_
  obtain ⟨er', cr', e1, e2, e3, _⟩ := msetA_ok hr2 s (.bool true)
  rw [e1]
  walk_nrm
  have xs : k.ExtX (· = mr) (k1.set mr (.map er' cr')) := x1.x.trans (Kn.ExtX.set _ _ _ rfl)
  have hT' : TxnK (k1.set mr (.map er' cr')) T B num (.pointer x) (updB R s (.bool true)) C mr mc nC false := by
    refine ⟨xs.own _ _ hT.ne1 hT.txn, ⟨er', cr', Kn.set_same _ _ _, e2, fun u => ?_⟩, ⟨es, c, xs.own _ _ (Ne.symm hT.ne3) hc1, hc2, hc3, hc4⟩, hT.ne1, hT.ne2, hT.ne3⟩
    rw [e3 u, hr3 u]
    rfl
  have g1 : (k1.set mr (.map er' cr')).Has ⟨T, 2, none⟩ (.pointer x) := Kn.has_own hT'.txn rfl
  refine goF ?_
  refine opsK_loadN (vs := [.pointer x]) rfl (by rfl) rfl rfl (fun w => by kernel_rfl) (fun w => by kernel_rfl) (reads1 g1) ?_
  walk_nrm
  refine goF ?_
  refine opsK_callv rfl (by rfl) rfl (by first | (walk_nrm; done) | (walk_nrm; rfl)) (get_k s t _ _ (hp.mono xs.ro)) ?_
  rintro _ k2 ⟨rfl, g2⟩
  obtain ⟨vx, vb, ev⟩ := getV_tuple t s
  rw [ev]
  walk_nrm
  refine goF ?_
  exact retK2 rfl rfl ⟨rfl, hT'.ext (fun b o h => by rw [g2.own]; exact h), xs.trans g2.ext.x⟩
theorem opsK_sure {P : Program} {main : Who} {fn : FuncId} {Q : Exit → Act → Kn → Prop} {a : Act} {k : Kn} {ops : Array Oper} {i : Nat} {rest : List Nat} {o : Oper} (v : Value) (ho : ops[i]? = some o) (hw : Region.wanted o (yielded ops a.tmps) = true)
    (hr : ∀ w, (execOp a.eval o).run P w = .ok (.value v) w) (he : ∀ w, (execOp a.eval o).events P w #[] = #[]) (h : OpsK P main fn ops rest Q (a.put o.dst v) k) : OpsK P main fn ops (i :: rest) Q a k :=
  opsK_pure ho hw hr (fun w => listed_nil (he w)) h
set_option maxRecDepth 100000 in
set_option maxHeartbeats 1000000 in
theorem tput_k {main : Who} (k : Kn) (T B : Nat) (num : Int) (p : Value) (R C : ByteArray → Option Value) (mr mc nC : Nat) (s : ByteArray) (x : Int) (hT : TxnK k T B num p R C mr mc nC false) :
    CallsK Try.prog main 12 #[.pointer (some ⟨T, 0, none⟩), .string s, .int .i64 x] k fun v k' => v = (if validN s then .nilIface else errV 13) ∧ TxnK k' T B num p R (if validN s then updB C s (.agg #[.int .i64 x, .bool false]) else C) mr mc (if validN s then nC + 1 else nC) false ∧ k.ExtX (· = mc) k' := by
  have h4 : k.Has ⟨T, 4, none⟩ (.map (some mc)) := Kn.has_own hT.txn rfl
  obtain ⟨es, c, hc1, hc2, hc3, hc4⟩ := hT.ch
  (refine callsK_of Try.func12 (by first | rfl | kernel_rfl) rfl ?_; simp only [Try.ntmps12, List.size_toArray, List.length_cons, List.length_nil, Nat.reduceAdd, Nat.reduceSub, Array.replicate_succ, Array.replicate_zero, List.push_toArray, List.append_toArray, List.nil_append, List.cons_append])
  refine goF ?_
  refine opsK_callv rfl (by rfl) rfl (by first | (walk_nrm; done) | (walk_nrm; rfl)) (check_k k T B num p mr mc s hT.txn) ?_
  rintro _ _ ⟨rfl, rfl⟩
  cases hv : validN s with
  | false =>
    simp only [if_false, Bool.false_eq_true]
    walk_nrm
    refine goF ?_
    refine opsK_sure (.bool true) rfl (by rfl) (fun w => by kernel_rfl) (fun w => by kernel_rfl) ?_; walk_nrm
    refine goF ?_
    exact retK1 rfl rfl ⟨rfl, hT, Kn.ExtX.refl _⟩
  | true =>
    simp only [if_true]
    walk_nrm
    refine goF ?_
    refine opsK_sure (.bool false) rfl (by rfl) (fun w => by kernel_rfl) (fun w => by kernel_rfl) ?_; walk_nrm
    repeat (first | (apply wpK_region; simp only [List.size_toArray, List.length_cons, List.length_nil, Nat.reduceAdd, Nat.zero_add, List.range, List.range.loop]) | ((first | refine opsK_max rfl (by rfl) rfl rfl rfl ?_ | refine opsK_eqNil rfl (by rfl) rfl rfl (by kernel_rfl) ?_ | refine opsK_neNil rfl (by rfl) rfl rfl (by kernel_rfl) ?_); try simp only [Option.isNone_none, Option.isNone_some, Bool.not_true, Bool.not_false]; try walk_nrm) | (co_applyP opsK_pure_k rfl (by rfl) ?_ ?_ ?_; (focus (intro _ K hK; go_simp; exact hK)); (focus (first | (exact fun _ => ev_int rfl rfl rfl rfl) | (exact fun _ => ev_str rfl rfl rfl) | (exact fun _ => ev_build rfl) | (exact fun _ => ev_lenS rfl rfl) | (exact fun _ => ev_lenL rfl rfl) | (exact fun _ => ev_mkI rfl) | (intro _; simp [go_sem, *]; done))); try walk_nrm) | (co_applyP opsK_load1 rfl (by rfl) rfl rfl ?_ ?_ ?_; (focus (intro _; go_simp)); (focus (exact h4)); try walk_nrm) | ((first | apply wpK_seq | apply wpK_block | apply wpK_skip | apply wpK_label | apply wpK_ret | apply wpK_exit | apply opsK_nil); try simp only [thenK, blockK, if_true, if_false, reduceIte, Nat.reduceEqDiff]) | (refine wpK_cond rfl ?_; simp only [if_true, if_false, reduceIte, Bool.false_eq_true]) | (refine opsK_unwanted rfl (by rfl) ?_; try walk_nrm))
    refine opsK_mapUpdate (kt := 9) (e := 94) (v := .agg #[.int .i64 x, .bool false]) rfl (by rfl) rfl rfl rfl rfl (by kernel_rfl) (by kernel_rfl) hc1 hc2 ?_
    obtain ⟨er', cr', e1, e2, e3, e4⟩ := msetA_ok hc2 s (.agg #[.int .i64 x, .bool false])
    rw [e1]
    walk_nrm
    refine goF ?_
    have xs : k.ExtX (· = mc) (k.set mc (.map er' cr')) := Kn.ExtX.set _ _ _ rfl
    obtain ⟨es0, c0, hr1, hr2, hr3⟩ := hT.rd
    refine retK1 rfl rfl ⟨rfl, ⟨xs.own _ _ hT.ne2 hT.txn, ⟨es0, c0, xs.own _ _ hT.ne3 hr1, hr2, hr3⟩, ⟨er', cr', Kn.set_same _ _ _, e2, fun u => ?_, by have := hc4; omega⟩, hT.ne1, hT.ne2, hT.ne3⟩, xs⟩
    rw [e3 u, hc3 u]
    rfl
set_option maxRecDepth 100000 in
set_option maxHeartbeats 1000000 in
theorem tget_k {main : Who} (k : Kn) (T B : Nat) (num : Int) (p : Value) (R C : ByteArray → Option Value) (mr mc nC : Nat) (t : Tr) (s : ByteArray) (hT : TxnK k T B num p R C mr mc nC false) (hp : TrK k.ro p t) (hC : C s = none) (hs : validN s = true) (x : Int) (hx : getT t s = some x) :
    CallsK Try.prog main 14 #[.pointer (some ⟨T, 0, none⟩), .string s] k fun v k' => v = .tuple #[.int .i64 x, .nilIface] ∧ k.ExtX (· = mr) k' := by
  have ev : getV t s = .tuple #[.int .i64 x, .bool true] := by unfold getV; rw [hx]
  (refine callsK_of Try.func14 (by first | rfl | kernel_rfl) rfl ?_; simp only [Try.ntmps14, List.size_toArray, List.length_cons, List.length_nil, Nat.reduceAdd, Nat.reduceSub, Array.replicate_succ, Array.replicate_zero, List.push_toArray, List.append_toArray, List.nil_append, List.cons_append])
  refine goF ?_
  refine opsK_callv rfl (by rfl) rfl (by first | (walk_nrm; done) | (walk_nrm; rfl)) (check_k k T B num p mr mc s hT.txn) ?_
  rintro _ _ ⟨rfl, rfl⟩
  simp only [hs, if_true]
  walk_nrm
  refine goF ?_
  refine opsK_sure (.bool false) rfl (by rfl) (fun w => by kernel_rfl) (fun w => by kernel_rfl) ?_; walk_nrm
  refine goF ?_
  refine opsK_callv rfl (by rfl) rfl (by first | (walk_nrm; done) | (walk_nrm; rfl)) (see_k k T B num p R C mr mc nC t s hT hp hC) ?_
  rintro _ k1 ⟨rfl, _, x1⟩
  rw [ev]
  walk_nrm
  refine goF ?_
  exact retK2 rfl rfl ⟨rfl, x1⟩
end Go.Proofs.Ytacfhfeegalmlaa

/- REGIONS THAT DRAW THEIR ORDER, in company: an operation that alone is ready, whatever it does. -/
namespace Go.Proofs.Ytacfhfeegalmlaa
open Go.Conc
set_option linter.unusedVariables false
set_option linter.unusedSimpArgs false

section
variable {P : Program} {main : Who} {fn : FuncId} {ops : Array Oper} {Q : Exit → Act → Kn → Prop} {md : Region.Mode} {S : Kn → Prop} {a : Act} {k : Kn} {o : Oper} {v : Value}
/-- What is asked behind an operation that has been carried out. -/
def nextA (K : Act → Kn → Prop) (a : Act) (dst : Option Tmp) : Next → Kn → Prop
  | .value v, k => K (a.put dst v) k
  | .skip, k => K (a.put dst undef) k
  | _, _ => False
theorem opK_trip {i : Nat} {K : Act → Kn → Prop} (hi : ops[i]? = some o) (hw : Region.wanted o (yielded ops a.tmps) = true) (h : Trip P k (execOp a.eval o) (nextA K a o.dst)) : OpK P main fn ops i K a k := by
  unfold OpK
  simp only [hi, hw, if_true]
  refine .inl fun w hs => ?_
  obtain ⟨v, w', k', hr, hst, hn⟩ := h w hs
  rw [hr]
  have hst' := hst.less (es' := listed P fn a o w) fun e he => mem_listed he
  cases v <;> first | exact ⟨k', hst', hn⟩ | exact hn.elim
theorem anyK_trip {fuel : Nat} {listed : Array Bool} (i : Nat) (hr : Region.ready md ops listed = [i]) (hi : ops[i]? = some o) (hw : Region.wanted o (yielded ops a.tmps) = true)
    (h : Trip P k (execOp a.eval o) (nextA (fun a' k' => S k' ∧ AnyK P main fn md ops Q S fuel (listed.setIfInBounds i true) a' k') a o.dst)) : AnyK P main fn md ops Q S (fuel + 1) listed a k :=
  anyK_all hr (by simp) fun j hj => by
    obtain rfl : j = i := by simpa using hj
    exact opK_trip hi hw h
variable {K : Act → Kn → Prop}
theorem exec_lookup1 {mt kt e : TypeId} {x y : Operand} {r : Nat} {es : Array MapEntry} {clock : Nat} {s : ByteArray} {z : Value} (hop : o.op = .lookup mt x y false) (hx : a.eval x = .map (some r)) (hy : a.eval y = .string s)
    (hm : P.underlying mt = some (.map kt e)) (hk : P.underlying kt = some .string) (hz : ∀ w, (Go.zeroValue e).run P w = .ok z w) (hb : k.own r = some (.map es clock)) (hok : MOk es clock) {v : Value} (hg : (mgetL es.toList s).getD z = v)
    (h : K (a.put o.dst v) k) : Trip P k (execOp a.eval o) (nextA K a o.dst) := by
  unfold execOp
  simp only [hop, hx, hy]
  exact Trip.bind (Trip.lookup hm hk hz hb hok (by rw [hg]; exact Trip.pure h))
theorem exec_mapUpdate {mt kt e : TypeId} {x y z : Operand} {r : Nat} {es : Array MapEntry} {clock : Nat} {s : ByteArray} {v : Value} (hop : o.op = .mapUpdate mt x y z) (hx : a.eval x = .map (some r)) (hy : a.eval y = .string s) (hz : a.eval z = v)
    (hm : P.underlying mt = some (.map kt e)) (hk : P.underlying kt = some .string) (hb : k.own r = some (.map es clock)) (hok : MOk es clock)
    (h : K (a.put o.dst undef) (k.set r (msetA es clock s v))) : Trip P k (execOp a.eval o) (nextA K a o.dst) := by
  unfold execOp
  simp only [hop, hx, hy, hz]
  exact Trip.bind (Trip.mapUpdate hm hk hb hok (Trip.pure h))
theorem exec_alloc {t : TypeId} {z : Value} (hop : o.op = .alloc t) (hz : ∀ w, (Go.zeroValue t).run P w = .ok z w)
    (h : ∀ b, k.New b → K (a.put o.dst (.pointer (some ⟨b, 0, none⟩))) (k.set b (.cells z.cells t))) : Trip P k (execOp a.eval o) (nextA K a o.dst) := by
  unfold execOp
  simp only [hop, Instr.alloc]
  exact Trip.bind (Trip.bind (Trip.zeroValue hz (Trip.bind (Trip.newVar fun b hb => Trip.pure (Trip.pure (h b hb))))))
theorem exec_storeL {t te : TypeId} {x y : Operand} {ad : Addr} {vs : List Value} {c c' : Array Value} (hop : o.op = .store t x y) (hx : a.eval x = .pointer (some ad)) (hy : (a.eval y).cells.toList = vs)
    (hs : ad.spot = none) (hsz : ∀ w, (Go.sizeOf t).run P w = .ok vs.length w) (hb : k.own ad.block = some (.cells c te)) (hl : Nat.ble (ad.off + vs.length) c.size = true) (hv : vs.all Value.oneCell' = true) (hc : laidIn c ad.off vs = c')
    (h : K (a.put o.dst undef) (k.set ad.block (.cells c' te))) : Trip P k (execOp a.eval o) (nextA K a o.dst) := by
  have e : (a.eval y).cells.size = vs.length := by rw [← hy]; simp
  subst hc
  unfold execOp
  simp only [hop, hx, Instr.storeAt, Instr.sureAddr]
  refine Trip.bind (Trip.bind (Trip.pure (Trip.storeVar hs (fun w => by rw [e]; exact hsz w) hb (by rw [e]; exact Nat.le_of_ble_eq_true hl) (fun u hu => ?_) (Trip.pure (by rw [hy]; exact h)))))
  rw [hy] at hu
  exact List.all_eq_true.1 hv u hu
theorem exec_loadN {t : TypeId} {x : Operand} {ad : Addr} {vs : List Value} (hop : o.op = .load t x) (hx : a.eval x = .pointer (some ad))
    (hag : ∀ w, (Go.isAgg t).run P w = .ok true w) (hsz : ∀ w, (Go.sizeOf t).run P w = .ok vs.length w) (hc : k.Reads ad vs) (h : K (a.put o.dst (.agg vs.toArray)) k) : Trip P k (execOp a.eval o) (nextA K a o.dst) := by
  unfold execOp
  simp only [hop, hx, Instr.loadAt, Instr.sureAddr]
  exact Trip.bind (Trip.bind (Trip.pure (Trip.loadVarN hag hsz hc (Trip.pure h))))
/-- A load of several cells may be taken first. -/
theorem takeK_loadN {i : Nat} {t : TypeId} {x : Operand} {ad : Addr} {vs : List Value} {fuel : Nat} {listed : Array Bool} (hi : ops[i]? = some o) (hw : Region.wanted o (yielded ops a.tmps) = true)
    (hs : Region.noSelect ops = true) (hf : Region.free md ops listed i = true) (hr : (Region.ready md ops listed).contains i = true) (hS : S k)
    (hop : o.op = .load t x) (hx : a.eval x = .pointer (some ad)) (hag : ∀ w, (Go.isAgg t).run P w = .ok true w) (hsz : ∀ w, (Go.sizeOf t).run P w = .ok vs.length w) (hc : ∀ k', S k' → k'.Reads ad vs)
    (h : AnyK P main fn md ops Q S fuel (listed.setIfInBounds i true) (a.put o.dst (.agg vs.toArray)) k) : AnyK P main fn md ops Q S (fuel + 1) listed a k := by
  refine anyK_take hi hs hf hr (.inl ⟨hw, .inl fun k' hk' w hk => ?_⟩) hS h
  -- the world stands
  have key : ∀ (vs : List Value) (i : Nat) (acc : Array Value), (∀ j v, vs[j]? = some v → w.cell? (ad.add (i + j)) = some v) → (Go.loadCellsFrom ad i vs.length acc).run P w = .ok (acc ++ vs.toArray) w := by
    intro vs
    induction vs with
    | nil => intro i acc _; simp [Go.loadCellsFrom]
    | cons v vs ih =>
      intro i acc hc
      have h0 := hc 0 v rfl
      have := ih (i + 1) (acc.push v) (fun j u hj => by
        have := hc (j + 1) u (by simpa using hj)
        rwa [show i + (j + 1) = i + 1 + j by omega] at this)
      simp only [List.length_cons, Go.loadCellsFrom]
      rw [show ad.add (i + 0) = ad.add i by rw [Nat.add_zero]] at h0
      have hl : (Go.load (ad.add i) .plain).run P w = .ok v w := by simp [Go.load, Sem.run, h0]
      simp [hl, this]
  have hcell : ∀ j v, vs[j]? = some v → w.cell? (ad.add (0 + j)) = some v := fun j v hj => by rw [Nat.zero_add]; exact hk.cell (hc k' hk' j v hj)
  have hr1 : (execOp a.eval o).run P w = .ok (.value (.agg vs.toArray)) w := by
    unfold execOp
    simp only [hop, hx, Instr.loadAt, Instr.sureAddr, Go.loadVar, Go.loadCells]
    simp [hag, hsz, key vs 0 #[] hcell]
  refine ⟨hr1, ?_⟩
  obtain ⟨v, w', k'', h1, h2, h3⟩ := exec_loadN (P := P) (K := fun _ k'' => k'' = k') (a := a) hop hx hag hsz (hc k' hk') rfl w hk
  rw [hr1] at h1
  simp only [Result.ok.injEq] at h1
  obtain ⟨rfl, rfl⟩ := h1
  have h3 : k'' = k' := h3
  subst h3
  exact h2.less fun e he => mem_listed he
end
end Go.Proofs.Ytacfhfeegalmlaa

/- A RANGE OVER A FUNCTION, in company: the body's rounds, the loop's entry and end. -/
namespace Go.Proofs.Ytacfhfeegalmlaa
open Go.Conc
set_option linter.unusedVariables false
set_option linter.unusedSimpArgs false

section
variable {P : Program} {main : Bool} {b : Frame} {a : Act} {kk : List Item} {cs : List Frame} {w w' : World} {ops : Array Oper} {i : Nat} {rest : List Nat} {o : Oper}
theorem stepG_seqR {x y : Code} : stepG P main (G (b.atR a (.code (.seq x y) :: kk)) cs) w = .go (G (b.atR a (.code x :: .code y :: kk)) cs) w #[] := by simp [G, stepG, stepG.exec, Frame.atR]
theorem stepG_blockR {id : Nat} {c : Code} : stepG P main (G (b.atR a (.code (.block id c) :: kk)) cs) w = .go (G (b.atR a (.code c :: .inBlock id :: kk)) cs) w #[] := by simp [G, stepG, stepG.exec, Frame.atR]
theorem stepG_inBlockR {id : Nat} : stepG P main (G (b.atR a (.inBlock id :: kk)) cs) w = .go (G (b.atR a kk) cs) w #[] := by simp [G, stepG, stepG.exec, Frame.atR]
theorem stepG_regionR {id : Nat} : stepG P main (G (b.atR a (.code (.region id ops false) :: kk)) cs) w = .go (G (b.atR a (.inRegion ops (List.range ops.size) :: kk)) cs) w #[] := by simp [G, stepG, stepG.exec, Frame.atR]
theorem stepG_region_endR : stepG P main (G (b.atR a (.inRegion ops [] :: kk)) cs) w = .go (G (b.atR a kk) cs) w #[] := by simp [G, stepG, stepG.exec, Frame.atR]
theorem finish_atR (v : Value) : (b.atR a (.inRegion ops (i :: rest) :: kk)).finish v = b.atR (a.put ((ops[i]?).bind (·.dst)) v) (.inRegion ops rest :: kk) := by
  simp only [Frame.finish, Frame.atR]
  cases h : (ops[i]?).bind (·.dst) with
  | none => simp [Act.put]
  | some d => simp [Act.put]
theorem stepG_operR (ho : ops[i]? = some o) (hw : Region.wanted o (yielded ops a.tmps) = true) (hd : ∀ c, o.op ≠ .defer c) :
    stepG P main (G (b.atR a (.inRegion ops (i :: rest) :: kk)) cs) w = stepG.apply P true (b.atR a (.inRegion ops (i :: rest) :: kk)) cs none (execOp a.eval o) w := by
  have he := Frame.eval_atR b a (.inRegion ops (i :: rest) :: kk)
  simp only [Frame.atR] at he
  simp [G, stepG, stepG.exec, stepG.oper, Frame.oper?, Frame.atR, ho, hw, he]
  split
  · rename_i h; exact absurd h (hd _)
  · rfl
theorem stepG_valueR {v : Value} (ho : ops[i]? = some o) (hw : Region.wanted o (yielded ops a.tmps) = true) (hd : ∀ c, o.op ≠ .defer c)
    (hk : b.kind ≠ .early) (hr : (execOp a.eval o).run P w = .ok (.value v) w') :
    stepG P main (G (b.atR a (.inRegion ops (i :: rest) :: kk)) cs) w = .go (G (b.atR (a.put o.dst v) (.inRegion ops rest :: kk)) cs) w' (listed P b.fn a o w) := by
  have hfin := finish_atR (b := b) (a := a) (kk := kk) (ops := ops) (i := i) (rest := rest) v
  rw [ho] at hfin
  have hk' : (b.kind == CallKind.early) = false := by simpa using hk
  rw [stepG_operR ho hw hd, show a.put o.dst v = a.put ((some o).bind (·.dst)) v from rfl, ← hfin]
  simp [stepG.apply, hr, G, Frame.atR, hk', GStep.after, listed]
theorem stepG_noneR (ho : ops[i]? = some o) (hw : Region.wanted o (yielded ops a.tmps) = true) (hd : ∀ c, o.op ≠ .defer c)
    (hk : b.kind ≠ .early) (hr : (execOp a.eval o).run P w = .ok .skip w') :
    stepG P main (G (b.atR a (.inRegion ops (i :: rest) :: kk)) cs) w = .go (G (b.atR (a.put o.dst undef) (.inRegion ops rest :: kk)) cs) w' (listed P b.fn a o w) := by
  have hfin := finish_atR (b := b) (a := a) (kk := kk) (ops := ops) (i := i) (rest := rest) undef
  rw [ho] at hfin
  have hk' : (b.kind == CallKind.early) = false := by simpa using hk
  rw [stepG_operR ho hw hd, show a.put o.dst undef = a.put ((some o).bind (·.dst)) undef from rfl, ← hfin]
  simp [stepG.apply, hr, G, Frame.atR, hk', GStep.after, listed]
end
/-- THE JUDGEMENT in a round's frame: code that is left at its end. -/
def _root_.Go.Code.wpR (P : Program) (main : Who) (fn : FuncId) (c : Code) (N : Act → Kn → Prop) (a : Act) (k : Kn) : Prop :=
  ∀ (b : Frame) (kk : List Item) (cs : List Frame) (Stop : Kn → Goroutine → Prop), b.fn = fn → b.kind ≠ .early → (∀ a' k', N a' k' → GK P main Stop k' (G (b.atR a' kk) cs)) → GK P main Stop k (G (b.atR a (.code c :: kk)) cs)
def OpsR (P : Program) (main : Who) (fn : FuncId) (ops : Array Oper) (todo : List Nat) (N : Act → Kn → Prop) (a : Act) (k : Kn) : Prop :=
  ∀ (b : Frame) (kk : List Item) (cs : List Frame) (Stop : Kn → Goroutine → Prop), b.fn = fn → b.kind ≠ .early → (∀ a' k', N a' k' → GK P main Stop k' (G (b.atR a' kk) cs)) → GK P main Stop k (G (b.atR a (.inRegion ops todo :: kk)) cs)
section
variable {P : Program} {main : Who} {fn : FuncId} {N : Act → Kn → Prop} {a : Act} {k : Kn} {ops : Array Oper} {i : Nat} {rest : List Nat} {o : Oper}
theorem wpR_seq {x y : Code} (h : x.wpR P main fn (fun a' k' => y.wpR P main fn N a' k') a k) : (Code.seq x y).wpR P main fn N a k :=
  fun b kk cs Stop hb hk hc => GK.quiet rfl (fun _ => stepG_seqR) (h b (.code y :: kk) cs Stop hb hk fun a' k' q => q b kk cs Stop hb hk hc)
theorem wpR_block {id : Nat} {c : Code} (h : c.wpR P main fn N a k) : (Code.block id c).wpR P main fn N a k :=
  fun b kk cs Stop hb hk hc => GK.quiet rfl (fun _ => stepG_blockR) (h b (.inBlock id :: kk) cs Stop hb hk fun a' k' q => GK.quiet rfl (fun _ => stepG_inBlockR) (hc a' k' q))
theorem wpR_region {id : Nat} (h : OpsR P main fn ops (List.range ops.size) N a k) : (Code.region id ops false).wpR P main fn N a k :=
  fun b kk cs Stop hb hk hc => GK.quiet rfl (fun _ => stepG_regionR) (h b kk cs Stop hb hk hc)
theorem opsR_nil (h : N a k) : OpsR P main fn ops [] N a k := fun b kk cs Stop hb hk hc => GK.quiet rfl (fun _ => stepG_region_endR) (hc a k h)
theorem opsR_trip (ho : ops[i]? = some o) (hw : Region.wanted o (yielded ops a.tmps) = true) (hd : ∀ c, o.op ≠ .defer c)
    (h : Trip P k (execOp a.eval o) (nextA (fun a' k' => OpsR P main fn ops rest N a' k') a o.dst)) : OpsR P main fn ops (i :: rest) N a k :=
  fun b kk cs Stop hb hk hc => GK.next rfl fun w hs => by
    obtain ⟨v, w', k', hr, hst, hn⟩ := h w hs
    have hst' := hst.less (es' := listed P b.fn a o w) fun e he => mem_listed he
    cases v with
    | value v => rw [stepG_valueR ho hw hd hk hr]; exact ⟨k', hst', hn b kk cs Stop hb hk hc⟩
    | skip => rw [stepG_noneR ho hw hd hk hr]; exact ⟨k', hst', hn b kk cs Stop hb hk hc⟩
    | _ => exact hn.elim
theorem opsR_pure {v : Value} (ho : ops[i]? = some o) (hw : Region.wanted o (yielded ops a.tmps) = true) (hd : ∀ c, o.op ≠ .defer c) (hr : ∀ w, (execOp a.eval o).run P w = .ok (.value v) w) (he : ∀ w, (execOp a.eval o).events P w #[] = #[])
    (h : OpsR P main fn ops rest N (a.put o.dst v) k) : OpsR P main fn ops (i :: rest) N a k :=
  opsR_trip ho hw hd (Trip.still hr he h)
end
section
variable {P : Program} {main : Who} {k : Kn}
theorem Trip.getLoop {l : Nat} {lp : Loop} {Ψ : Loop → Kn → Prop} (hl : k.own l = some (.loop lp)) (h : Ψ lp k) : Trip P k (Instr.getLoop l) Ψ := by
  unfold Instr.getLoop
  exact Trip.bind (Trip.getObj hl rfl (Trip.pure h))
theorem Trip.beginRound {l : Nat} {lp : Loop} {Ψ : Unit → Kn → Prop} (hl : k.own l = some (.loop lp)) (hs : lp.state = .ready) (h : Ψ () (k.set l (.loop { lp with state := .busy }))) : Trip P k (Instr.beginRound l) Ψ := by
  unfold Instr.beginRound
  refine Trip.bind (Trip.getLoop hl (Trip.bind (Trip.setObj hl rfl rfl ?_)))
  simp only [hs]
  exact Trip.pure h
theorem Trip.endRound {l : Nat} {lp : Loop} {Ψ : Value → Kn → Prop} (hl : k.own l = some (.loop lp)) (h : Ψ (.bool true) (k.set l (.loop { lp with state := .ready, pending := none }))) : Trip P k (Instr.endRound l none) Ψ := by
  unfold Instr.endRound
  exact Trip.bind (Trip.getLoop hl (Trip.bind (Trip.setObj hl rfl rfl (Trip.pure h))))
theorem Trip.endLoop {l : Nat} {lp : Loop} {Ψ : Option Code → Kn → Prop} (hl : k.own l = some (.loop lp)) (hs : lp.state = .ready) (hp : lp.pending = none) (h : Ψ none (k.set l (.loop { lp with state := .exhausted }))) : Trip P k (Instr.endLoop l) Ψ := by
  unfold Instr.endLoop
  refine Trip.bind (Trip.getLoop hl ?_)
  have : (lp.state == LoopState.busy) = false := by rw [hs]; rfl
  simp only [this, Bool.false_eq_true, if_false]
  refine Trip.bind (Trip.setObj hl rfl rfl ?_)
  have e : (Pure.pure lp.pending : Sem (Option Code)) = Pure.pure none := by rw [hp]
  rw [e]
  exact Trip.pure h
/-- The frame of a round. -/
def baseR (l : Nat) (f : FuncId) : Frame := { (default : Frame) with fn := f, kind := .normal, roundOf := some l }
theorem yield_does {fn : FuncId} {l : Nat} {lp : Loop} {args : Array Value} {Post : Value → Kn → Prop} (tm : Array Value) (htm : (lp.params.zip args).foldl (fun tmps (t, a) => tmps.setIfInBounds t a) lp.tmps = tm) (hl : k.own l = some (.loop lp)) (hst : lp.state = .ready) (hsz : args.size = lp.params.size)
    (hround : lp.assign.wpR P main lp.fn (fun a1 k1 => k1.own l = some (.loop lp) ∧ lp.body.wpR P main lp.fn (fun a2 k2 => k2.own l = some (.loop { lp with state := .busy }) ∧ Post (.bool true) (k2.set l (.loop { lp with state := .ready, pending := none }))) a1 (k1.set l (.loop { lp with state := .busy })))
      ⟨tm, []⟩ k) : Does P main fn (Instr.yield l args) k Post := by
  subst htm
  intro ops i o rest a b kk cs Stop ho hw hs hbf hbk hnext
  have hbk' : (b.kind == CallKind.early) = false := by simpa using hbk
  have hfin : ∀ v, (b.at a (.inRegion ops (i :: rest) :: kk)).finish v = b.at (a.put o.dst v) (.inRegion ops rest :: kk) := fun v => by rw [Frame.finish_at, ho]; rfl
  refine GK.next rfl fun w hsat => ?_
  have hT : Trip P k (Instr.yield l args) (fun n k' => n = .round l lp.fn ((lp.params.zip args).foldl (fun tmps (t, a) => tmps.setIfInBounds t a) lp.tmps) lp.assign lp.body ∧ k' = k) := by
    unfold Instr.yield
    refine Trip.bind (Trip.getLoop hl ?_)
    simp only [hsz, ne_eq, not_true_eq_false, if_false]
    exact Trip.pure ⟨rfl, rfl⟩
  obtain ⟨v, w', k', hr, hstep, rfl, rfl⟩ := hT w hsat
  have hstep' := hstep.less (es' := seen P b.fn ((Instr.yield l args).events P w #[])) fun e he => mem_seen he
  rw [stepG_oper ho hw, hs]
  have hgo : stepG.apply P true (b.at a (.inRegion ops (i :: rest) :: kk)) cs none (Instr.yield l args) w =
      .go (G ((baseR l lp.fn).atR ⟨(lp.params.zip args).foldl (fun tmps (t, a) => tmps.setIfInBounds t a) lp.tmps, []⟩ [.code lp.assign, .beginRound, .code lp.body]) (b.at a (.inRegion ops (i :: rest) :: kk) :: cs)) w' (seen P b.fn ((Instr.yield l args).events P w #[])) := by
    simp [stepG.apply, hr, G, Frame.at, hbk', GStep.after, Frame.round, Frame.atR, baseR]
  rw [hgo]
  refine ⟨k', hstep', ?_⟩
  clear hgo hstep hstep' hr hsat
  refine hround (baseR l lp.fn) [.beginRound, .code lp.body] _ Stop rfl (by simp [baseR]) fun a1 k1 ⟨hl1, hbody⟩ => ?_
  refine GK.next rfl fun w1 hsat1 => ?_
  obtain ⟨u1, w2, k2, hr1, hstep1, rfl⟩ := Trip.beginRound (P := P) (Ψ := fun _ k'' => k'' = k1.set l (.loop { lp with state := .busy })) hl1 hst rfl w1 hsat1
  have hstep1' := hstep1.less (es' := seen P lp.fn ((Instr.beginRound l).events P w1 #[])) fun e he => mem_seen he
  have hgo : stepG P main.main (G ((baseR l lp.fn).atR a1 [.beginRound, .code lp.body]) (b.at a (.inRegion ops (i :: rest) :: kk) :: cs)) w1 =
      .go (G ((baseR l lp.fn).atR a1 [.code lp.body]) (b.at a (.inRegion ops (i :: rest) :: kk) :: cs)) w2 (seen P lp.fn ((Instr.beginRound l).events P w1 #[])) := by
    simp [G, stepG, stepG.exec, Frame.atR, baseR, stepG.apply, hr1, GStep.after, Frame.finish]
  rw [hgo]
  refine ⟨_, hstep1', ?_⟩
  clear hgo hstep1 hstep1' hr1 hsat1
  refine hbody (baseR l lp.fn) [] _ Stop rfl (by simp [baseR]) fun a2 k2 ⟨hl2, hpost⟩ => ?_
  refine GK.next rfl fun w3 hsat2 => ?_
  obtain ⟨v2, w4, k3, hr2, hstep2, rfl, rfl⟩ := Trip.endRound (P := P) (Ψ := fun v k'' => v = .bool true ∧ k'' = k2.set l (.loop { lp with state := .ready, pending := none })) hl2 ⟨rfl, rfl⟩ w3 hsat2
  have hstep2' := hstep2.less (es' := seen P lp.fn ((Instr.endRound l none).events P w3 #[])) fun e he => mem_seen he
  have hgo : stepG P main.main (G ((baseR l lp.fn).atR a2 []) (b.at a (.inRegion ops (i :: rest) :: kk) :: cs)) w3 =
      .go (G (b.at (a.put o.dst (.bool true)) (.inRegion ops rest :: kk)) cs) w4 (seen P lp.fn ((Instr.endRound l none).events P w3 #[])) := by
    rw [← hfin]
    simp [G, stepG, stepG.exec, Frame.atR, baseR, hr2, GStep.after, doReturn]
  rw [hgo]
  exact ⟨_, hstep2', hnext _ _ hpost⟩
/-- RANGE OVER A FUNCTION, from its entry to its end: the loop's record and the place of the deferred calls are new. -/
theorem wpK_rangeFunc {fn f : FuncId} {g : Operand} {params : Array Tmp} {assign body : Code} {caps : Array Value} {Q : Exit → Act → Kn → Prop} {a : Act} (hg : a.eval g = .func (.func f) #[] caps)
    (h : ∀ r l, k.New r → (k.set r (.deferred (some []))).New l → CallsK P main f (#[.func (.yield l) #[] #[]] ++ caps) ((k.set r (.deferred (some []))).set l (.loop { state := .ready, pending := none, fn, tmps := a.tmps, params, assign, body, defers := r }))
      fun v k2 => ∃ lp : Loop, k2.own l = some (.loop lp) ∧ lp.state = .ready ∧ lp.pending = none ∧ Q .normal ⟨a.tmps, { target := .collected r, args := #[] } :: a.defers⟩ (k2.set l (.loop { lp with state := .exhausted }))) :
    (Code.rangeFunc g params assign body).wpK P main fn Q a k := by
  intro b kk cs Stop hb hk hc
  refine GK.next rfl fun w hsat => ?_
  have hT : Trip P k (Instr.enterLoop fn a.tmps params assign body none) (fun x k' => ∃ r l, x = (l, [{ target := .collected r, args := #[] }]) ∧ k.New r ∧ (k.set r (.deferred (some []))).New l ∧ k' = (k.set r (.deferred (some []))).set l (.loop { state := .ready, pending := none, fn, tmps := a.tmps, params, assign, body, defers := r })) := by
    unfold Instr.enterLoop
    refine Trip.bind (Trip.new' fun r hr => Trip.bind (Trip.pure ?_))
    exact Trip.bind (Trip.new' fun l hl => Trip.pure ⟨r, l, rfl, hr, hl, rfl⟩)
  obtain ⟨v, w', k', hrun, hstep, r, l, rfl, hr, hl, rfl⟩ := hT w hsat
  obtain ⟨fn', c, hf, hname, hbody, hcc⟩ := h r l hr hl
  have hstep' := hstep.less (es' := seen P b.fn ((Instr.enterLoop fn a.tmps params assign body none).events P w #[])) fun e he => mem_seen he
  have h1 : ¬ fn'.name = "runtime.NumGoroutine" := by simpa using hname
  subst hb
  have hge : (b.at ⟨a.tmps, { target := .collected r, args := #[] } :: a.defers⟩ (.inRangeFunc l :: kk)).eval g = .func (.func f) #[] caps := by rw [Frame.eval_at]; exact hg
  have hgo : stepG P main.main (G (b.at a (.code (.rangeFunc g params assign body) :: kk)) cs) w =
      .go (G ((base f).at { tmps := (#[.func (.yield l) #[] #[]] ++ caps) ++ Array.replicate (fn'.ntmps - (#[.func (.yield l) #[] #[]] ++ caps : Array Value).size) undef, defers := [] } [.code c]) (b.at ⟨a.tmps, { target := .collected r, args := #[] } :: a.defers⟩ (.inRangeFunc l :: kk) :: cs)) w'
        (seen P b.fn ((Instr.enterLoop b.fn a.tmps params assign body none).events P w #[])) := by
    simp only [Frame.at] at hge
    simp [G, stepG, stepG.exec, Frame.at, hrun, GStep.after, stepG.apply, resolve, hge, Deferred.ofValue, invoke, callFunc, hf, h1, hbody, Frame.enter, base, seen_none]
    rfl
  rw [hgo]
  refine ⟨_, hstep', ?_⟩
  refine hcc (base f) _ Stop rfl (by simp [base]) fun a' k' todo' hd' ht => ?_
  refine GK.next rfl fun w1 hsat1 => ?_
  obtain ⟨v, w2, k2, hrun2, hst2, lp, hlp, hs1, hs2, hq⟩ := ht w1 hsat1
  rw [stepG_leaveK (b := base f) rfl hd' hf hrun2]
  refine ⟨k2, hst2.less fun e he => mem_seen he, ?_⟩
  refine GK.next rfl fun w3 hsat3 => ?_
  obtain ⟨u, w4, k4, hrun4, hst4, rfl, rfl⟩ := Trip.endLoop (P := P) (Ψ := fun v k'' => v = none ∧ k'' = k2.set l (.loop { lp with state := .exhausted })) hlp hs1 hs2 ⟨rfl, rfl⟩ w3 hsat3
  have hgo2 : stepG P main.main (G ((b.at ⟨a.tmps, { target := .collected r, args := #[] } :: a.defers⟩ (.inRangeFunc l :: kk)).finish v) cs) w3 =
      .go (G (b.at ⟨a.tmps, { target := .collected r, args := #[] } :: a.defers⟩ kk) cs) w4 (seen P b.fn ((Instr.endLoop l).events P w3 #[])) := by
    simp [G, stepG, stepG.exec, Frame.at, Frame.finish, hrun4, GStep.after]
  rw [hgo2]
  exact ⟨_, hst4.less fun e he => mem_seen he, hc _ _ _ hq⟩
/-- The place of the deferred calls of a range over a function, empty, on the way out. -/
theorem retKR {fn : Func} {Post : Value → Kn → Prop} {a : Act} {r : Nat} {ds : List Deferred} (hd : a.defers = { target := .collected r, args := #[] } :: ds) (hr : k.own r = some (.deferred (some [])))
    (h : LeaveK P main fn a.tmps Post ds (k.set r (.deferred none))) : bodyK P main fn Post .ret a k := by
  show LeaveK P main fn a.tmps Post a.defers k
  rw [hd]
  exact .inr ⟨r, rfl, hr, h⟩
end
end Go.Proofs.Ytacfhfeegalmlaa
