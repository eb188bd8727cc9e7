/-
  Joined texts: WHAT A CALL MAKES OF ONE'S KNOWLEDGE: more stands, one's own is kept, more is one's own. · MAPS KEYED BY NAMES, in company: look-up, store, range, next, entry, len. What such a map holds, name by name. · MAPS KEYED BY NAMES, in company: range, next, entry, len; the operations. · ROWS OF ONE's OWN, in company: append of one element, the literal of one element, make. · THE LOCK, in company: whoever owns the box takes it and gives it back.
-/
import Derived.Test.YtacfhfeegalmlaaWW4
import Derived.Conc.MarkLaws
import Derived.Conc.AtomicLaws2
import Derived.Conc.SmallLaws
import Derived.Laws.LoneSync
import Derived.Test.YtacfhfeegalmlaaWW3

/- WHAT A CALL MAKES OF ONE'S KNOWLEDGE: more stands, one's own is kept, more is one's own. -/
namespace Go.Proofs.Ytacfhfeegalmlaa
open Go.Conc
set_option linter.unusedVariables false
set_option linter.unusedSimpArgs false

structure Kn.Ext (k k' : Kn) : Prop where
  ro : ∀ a v, k.ro a = some v → k'.ro a = some v
  own : ∀ b o, k.own b = some o → k'.own b = some o
  oc : k'.oc = k.oc
  deaf : k'.deaf = k.deaf
  live : k'.live = k.live
  gh : k'.gh = k.gh
theorem Kn.Ext.refl (k : Kn) : k.Ext k := ⟨fun _ _ h => h, fun _ _ h => h, rfl, rfl, rfl, rfl⟩
theorem Kn.Ext.trans {k k1 k2 : Kn} (h : k.Ext k1) (h' : k1.Ext k2) : k.Ext k2 := ⟨fun a v x => h'.ro a v (h.ro a v x), fun b o x => h'.own b o (h.own b o x), h'.oc.trans h.oc, h'.deaf.trans h.deaf, h'.live.trans h.live, h'.gh.trans h.gh⟩
theorem Kn.Grow.ext {k k' : Kn} (h : k.Grow k') : k.Ext k' := ⟨h.ro, fun b o x => by rw [h.own]; exact x, h.oc, h.deaf, h.live, h.gh⟩
theorem Kn.New.ext {k : Kn} {b : Nat} (h : k.New b) (o : Obj) : k.Ext (k.set b o) :=
  ⟨fun _ _ x => x, fun x u hu => by
    rw [Kn.set_ne _ _ (fun e => by rw [e, h.own] at hu; cases hu)]; exact hu, rfl, rfl, rfl, rfl⟩
/-- A block that was not known is turned. -/
theorem Kn.Ext.set_new {k k' : Kn} (h : k.Ext k') {b : Nat} (hb : k.own b = none) (o : Obj) : k.Ext (k'.set b o) :=
  ⟨h.ro, fun x u hu => by
    rw [Kn.set_ne _ _ (fun e => by rw [e, hb] at hu; cases hu)]; exact h.own x u hu, h.oc, h.deaf, h.live, h.gh⟩
/-- A block that was known is turned in both. -/
theorem Kn.Ext.set_both {k k' : Kn} (h : k.Ext k') (b : Nat) (o : Obj) : (k.set b o).Ext (k'.set b o) :=
  ⟨h.ro, fun x u hu => by
    by_cases e : x = b
    · subst e; rw [Kn.set_same] at hu ⊢; exact hu
    · rw [Kn.set_ne _ _ e] at hu ⊢; exact h.own x u hu, h.oc, h.deaf, h.live, h.gh⟩
theorem Kn.Ext.has {k k' : Kn} (h : k.Ext k') {a : Addr} {v : Value} (x : k.Has a v) : k'.Has a v := by
  rcases x with x | ⟨c, t, f, h1, h2, h3⟩ | x
  · exact .inl (h.ro _ _ x)
  · exact .inr (.inl ⟨c, t, f, h.own _ _ h1, h2, h3⟩)
  · exact .inr (.inr (by rw [h.oc]; exact x))
theorem Kn.Ext.reads {k k' : Kn} (h : k.Ext k') {a : Addr} {vs : List Value} (x : k.Reads a vs) : k'.Reads a vs := fun j v e => h.has (x j v e)
/-- A cell of a block of one's own. -/
theorem Kn.has_own {k : Kn} {b : Nat} {c : Array Value} {t : TypeId} {f : Nat × Nat} (h : k.own b = some (.cells c t f)) {j : Nat} {v : Value} (hj : c[j]? = some v) : k.Has ⟨b, j, none⟩ v := .inr (.inl ⟨c, t, f, h, rfl, hj⟩)
theorem Kn.New.ne {k : Kn} {b x : Nat} {o : Obj} (h : k.New b) (hx : k.own x = some o) : x ≠ b := fun e => by rw [e, h.own] at hx; cases hx

set_option maxRecDepth 100000 in
theorem mapPut_k {main : Who} (key : ByteArray) (val : Int) (t : Tr) (k : Kn) (p : Value) (h : TrK k.ro p t) (ot : t.ok) (hs : t.sz < 288230376151711744) :
    CallsK Try.prog main 17 #[.agg #[p], .string key, .int .i64 val] k fun v k' => ∃ p', v = .agg #[p'] ∧ TrK k'.ro p' (putT t key val) ∧ k.Ext k' := by
  obtain ⟨pa, rfl⟩ := h.ptr
  (refine callsK_of Try.func17 (by first | rfl | kernel_rfl) rfl ?_; simp only [Try.ntmps17, List.size_toArray, List.length_cons, List.length_nil, Nat.reduceAdd, Nat.reduceSub, Array.replicate_succ, Array.replicate_zero, List.push_toArray, List.append_toArray, List.nil_append, List.cons_append])
  (first | apply wpK_seq | apply wpK_block | apply wpK_skip | apply wpK_label | apply wpK_ret | apply wpK_exit | apply opsK_nil)
  (apply wpK_region; simp only [List.size_toArray, List.length_cons, List.length_nil, Nat.reduceAdd, Nat.zero_add, List.range, List.range.loop])
  refine opsK_boxRo rfl (by rfl) rfl rfl ?_
  intro b hb
  have g := hb.grow #[.pointer pa]
  have h0 : (k.lay b #[.pointer pa]).ro ⟨b, 0, none⟩ = some (.pointer pa) := Kn.lay_at _ _ _ _
  walk_nrm
  refine opsK_alloc (z := .agg #[.pointer none]) rfl (by rfl) rfl (fun w => by kernel_rfl) ?_
  intro r hr
  have g1 : k.Ext ((k.lay b #[.pointer pa]).set r (.cells #[.pointer none] 60)) := g.ext.trans (hr.ext _)
  have hr1 : k.own r = none := hr.own
  walk_nrm
  repeat (first | (apply wpK_region; simp only [List.size_toArray, List.length_cons, List.length_nil, Nat.reduceAdd, Nat.zero_add, List.range, List.range.loop]) | ((first | refine opsK_max rfl (by rfl) rfl rfl rfl ?_ | refine opsK_eqNil rfl (by rfl) rfl rfl (by kernel_rfl) ?_ | refine opsK_neNil rfl (by rfl) rfl rfl (by kernel_rfl) ?_); try simp only [Option.isNone_none, Option.isNone_some, Bool.not_true, Bool.not_false]; try walk_nrm) | (co_applyP opsK_pure_k rfl (by rfl) ?_ ?_ ?_; (focus (intro _ K hK; go_simp; exact hK)); (focus (first | (exact fun _ => ev_int rfl rfl rfl rfl) | (exact fun _ => ev_str rfl rfl rfl) | (exact fun _ => ev_build rfl) | (exact fun _ => ev_lenS rfl rfl) | (exact fun _ => ev_lenL rfl rfl) | (exact fun _ => ev_mkI rfl) | (intro _; simp [go_sem, *]; done))); try walk_nrm) | (co_applyP opsK_load1 rfl (by rfl) rfl rfl ?_ ?_ ?_; (focus (intro _; go_simp)); (focus (exact .inl h0)); try walk_nrm) | ((first | apply wpK_seq | apply wpK_block | apply wpK_skip | apply wpK_label | apply wpK_ret | apply wpK_exit | apply opsK_nil); try simp only [thenK, blockK, if_true, if_false, reduceIte, Nat.reduceEqDiff]) | (refine wpK_cond rfl ?_; simp only [if_true, if_false, reduceIte, Bool.false_eq_true]) | (refine opsK_unwanted rfl (by rfl) ?_; try walk_nrm))
  refine opsK_callv rfl (by rfl) rfl (by first | (walk_nrm; done) | (walk_nrm; rfl)) (put_k key val t _ _ (h.mono g1.ro) ot hs) ?_
  rintro v1 k1 ⟨t1, g2⟩
  obtain ⟨p1, rfl⟩ := t1.ptr
  have hr2 : k1.own r = some (.cells #[.pointer none] 60) := by rw [g2.own]; exact Kn.set_same _ _ _
  walk_nrm
  refine goF ?_
  refine opsK_storeL (c' := #[.pointer p1]) rfl (by rfl) rfl rfl rfl rfl (fun w => by kernel_rfl) hr2 rfl rfl rfl ?_
  walk_nrm
  refine goF ?_
  refine retKN (vs := [.pointer p1]) rfl rfl rfl (fun w => by kernel_rfl) (fun w => by kernel_rfl) ?_ ⟨.pointer p1, rfl, t1, ?_⟩
  · intro j v hj
    match j, hj with
    | 0, hj => obtain rfl := Option.some.inj hj; exact Kn.has_own (Kn.set_same _ _ _) rfl
  · exact (g1.trans g2.ext).set_new hr.own _
end Go.Proofs.Ytacfhfeegalmlaa

/- MAPS KEYED BY NAMES, in company: look-up, store, range, next, entry, len. What such a map holds, name by name. -/
namespace Go.Proofs.Ytacfhfeegalmlaa
open Go.Conc
set_option linter.unusedVariables false
set_option linter.unusedSimpArgs false

open Classical in
/-- What a map holds at a name. -/
noncomputable def mgetL : List MapEntry → ByteArray → Option Value
  | [], _ => none
  | e :: l, s => if e.key = .string s then some e.val else mgetL l s
/-- The entries of a map keyed by names. -/
structure MOk (es : Array MapEntry) (clock : Nat) : Prop where
  str : ∀ e ∈ es.toList, ∃ s, e.key = .string s
  apart : es.toList.Pairwise fun e e' => e.key ≠ e'.key ∧ e.born ≠ e'.born
  old : ∀ e ∈ es.toList, e.born < clock
theorem MOk.nil : MOk #[] 0 := ⟨by simp, by simp, by simp⟩
theorem mgetL_some {l : List MapEntry} {s : ByteArray} {v : Value} (h : mgetL l s = some v) : ∃ e ∈ l, e.key = .string s ∧ e.val = v := by
  induction l with
  | nil => cases h
  | cons e l ih =>
    unfold mgetL at h
    split at h
    · exact ⟨e, by simp, by assumption, Option.some.inj h⟩
    · obtain ⟨e', h1, h2⟩ := ih h
      exact ⟨e', by simp [h1], h2⟩
theorem mgetL_none {l : List MapEntry} {s : ByteArray} (h : mgetL l s = none) : ∀ e ∈ l, e.key ≠ .string s := by
  induction l with
  | nil => simp
  | cons e l ih =>
    unfold mgetL at h
    split at h
    · cases h
    · intro e' he'
      rcases List.mem_cons.1 he' with rfl | he'
      · assumption
      · exact ih h e' he'
theorem mgetL_of_mem {l : List MapEntry} (hp : l.Pairwise fun e e' => e.key ≠ e'.key ∧ e.born ≠ e'.born) {e : MapEntry} (he : e ∈ l) {s : ByteArray} (hk : e.key = .string s) : mgetL l s = some e.val := by
  induction l with
  | nil => cases he
  | cons x l ih =>
    have h1 := List.pairwise_cons.1 hp
    unfold mgetL
    rcases List.mem_cons.1 he with rfl | he
    · rw [if_pos hk]
    · rw [if_neg (fun e' : x.key = Value.string s => (h1.1 e he).1 (e'.trans hk.symm)), ih h1.2 he]

theorem bq (a b : ByteArray) : (a == b) = decide (a = b) := by
  rw [beq_toListBytes, ByteArray.toList_eq, ByteArray.toList_eq]
  by_cases h : a = b
  · subst h; simp
  · have : ¬ a.data.toList = b.data.toList := fun e => h (ByteArray.ext (Array.toList_inj.1 e))
    have h2 : ¬ a.data = b.data := fun e => h (ByteArray.ext e)
    simp [h, h2]
section
variable {P : Program} {kt : TypeId}
open Classical in
/-- What the model's search finds. -/
noncomputable def findS (s : ByteArray) : List MapEntry → Nat → Option (Nat × Value)
  | [], _ => none
  | e :: l, i => if e.key = .string s then some (i, e.val) else findS s l (i + 1)
theorem findNow_str {s : ByteArray} : ∀ (l : List MapEntry) (i : Nat), (∀ e ∈ l, ∃ u, e.key = .string u) → Instr.findNow .string (.string s) l i = some (findS s l i)
  | [], i, _ => rfl
  | e :: l, i, h => by
    obtain ⟨u, hu⟩ := h e (by simp)
    unfold Instr.findNow findS
    rw [hu]
    by_cases hs : s = u
    · subst hs; simp [Instr.sameNow, bq]
    · have : ¬ Value.string u = .string s := fun e => hs (by cases e; rfl)
      simp only [Instr.sameNow, this, if_false, bq, hs, decide_false]
      exact findNow_str l (i + 1) fun e he => h e (by simp [he])
theorem findS_val (s : ByteArray) : ∀ (l : List MapEntry) (i : Nat), (findS s l i).map (·.2) = mgetL l s
  | [], _ => rfl
  | e :: l, i => by
    unfold findS mgetL
    split
    · rfl
    · exact findS_val s l (i + 1)
theorem findS_at {s : ByteArray} : ∀ {l : List MapEntry} {i j : Nat} {v : Value}, findS s l i = some (j, v) → i ≤ j ∧ ∃ e, l[j - i]? = some e ∧ e.key = .string s ∧ e.val = v
  | [], _, _, _, h => by cases h
  | e :: l, i, j, v, h => by
    unfold findS at h
    split at h
    · simp only [Option.some.injEq, Prod.mk.injEq] at h
      obtain ⟨rfl, rfl⟩ := h
      exact ⟨Nat.le_refl _, e, by simp, by assumption, rfl⟩
    · obtain ⟨h1, e', h2, h3⟩ := findS_at h
      refine ⟨by omega, e', ?_, h3⟩
      rw [show j - i = (j - (i + 1)) + 1 by omega]
      simpa using h2
theorem Trip.findKey {k : Kn} {s : ByteArray} {l : List MapEntry} {Ψ : Option (Nat × Value) → Kn → Prop} (hk : P.underlying kt = some .string) (hl : ∀ e ∈ l, ∃ u, e.key = .string u) (h : Ψ (findS s l 0) k) : Trip P k (Instr.findKey kt (.string s) l) Ψ := by
  unfold Instr.findKey
  refine Trip.bind (Trip.underlying hk ?_)
  rw [findNow_str l 0 hl]
  exact Trip.pure h
theorem Trip.checkKey {k : Kn} {s : ByteArray} {em : Bool} {Ψ : Unit → Kn → Prop} (hk : P.underlying kt = some .string) (h : Ψ () k) : Trip P k (Instr.checkKey em 10000 kt (.string s)) Ψ := by
  unfold Instr.checkKey
  refine Trip.bind (Trip.underlying hk ?_)
  exact Trip.pure h
theorem Trip.lookup {k : Kn} {mt e : TypeId} {r : Nat} {es : Array MapEntry} {clock : Nat} {s : ByteArray} {ok : Bool} {z : Value} {Ψ : Value → Kn → Prop} (hm : P.underlying mt = some (.map kt e)) (hk : P.underlying kt = some .string)
    (hz : ∀ w, (Go.zeroValue e).run P w = .ok z w) (hb : k.own r = some (.map es clock)) (ho : MOk es clock)
    (h : Ψ (if ok then .tuple #[(mgetL es.toList s).getD z, .bool (mgetL es.toList s).isSome] else (mgetL es.toList s).getD z) k) : Trip P k (Instr.lookup mt (.map (some r)) (.string s) ok) Ψ := by
  unfold Instr.lookup
  refine Trip.bind (Trip.underlying hm ?_)
  refine Trip.bind (Trip.getObj hb rfl ?_)
  refine Trip.bind (Trip.pure ?_)
  refine Trip.bind (Trip.checkKey hk ?_)
  refine Trip.bind (Trip.findKey hk ho.str ?_)
  have hf := findS_val s es.toList 0
  cases hc : findS s es.toList 0 with
  | none =>
    rw [hc] at hf
    simp only []
    refine Trip.bind (Trip.zeroValue hz (Trip.bind (Trip.pure ?_)))
    rw [← hf] at h
    exact Trip.pure h
  | some x =>
    rw [hc] at hf
    refine Trip.bind (Trip.pure ?_)
    rw [← hf] at h
    exact Trip.pure h
/-- What a store makes of the entries. -/
noncomputable def msetA (es : Array MapEntry) (clock : Nat) (s : ByteArray) (v : Value) : Obj :=
  match findS s es.toList 0 with
  | some (i, _) => .map (es.modify i fun e => { e with key := .string s, val := v }) clock
  | none => .map (es.push { key := .string s, val := v, born := clock }) (clock + 1)
theorem Trip.mapUpdate {k : Kn} {mt e : TypeId} {r : Nat} {es : Array MapEntry} {clock : Nat} {s : ByteArray} {v : Value} {Ψ : Unit → Kn → Prop} (hm : P.underlying mt = some (.map kt e)) (hk : P.underlying kt = some .string)
    (hb : k.own r = some (.map es clock)) (ho : MOk es clock) (h : Ψ () (k.set r (msetA es clock s v))) : Trip P k (Instr.mapUpdate mt (.map (some r)) (.string s) v) Ψ := by
  unfold Instr.mapUpdate
  refine Trip.bind (Trip.underlying hm ?_)
  simp only []
  refine Trip.bind (Trip.getObj hb rfl ?_)
  simp only []
  refine Trip.bind (Trip.checkKey hk ?_)
  refine Trip.bind (Trip.findKey hk ho.str ?_)
  unfold msetA at h
  cases hc : findS s es.toList 0 with
  | none =>
    rw [hc] at h
    exact Trip.setObj hb rfl rfl h
  | some x =>
    obtain ⟨i, u⟩ := x
    rw [hc] at h
    simp only []
    obtain ⟨_, e', h2, h3, _⟩ := findS_at hc
    have e1 : ((es[i]?).map (·.key)).getD (.string s) = .string s := by
      have : es[i]? = some e' := by simpa using h2
      rw [this]; exact h3
    rw [e1]
    have e2 : Instr.keyThatStays (.string s) (.string s) = (Pure.pure (Value.string s) : Sem Value) := by
      unfold Instr.keyThatStays
      simp [Instr.sameBits, bq]
    rw [e2]
    refine Trip.bind (Trip.pure ?_)
    exact Trip.setObj hb rfl rfl h
end
theorem modify_get (l : List MapEntry) (i : Nat) (f : MapEntry → MapEntry) (j : Nat) : (l.modify i f)[j]? = if i = j then (l[j]?).map f else l[j]? := by
  rw [List.getElem?_modify]
  split <;> simp_all
theorem msetA_ok {es : Array MapEntry} {clock : Nat} (h : MOk es clock) (s : ByteArray) (v : Value) : ∃ es' clock', msetA es clock s v = .map es' clock' ∧ MOk es' clock' ∧ (∀ u, mgetL es'.toList u = if u = s then some v else mgetL es.toList u) ∧
    es'.size ≤ es.size + 1 := by
  unfold msetA
  cases hc : findS s es.toList 0 with
  | none =>
    have hn : mgetL es.toList s = none := by rw [← findS_val s es.toList 0, hc]; rfl
    refine ⟨_, _, rfl, ⟨fun e he => ?_, ?_, fun e he => ?_⟩, fun u => ?_, by simp⟩
    · simp only [Array.toList_push, List.mem_append, List.mem_singleton] at he
      rcases he with he | rfl
      · exact h.str e he
      · exact ⟨s, rfl⟩
    · rw [Array.toList_push]
      refine List.pairwise_append.2 ⟨h.apart, by simp, fun x hx y hy => ?_⟩
      simp only [List.mem_singleton] at hy
      subst hy
      exact ⟨mgetL_none hn x hx, Nat.ne_of_lt (h.old x hx)⟩
    · simp only [Array.toList_push, List.mem_append, List.mem_singleton] at he
      rcases he with he | rfl
      · have := h.old e he; omega
      · simp
    · rw [Array.toList_push]
      have : ∀ (l : List MapEntry), (∀ e ∈ l, e.key ≠ .string s) → mgetL (l ++ [⟨.string s, v, clock⟩]) u = if u = s then some v else mgetL l u := by
        intro l hl
        induction l with
        | nil =>
          simp only [List.nil_append, mgetL]
          by_cases e : u = s
          · subst e; simp
          · rw [if_neg e, if_neg (fun x => e (by cases x; rfl))]
        | cons x l ih =>
          simp only [List.cons_append, mgetL]
          rw [ih fun e he => hl e (by simp [he])]
          by_cases e : x.key = .string u
          · rw [if_pos e, if_pos e, if_neg (fun e2 => by subst e2; exact hl x (by simp) e)]
          · rw [if_neg e, if_neg e]
      exact this es.toList (mgetL_none hn)
  | some x =>
    obtain ⟨i, w⟩ := x
    obtain ⟨_, e0, h2, h3, _⟩ := findS_at hc
    rw [Nat.sub_zero] at h2
    have hl : (es.modify i fun e => { e with key := .string s, val := v }).toList = es.toList.modify i fun e => { e with key := .string s, val := v } := by simp
    have hi : i < es.toList.length := (List.getElem?_eq_some_iff.1 h2).1
    have hspl : es.toList = es.toList.take i ++ e0 :: es.toList.drop (i + 1) := by
      have := (List.getElem?_eq_some_iff.1 h2).2
      rw [← this, List.getElem_cons_drop, List.take_append_drop]
    have hmod : es.toList.modify i (fun e => { e with key := .string s, val := v }) = es.toList.take i ++ { e0 with key := .string s, val := v } :: es.toList.drop (i + 1) := by
      rw [List.modify_eq_take_cons_drop hi]
      have := (List.getElem?_eq_some_iff.1 h2).2
      rw [this]
    refine ⟨_, _, rfl, ⟨fun e he => ?_, ?_, fun e he => ?_⟩, fun u => ?_, by simp⟩
    · rw [hl, hmod] at he
      rcases List.mem_append.1 he with he | he
      · exact h.str e (List.mem_of_mem_take he)
      · rcases List.mem_cons.1 he with rfl | he
        · exact ⟨s, rfl⟩
        · exact h.str e (List.mem_of_mem_drop he)
    · rw [hl, hmod]
      have ha := h.apart
      rw [hspl] at ha
      have a1 := List.pairwise_append.1 ha
      have a2 := List.pairwise_cons.1 a1.2.1
      refine List.pairwise_append.2 ⟨a1.1, List.pairwise_cons.2 ⟨fun y hy => ?_, a2.2⟩, fun x hx y hy => ?_⟩
      · have := a2.1 y hy
        rw [h3] at this
        exact this
      · rcases List.mem_cons.1 hy with rfl | hy
        · have := a1.2.2 x hx e0 (by simp)
          rw [h3] at this
          exact this
        · exact a1.2.2 x hx y (by simp [hy])
    · rw [hl, hmod] at he
      rcases List.mem_append.1 he with he | he
      · exact h.old e (List.mem_of_mem_take he)
      · rcases List.mem_cons.1 he with rfl | he
        · exact h.old e0 (List.mem_of_getElem? h2)
        · exact h.old e (List.mem_of_mem_drop he)
    · rw [hl, hmod]
      have ha := h.apart
      rw [hspl] at ha
      have hno : ∀ x ∈ es.toList.take i, x.key ≠ .string s := fun x hx => by
        have := ((List.pairwise_append.1 ha).2.2 x hx e0 (by simp)).1
        rwa [h3] at this
      have key : ∀ (A B : List MapEntry), (∀ x ∈ A, x.key ≠ .string s) → mgetL (A ++ { e0 with key := .string s, val := v } :: B) u = if u = s then some v else mgetL (A ++ e0 :: B) u := by
        intro A B hA
        induction A with
        | nil =>
          simp only [List.nil_append, mgetL, h3]
          by_cases e : u = s
          · subst e; simp
          · have e1 : ¬ Value.string s = .string u := fun x => e (by cases x; rfl)
            have e2 : ¬ e0.key = .string u := by rw [h3]; exact e1
            simp only [e1, e2, if_false, e]
        | cons x A ih =>
          simp only [List.cons_append, mgetL]
          rw [ih fun y hy => hA y (by simp [hy])]
          by_cases e : x.key = .string u
          · rw [if_pos e, if_pos e, if_neg (fun e2 => by subst e2; exact hA x (by simp) e)]
          · rw [if_neg e, if_neg e]
      rw [key _ _ hno, ← hspl]
end Go.Proofs.Ytacfhfeegalmlaa

/- MAPS KEYED BY NAMES, in company: range, next, entry, len; the operations. -/
namespace Go.Proofs.Ytacfhfeegalmlaa
open Go.Conc
set_option linter.unusedVariables false
set_option linter.unusedSimpArgs false

/-- The entries that a range has not come to. -/
def remL (es : Array MapEntry) (seen : Array Nat) : List MapEntry := es.toList.filter fun e => !seen.contains e.born
theorem remL_mem {es : Array MapEntry} {seen : Array Nat} {e : MapEntry} : e ∈ remL es seen ↔ e ∈ es.toList ∧ e.born ∉ seen := by simp [remL]
theorem remL_nil (es : Array MapEntry) : remL es #[] = es.toList := by simp [remL]
theorem remL_push {es : Array MapEntry} {clock : Nat} (h : MOk es clock) {seen : Array Nat} {e : MapEntry} (he : e ∈ remL es seen) : (remL es (seen.push e.born)).length + 1 = (remL es seen).length ∧ ∀ x, x ∈ remL es (seen.push e.born) ↔ x ∈ remL es seen ∧ x.key ≠ e.key := by
  have hm := remL_mem.1 he
  have hk : ∀ x ∈ es.toList, (x.born = e.born ↔ x.key = e.key) := by
    intro x hx
    obtain ⟨i, hi, rfl⟩ := List.mem_iff_getElem.1 hx
    obtain ⟨j, hj, rfl⟩ := List.mem_iff_getElem.1 hm.1
    have hp := List.pairwise_iff_getElem.1 h.apart
    rcases Nat.lt_trichotomy i j with hl | rfl | hl
    · have := hp i j hi hj hl
      exact ⟨fun e => absurd e this.2, fun e => absurd e this.1⟩
    · exact ⟨fun _ => rfl, fun _ => rfl⟩
    · have := hp j i hj hi hl
      exact ⟨fun e => absurd e.symm this.2, fun e => absurd e.symm this.1⟩
  constructor
  · have e1 : remL es (seen.push e.born) = (remL es seen).filter fun x => !(x.born == e.born) := by
      unfold remL
      rw [List.filter_filter]
      congr 1
      funext x
      simp only [Array.contains_push, Bool.not_or]
      cases h1 : (x.born == e.born) <;> simp [h1]
    have hp : (remL es seen).Pairwise fun x y => x.born ≠ y.born := (h.apart.sublist List.filter_sublist).imp fun x => x.2
    have key : ∀ (l : List MapEntry), l.Pairwise (fun x y => x.born ≠ y.born) → e ∈ l → (l.filter fun x => !(x.born == e.born)).length + 1 = l.length := by
      intro l
      induction l with
      | nil => intro _ h; cases h
      | cons y l ih =>
        intro hp hm
        have h1 := List.pairwise_cons.1 hp
        by_cases hy : y.born = e.born
        · have : l.filter (fun x => !(x.born == e.born)) = l := by
            apply List.filter_eq_self.2
            intro x hx
            have := h1.1 x hx
            rw [hy] at this
            simp [Ne.symm this]
          simp [List.filter_cons, hy, this]
        · have he' : e ∈ l := by
            rcases List.mem_cons.1 hm with rfl | hm
            · exact absurd rfl hy
            · exact hm
          have := ih h1.2 he'
          simp [List.filter_cons, hy]
          omega
    rw [e1]
    exact key _ hp he
  · intro x
    rw [remL_mem, remL_mem]
    constructor
    · rintro ⟨h1, h2⟩
      simp only [Array.mem_push, not_or] at h2
      exact ⟨⟨h1, h2.1⟩, fun e => h2.2 ((hk x h1).2 e)⟩
    · rintro ⟨⟨h1, h2⟩, h3⟩
      refine ⟨h1, ?_⟩
      simp only [Array.mem_push, not_or]
      exact ⟨h2, fun e => h3 ((hk x h1).1 e)⟩
section
variable {P : Program} {k : Kn}
theorem Trip.range {mt kt e : TypeId} {r : Nat} {es : Array MapEntry} {clock : Nat} {Ψ : Value → Kn → Prop} (hm : P.underlying mt = some (.map kt e)) (hb : k.own r = some (.map es clock))
    (h : ∀ b, k.New b → Ψ (.pointer (some ⟨b, 0, none⟩)) (k.set b (.mapIter (some r) clock #[] clock))) : Trip P k (Instr.range mt (.map (some r))) Ψ := by
  unfold Instr.range
  refine Trip.bind (Trip.underlying hm ?_)
  refine Trip.bind (Trip.getObj hb rfl ?_)
  refine Trip.bind (Trip.pure ?_)
  exact Trip.bind (Trip.new' fun b hb => Trip.pure (h b hb))
theorem Trip.next {r m : Nat} {es : Array MapEntry} {clock : Nat} {seen : Array Nat} {ty : TypeId} {Ψ : Value → Kn → Prop} (hr : k.own r = some (.mapIter (some m) clock seen clock)) (hm : k.own m = some (.map es clock)) (ho : MOk es clock)
    (h0 : remL es seen = [] → Ψ (.tuple #[.bool false]) k) (h1 : ∀ e ∈ remL es seen, Ψ (.tuple #[.bool true, e.key, e.val]) (k.set r (.mapIter (some m) clock (seen.push e.born) clock))) :
    Trip P k (Instr.next (.pointer (some ⟨r, 0, none⟩)) false ty) Ψ := by
  unfold Instr.next
  simp only []
  refine Trip.bind (Trip.getObj hr rfl ?_)
  refine Trip.bind (Trip.getObj hm rfl ?_)
  have hno : (!seen.isEmpty && !es.isEmpty && es.all (fun x => decide (x.born ≥ clock))) = false := by
    cases he : es.isEmpty with
    | true => simp
    | false =>
      have hne : es ≠ #[] := by simpa using he
      have : ∃ e, e ∈ es.toList := by
        cases hl : es.toList with
        | nil => exact absurd (Array.toList_eq_nil_iff.1 hl) hne
        | cons e l => exact ⟨e, by simp⟩
      obtain ⟨e, hem⟩ := this
      have hb := ho.old e hem
      have : es.all (fun x => decide (x.born ≥ clock)) = false := Bool.eq_false_iff.2 fun hh => by
        have := Array.all_eq_true_iff_forall_mem.1 hh e (by simpa using hem)
        simp at this
        omega
      simp [this]
  simp only [hno, Bool.false_eq_true, if_false]
  have hold : (es.filter fun e => !seen.contains e.born).filter (fun x => decide (x.born < clock)) = es.filter fun e => !seen.contains e.born := by
    apply Array.filter_eq_self.2
    intro x hx
    have := (Array.mem_filter.1 hx).1
    simpa using ho.old x (by simpa using this)
  have hnew : (es.filter fun e => !seen.contains e.born).filter (fun x => decide (x.born ≥ clock)) = #[] := by
    apply Array.filter_eq_empty_iff.2
    intro x hx
    have := (Array.mem_filter.1 hx).1
    have := ho.old x (by simpa using this)
    simp; omega
  simp only [hold, hnew]
  have hF : (es.filter fun e => !seen.contains e.born).toList = remL es seen := by simp [remL]
  generalize (es.filter fun e => !seen.contains e.born) = F at hF
  refine Trip.bind (Trip.choose fun t => ?_)
  cases he : F.isEmpty with
  | true =>
    have hF0 : F = #[] := by simpa using he
    subst hF0
    have h0' := h0 hF.symm
    simp [Question.forced]
    exact Trip.pure h0'
  | false =>
    have hsz : 0 < F.size := by
      have : F ≠ #[] := by simpa using he
      exact Array.size_pos_iff.2 this
    simp only [Bool.false_eq_true, if_false, Array.empty_append, Array.append_empty, Array.size_map]
    have hlt : (if (Question.mapNext F.size).forced = true then 0 else (Question.mapNext F.size).cut t) < F.size := by
      split
      · exact hsz
      · exact Nat.mod_lt _ hsz
    generalize (if (Question.mapNext F.size).forced = true then 0 else (Question.mapNext F.size).cut t) = c at hlt
    have hc : (F.map some)[c]? = some (some F[c]) := by simp [hlt]
    rw [hc]
    exact Trip.bind (Trip.setObj hr rfl rfl (Trip.pure (h1 F[c] (by rw [← hF]; simp))))
theorem Trip.entry {r m : Nat} {es : Array MapEntry} {clock : Nat} {seen : Array Nat} {x : MapEntry} {Ψ : Value → Kn → Prop} (hr : k.own r = some (.mapIter (some m) clock (seen.push x.born) clock)) (hm : k.own m = some (.map es clock)) (ho : MOk es clock) (hx : x ∈ es.toList)
    (h : Ψ (.tuple #[x.key, x.val]) k) : Trip P k (Instr.entry (.pointer (some ⟨r, 0, none⟩))) Ψ := by
  unfold Instr.entry
  simp only []
  refine Trip.bind (Trip.getObj hr rfl ?_)
  simp only [Array.back?_push]
  refine Trip.bind (Trip.getObj hm rfl ?_)
  have hf : es.find? (fun e => e.born == x.born) = some x := by
    rw [← Array.find?_toList]
    have key : ∀ (l : List MapEntry), l.Pairwise (fun e e' => e.key ≠ e'.key ∧ e.born ≠ e'.born) → x ∈ l → l.find? (fun e => e.born == x.born) = some x := by
      intro l
      induction l with
      | nil => intro _ h; cases h
      | cons y l ih =>
        intro hp hm
        have h1 := List.pairwise_cons.1 hp
        rcases List.mem_cons.1 hm with rfl | hm
        · simp
        · have := (h1.1 x hm).2
          have e1 : (y.born == x.born) = false := by simpa using this
          rw [List.find?_cons, e1]
          exact ih h1.2 hm
    exact key _ ho.apart hx
  simp only [bne_self_eq_false, Bool.false_eq_true, if_false, hf]
  exact Trip.pure h
theorem Trip.lenMap {mt kt e ty : TypeId} {r : Nat} {es : Array MapEntry} {clock : Nat} {Ψ : Value → Kn → Prop} (hm : P.underlying mt = some (.map kt e)) (hb : k.own r = some (.map es clock))
    (h : Ψ (.int .i64 es.size) k) : Trip P k (Builtin.len_ #[mt] ty #[.map (some r)]) Ψ := by
  unfold Builtin.len_
  simp only [List.getElem?_toArray, List.getElem?_cons_zero]
  refine Trip.bind (Trip.underlying hm ?_)
  exact Trip.bind (Trip.getObj hb rfl (Trip.pure h))
end
section
variable {P : Program} {main : Who} {fn : FuncId} {Q : Exit → Act → Kn → Prop} {a : Act} {k : Kn} {ops : Array Oper} {i : Nat} {rest : List Nat} {o : Oper}
theorem opsK_lookup {mt kt e : TypeId} {x y : Operand} {ok : Bool} {r : Nat} {es : Array MapEntry} {clock : Nat} {s : ByteArray} {z : Value} (ho : ops[i]? = some o) (hw : Region.wanted o (yielded ops a.tmps) = true) (hop : o.op = .lookup mt x y ok) (hx : a.eval x = .map (some r)) (hy : a.eval y = .string s)
    (hm : P.underlying mt = some (.map kt e)) (hk : P.underlying kt = some .string) (hz : ∀ w, (Go.zeroValue e).run P w = .ok z w) (hb : k.own r = some (.map es clock)) (hok : MOk es clock)
    (h : OpsK P main fn ops rest Q (a.put o.dst (if ok then .tuple #[(mgetL es.toList s).getD z, .bool (mgetL es.toList s).isSome] else (mgetL es.toList s).getD z)) k) : OpsK P main fn ops (i :: rest) Q a k := by
  refine opsK_trip ho hw ?_
  unfold execOp
  simp only [hop, hx, hy]
  exact Trip.bind (Trip.lookup hm hk hz hb hok (Trip.pure h))
theorem opsK_mapUpdate {mt kt e : TypeId} {x y z : Operand} {r : Nat} {es : Array MapEntry} {clock : Nat} {s : ByteArray} {v : Value} (ho : ops[i]? = some o) (hw : Region.wanted o (yielded ops a.tmps) = true) (hop : o.op = .mapUpdate mt x y z) (hx : a.eval x = .map (some r)) (hy : a.eval y = .string s) (hz : a.eval z = v)
    (hm : P.underlying mt = some (.map kt e)) (hk : P.underlying kt = some .string) (hb : k.own r = some (.map es clock)) (hok : MOk es clock)
    (h : OpsK P main fn ops rest Q (a.put o.dst undef) (k.set r (msetA es clock s v))) : OpsK P main fn ops (i :: rest) Q a k := by
  refine opsK_trip ho hw ?_
  unfold execOp
  simp only [hop, hx, hy, hz]
  exact Trip.bind (Trip.mapUpdate hm hk hb hok (Trip.pure h))
theorem opsK_range {mt kt e : TypeId} {x : Operand} {r : Nat} {es : Array MapEntry} {clock : Nat} (ho : ops[i]? = some o) (hw : Region.wanted o (yielded ops a.tmps) = true) (hop : o.op = .range mt x) (hx : a.eval x = .map (some r))
    (hm : P.underlying mt = some (.map kt e)) (hb : k.own r = some (.map es clock))
    (h : ∀ b, k.New b → OpsK P main fn ops rest Q (a.put o.dst (.pointer (some ⟨b, 0, none⟩))) (k.set b (.mapIter (some r) clock #[] clock))) : OpsK P main fn ops (i :: rest) Q a k := by
  refine opsK_trip ho hw ?_
  unfold execOp
  simp only [hop, hx]
  exact Trip.bind (Trip.range hm hb fun b hb => Trip.pure (h b hb))
theorem opsK_next {x : Operand} {r m : Nat} {es : Array MapEntry} {clock : Nat} {seen : Array Nat} (ho : ops[i]? = some o) (hw : Region.wanted o (yielded ops a.tmps) = true) (hop : o.op = .next x false) (hx : a.eval x = .pointer (some ⟨r, 0, none⟩))
    (hr : k.own r = some (.mapIter (some m) clock seen clock)) (hm : k.own m = some (.map es clock)) (hok : MOk es clock)
    (h0 : remL es seen = [] → OpsK P main fn ops rest Q (a.put o.dst (.tuple #[.bool false])) k)
    (h1 : ∀ e ∈ remL es seen, OpsK P main fn ops rest Q (a.put o.dst (.tuple #[.bool true, e.key, e.val])) (k.set r (.mapIter (some m) clock (seen.push e.born) clock))) : OpsK P main fn ops (i :: rest) Q a k := by
  refine opsK_trip ho hw ?_
  unfold execOp
  simp only [hop, hx]
  exact Trip.bind (Trip.next hr hm hok (fun e => Trip.pure (h0 e)) fun e he => Trip.pure (h1 e he))
theorem opsK_entry {x : Operand} {r m : Nat} {es : Array MapEntry} {clock : Nat} {seen : Array Nat} {e : MapEntry} (ho : ops[i]? = some o) (hw : Region.wanted o (yielded ops a.tmps) = true) (hop : o.op = .entry x) (hx : a.eval x = .pointer (some ⟨r, 0, none⟩))
    (hr : k.own r = some (.mapIter (some m) clock (seen.push e.born) clock)) (hm : k.own m = some (.map es clock)) (hok : MOk es clock) (he : e ∈ es.toList)
    (h : OpsK P main fn ops rest Q (a.put o.dst (.tuple #[e.key, e.val])) k) : OpsK P main fn ops (i :: rest) Q a k := by
  refine opsK_trip ho hw ?_
  unfold execOp
  simp only [hop, hx]
  exact Trip.bind (Trip.entry hr hm hok he (Trip.pure h))
theorem exec_builtin {b : Builtin} {args : Array Operand} {ats : Array TypeId} (hop : o.op = .call { callee := .builtin b, args, argTypes := ats }) : execOp a.eval o = builtin b ats o.type (args.map fun | .const _ => true | _ => false) (args.map a.eval) := by
  unfold execOp
  simp only [hop, resolve]
  rfl
theorem Mute.stuck {α : Type} (why : String) : Mute (stuck why : Sem α) := fun P w es => events_stuck P w es why
theorem Mute.lenStr (ats : Array TypeId) (t : TypeId) (s : ByteArray) : Mute (Builtin.len_ ats t #[.string s]) := by
  unfold Builtin.len_
  split
  · refine Mute.bind (fun P w es => events_underlying P w es _) fun d => ?_
    rename_i h
    simp only [Prod.mk.injEq, List.getElem?_toArray, List.getElem?_cons_zero, Option.some.injEq] at h
    obtain ⟨_, rfl⟩ := h
    cases d <;> first | exact Mute.pure _ | exact Mute.stuck _ | skip
    refine Mute.bind (fun P w es => events_underlying P w es _) fun d => ?_
    cases d <;> first | exact Mute.pure _ | exact Mute.stuck _
  · exact Mute.stuck _
theorem Mute.lenSl (ats : Array TypeId) (t : TypeId) (b : Option Addr) (n c : Nat) : Mute (Builtin.len_ ats t #[.slice b n c]) := by
  unfold Builtin.len_
  split
  · refine Mute.bind (fun P w es => events_underlying P w es _) fun d => ?_
    rename_i h
    simp only [Prod.mk.injEq, List.getElem?_toArray, List.getElem?_cons_zero, Option.some.injEq] at h
    obtain ⟨_, rfl⟩ := h
    cases d <;> first | exact Mute.pure _ | exact Mute.stuck _ | skip
    refine Mute.bind (fun P w es => events_underlying P w es _) fun d => ?_
    cases d <;> first | exact Mute.pure _ | exact Mute.stuck _
  · exact Mute.stuck _
theorem ev_lenS {x : Operand} {ats : Array TypeId} {s : ByteArray} {w : World} (hop : o.op = .call { callee := .builtin .len, args := #[x], argTypes := ats }) (hx : a.eval x = .string s) : (execOp a.eval o).events P w #[] = #[] := by
  rw [exec_builtin hop]
  have : (#[x] : Array Operand).map a.eval = #[.string s] := by simp [hx]
  rw [this]
  exact Mute.bind (Mute.lenStr _ _ _) (fun _ => Mute.pure _) P w #[]
theorem ev_lenL {x : Operand} {ats : Array TypeId} {b : Option Addr} {n c : Nat} {w : World} (hop : o.op = .call { callee := .builtin .len, args := #[x], argTypes := ats }) (hx : a.eval x = .slice b n c) : (execOp a.eval o).events P w #[] = #[] := by
  rw [exec_builtin hop]
  have : (#[x] : Array Operand).map a.eval = #[.slice b n c] := by simp [hx]
  rw [this]
  exact Mute.bind (Mute.lenSl _ _ _ _ _) (fun _ => Mute.pure _) P w #[]
theorem ev_mkI {x : Operand} {t : TypeId} {w : World} (hop : o.op = .makeInterface t x) : (execOp a.eval o).events P w #[] = #[] := by
  unfold execOp
  simp only [hop]
  refine Mute.bind (s := Instr.makeInterface t (a.eval x)) ?_ (fun _ => Mute.pure _) P w #[]
  unfold Instr.makeInterface
  refine Mute.bind (fun P w es => events_underlying P w es _) fun d => ?_
  cases d <;> first | exact Mute.pure _ | exact Mute.stuck _
theorem opsK_lookupOk {mt kt e : TypeId} {x y : Operand} {r : Nat} {es : Array MapEntry} {clock : Nat} {s : ByteArray} {z : Value} (ho : ops[i]? = some o) (hw : Region.wanted o (yielded ops a.tmps) = true) (hop : o.op = .lookup mt x y true) (hx : a.eval x = .map (some r)) (hy : a.eval y = .string s)
    (hm : P.underlying mt = some (.map kt e)) (hk : P.underlying kt = some .string) (hz : ∀ w, (Go.zeroValue e).run P w = .ok z w) (hb : k.own r = some (.map es clock)) (hok : MOk es clock) {g : Option Value} (hg : mgetL es.toList s = g)
    (h : OpsK P main fn ops rest Q (a.put o.dst (.tuple #[g.getD z, .bool g.isSome])) k) : OpsK P main fn ops (i :: rest) Q a k :=
  opsK_lookup ho hw hop hx hy hm hk hz hb hok (by rw [hg]; exact h)
theorem opsK_lookup1 {mt kt e : TypeId} {x y : Operand} {r : Nat} {es : Array MapEntry} {clock : Nat} {s : ByteArray} {z : Value} (ho : ops[i]? = some o) (hw : Region.wanted o (yielded ops a.tmps) = true) (hop : o.op = .lookup mt x y false) (hx : a.eval x = .map (some r)) (hy : a.eval y = .string s)
    (hm : P.underlying mt = some (.map kt e)) (hk : P.underlying kt = some .string) (hz : ∀ w, (Go.zeroValue e).run P w = .ok z w) (hb : k.own r = some (.map es clock)) (hok : MOk es clock) {v : Value} (hg : (mgetL es.toList s).getD z = v)
    (h : OpsK P main fn ops rest Q (a.put o.dst v) k) : OpsK P main fn ops (i :: rest) Q a k :=
  opsK_lookup ho hw hop hx hy hm hk hz hb hok (by rw [hg]; exact h)
theorem opsK_lenMap {mt kt e : TypeId} {x : Operand} {r : Nat} {es : Array MapEntry} {clock : Nat} (ho : ops[i]? = some o) (hw : Region.wanted o (yielded ops a.tmps) = true) (hop : o.op = .call { callee := .builtin .len, args := #[x], argTypes := #[mt] }) (hx : a.eval x = .map (some r))
    (hm : P.underlying mt = some (.map kt e)) (hb : k.own r = some (.map es clock))
    (h : OpsK P main fn ops rest Q (a.put o.dst (.int .i64 es.size)) k) : OpsK P main fn ops (i :: rest) Q a k := by
  refine opsK_trip ho hw ?_
  have : (#[x] : Array Operand).map a.eval = #[.map (some r)] := by simp [hx]
  rw [exec_builtin hop, this]
  exact Trip.bind (Trip.lenMap hm hb (Trip.pure h))
end
end Go.Proofs.Ytacfhfeegalmlaa

/- ROWS OF ONE's OWN, in company: append of one element, the literal of one element, make. -/
namespace Go.Proofs.Ytacfhfeegalmlaa
open Go.Conc
set_option linter.unusedVariables false
set_option linter.unusedSimpArgs false

/-- A slice of one's own: n elements of sz cells, all cells vs. -/
structure OwnSl (k : Kn) (et : TypeId) (sz : Nat) (v : Value) (n : Nat) (vs : List Value) : Prop where
  len : vs.length = n * sz
  at_ : (v = .slice none 0 0 ∧ n = 0) ∨ ∃ b cap c, v = .slice (some ⟨b, 0, none⟩) n cap ∧ n ≤ cap ∧ k.own b = some (.cells c et) ∧ c.size = cap * sz ∧ c.toList.take (n * sz) = vs
theorem OwnSl.nil (k : Kn) (et : TypeId) (sz : Nat) : OwnSl k et sz (.slice none 0 0) 0 [] := ⟨by simp, .inl ⟨rfl, rfl⟩⟩
theorem OwnSl.ext {k k' : Kn} {et : TypeId} {sz : Nat} {v : Value} {n : Nat} {vs : List Value} (h : OwnSl k et sz v n vs) (he : ∀ b o, k.own b = some o → k'.own b = some o) : OwnSl k' et sz v n vs :=
  ⟨h.len, h.at_.imp id fun ⟨b, cap, c, h1, h2, h3, h4⟩ => ⟨b, cap, c, h1, h2, he _ _ h3, h4⟩⟩
/-- Another row, or a new one, was turned. -/
structure RowTo (k : Kn) (v : Value) (k' : Kn) (v' : Value) : Prop where
  is : ∃ b o, k' = k.set b o ∧ (∃ n cap, v' = .slice (some ⟨b, 0, none⟩) n cap) ∧ (k.New b ∨ ∃ n cap, v = .slice (some ⟨b, 0, none⟩) n cap)
theorem laidIn_list : ∀ (vs : List Value) (c : Array Value) (off : Nat), off + vs.length ≤ c.size → (laidIn c off vs).toList = c.toList.take off ++ vs ++ c.toList.drop (off + vs.length)
  | [], c, off, _ => by simp [laidIn]
  | v :: vs, c, off, h => by
    simp only [List.length_cons] at h
    have h' : off < c.toList.length := by simp; omega
    simp only [laidIn]
    rw [laidIn_list vs _ (off + 1) (by simp; omega), Array.toList_setIfInBounds]
    have e1 : (c.toList.set off v).take (off + 1) = c.toList.take off ++ [v] := by
      rw [List.take_add_one, List.take_set_of_le (Nat.le_refl _)]
      simp [List.getElem?_set_self h']
    have e2 : (c.toList.set off v).drop (off + 1 + vs.length) = c.toList.drop (off + (vs.length + 1)) := by
      rw [List.drop_set_of_lt (by omega)]
      congr 1
      omega
    rw [e1, e2]
    simp
theorem laidIn_size (c : Array Value) (off : Nat) (vs : List Value) : (laidIn c off vs).size = c.size := by
  induction vs generalizing c off with
  | nil => rfl
  | cons v vs ih => simp only [laidIn]; rw [ih]; simp
theorem add_zero_block (b n : Nat) : (⟨b, 0, none⟩ : Addr).add n = ⟨b, n, none⟩ := by
  unfold Addr.add
  split
  · rename_i h; subst h; rfl
  · simp
section
variable {P : Program} {k : Kn}
theorem Trip.noRoom {Ψ : Unit → Kn → Prop} (h : Ψ () k) : Trip P k (mark .noRoom) Ψ := fun w hw =>
  ⟨(), w, k, rfl, by
    have : (mark .noRoom).events P w #[] = #[⟨.mark .noRoom, false, true⟩] := by simp
    rw [this]
    exact ⟨hw, Nat.le_refl _, fun _ _ _ _ => rfl, fun _ _ _ _ => ⟨rfl, rfl⟩, rfl, rfl, rfl, fun e he => by simp at he; subst he; trivial, fun _ h => .inl h, fun _ _ h => h, fun _ h => .inl h, fun _ h => h, rfl, rfl, rfl⟩, h⟩
theorem Trip.askRoom {n : Nat} {Ψ : Unit → Kn → Prop} (h : Ψ () k) : Trip P k (askRoom n) Ψ := by
  unfold Go.askRoom
  split
  · exact Trip.noRoom h
  · exact Trip.pure h
theorem Trip.typeInfo {t : TypeId} {ti : TypeInfo} {Ψ : TypeInfo → Kn → Prop} (hi : P.info? t = some ti) (h : Ψ ti k) : Trip P k (typeInfo t) Ψ :=
  Trip.still (fun w => by simp [Go.typeInfo, hi]) (fun w => by simp [Go.typeInfo, hi]) h
theorem Trip.loadCells {ad : Addr} {vs : List Value} {Ψ : Array Value → Kn → Prop} (hc : k.Reads ad vs) (h : Ψ vs.toArray k) : Trip P k (loadCells ad vs.length) Ψ := by
  unfold Go.loadCells
  exact Trip.loadCellsFrom vs 0 #[] (fun j v hj => by simpa using hc j v hj) (by simpa using h)
theorem Trip.append1 {t ty e xt : TypeId} {ti : TypeInfo} {sz n cx : Nat} {v z : Value} {vs news : List Value} {ax : Addr} {Ψ : Value → Kn → Prop} (ht : P.underlying t = some (.slice e)) (hxt : P.underlying xt = some (.slice e)) (hi : P.info? e = some ti) (hb0 : ti.bytes ≠ 0)
    (hsz : ∀ w, (Go.sizeOf e).run P w = .ok sz w) (hz : ∀ w, (Go.zeroValue e).run P w = .ok z w) (hzs : z.cells.size = sz) (hown : OwnSl k e sz v n vs) (hx : k.Reads ax news) (hl : news.length = sz) (hone : news.all Value.oneCell' = true)
    (hn : (n + 1) * ti.bytes ≤ 140737488355328) (h : ∀ v' k', OwnSl k' e sz v' (n + 1) (vs ++ news) → RowTo k v k' v' → Ψ v' k') : Trip P k (Builtin.append_ #[t, xt] ty #[v, .slice (some ax) 1 cx]) Ψ := by
  unfold Builtin.append_
  simp only [List.getElem?_toArray, List.getElem?_cons_zero, List.getElem?_cons_succ]
  refine Trip.bind (Trip.underlying ht ?_)
  have hv : ∃ base cap, v = .slice base n cap ∧ n ≤ cap ∧ ((base = none ∧ n = 0 ∧ cap = 0) ∨ ∃ b c, base = some ⟨b, 0, none⟩ ∧ k.own b = some (.cells c e) ∧ c.size = cap * sz ∧ c.toList.take (n * sz) = vs) := by
    rcases hown.at_ with ⟨rfl, rfl⟩ | ⟨b, cap, c, rfl, h1, h2, h3, h4⟩
    · exact ⟨none, 0, rfl, Nat.le_refl _, .inl ⟨rfl, rfl, rfl⟩⟩
    · exact ⟨_, cap, rfl, h1, .inr ⟨b, c, rfl, h2, h3, h4⟩⟩
  obtain ⟨base, cap, rfl, hnc, hbase⟩ := hv
  refine Trip.bind (Trip.sizeOf hsz ?_)
  refine Trip.bind (Trip.underlying hxt (Trip.bind (Trip.pure ?_)))
  simp only [Bool.false_eq_true, if_false, Builtin.lenOf]
  refine Trip.bind (Trip.pure ?_)
  have hfc : ∀ (Φ : Array Value → Kn → Prop) (k' : Kn), k'.Reads ax news → Φ news.toArray k' → Trip P k' (Builtin.firstCells sz 1 (.slice (some ax) 1 cx)) Φ := by
    intro Φ k' hr hΦ
    unfold Builtin.firstCells
    simp only [Nat.one_mul]
    rw [← hl]
    exact Trip.loadCells hr hΦ
  by_cases hfit : n + 1 ≤ cap
  · simp only [hfit, if_true]
    rcases hbase with ⟨_, h1, h2⟩ | ⟨b, c, rfl, h2, h3, h4⟩
    · omega
    refine Trip.bind (hfc _ k hx ?_)
    simp only []
    have hle : n * sz + sz ≤ cap * sz := by
      have := Nat.mul_le_mul_right sz hfit
      rw [Nat.add_mul, Nat.one_mul] at this
      exact this
    rw [add_zero_block]
    refine Trip.bind (Trip.storeCells (ad := ⟨b, n * sz, none⟩) (t := e) (c := c) rfl news 0 k h2 (by simp [hl, h3]; exact hle) (fun u hu => List.all_eq_true.1 hone u hu) ?_)
    refine Trip.pure (h _ _ ?_ ⟨b, _, rfl, ⟨_, _, rfl⟩, .inr ⟨n, cap, rfl⟩⟩)
    have hle' : n * sz + news.length ≤ c.size := by rw [hl, h3]; exact hle
    refine ⟨by rw [List.length_append, hown.len, hl, Nat.add_mul, Nat.one_mul], .inr ⟨b, cap, _, rfl, hfit, Kn.set_same _ _ _, ?_, ?_⟩⟩
    · rw [laidIn_size, h3]
    · have e1 : (n + 1) * sz = (vs ++ news).length := by rw [List.length_append, hown.len, hl, Nat.add_mul, Nat.one_mul]
      rw [show (⟨b, n * sz, none⟩ : Addr).off + 0 = n * sz from rfl, laidIn_list _ _ _ hle', h4, e1, List.take_append_of_le_length (Nat.le_refl _), List.take_length]
  · simp only [hfit, if_false]
    have hcap : cap = n := by omega
    have hmax : ¬ (((n + 1 : Nat) : Int) > IntKind.i64.max ∧ (false = true ∨ ti.bytes = 0)) := fun x => x.2.elim (fun h => by cases h) (fun h => hb0 h)
    have hgs := growslice_fits (need := n + 1) (old := cap) (by omega) hn
    have hold : ∀ (Φ : Array Value → Kn → Prop), Φ vs.toArray k → Trip P k (Builtin.firstCells sz n (.slice base n cap)) Φ := by
      intro Φ hΦ
      rcases hbase with ⟨rfl, rfl, _⟩ | ⟨b, c, rfl, h2, h3, h4⟩
      · have : vs = [] := List.eq_nil_of_length_eq_zero (by rw [hown.len]; simp)
        subst this
        exact Trip.pure hΦ
      · unfold Builtin.firstCells
        simp only []
        rw [← hown.len]
        refine Trip.loadCells (fun j u hj => ?_) hΦ
        rw [add_zero_block]
        refine Kn.has_own h2 ?_
        rw [← h4] at hj
        have hjl := (List.getElem?_eq_some_iff.1 hj).1
        rw [List.getElem?_take_of_lt (by simp at hjl; omega)] at hj
        simpa using hj
    simp only [gt_iff_lt, Bool.not_false, if_true, Bool.false_eq_true, if_false, false_or]
    refine Trip.bind (Trip.typeInfo hi ?_)
    rw [if_neg (fun x => hb0 x.2)]
    refine Trip.bind (Trip.typeInfo hi ?_)
    rw [if_neg (by omega)]
    refine Trip.bind (Trip.choose fun q => ?_)
    have hq : n + 1 ≤ (if (Question.appendCap (n + 1) cap e).forced = true then 0 else (Question.appendCap (n + 1) cap e).cut q) := by
      have : (Question.appendCap (n + 1) cap e).forced = false := rfl
      rw [this]
      simp [Question.cut]
    generalize (if (Question.appendCap (n + 1) cap e).forced = true then 0 else (Question.appendCap (n + 1) cap e).cut q) = newCap at hq
    refine Trip.bind (Trip.typeInfo hi ?_)
    refine Trip.bind (Trip.askRoom ?_)
    refine Trip.bind (hold _ ?_)
    refine Trip.bind (hfc _ k hx ?_)
    refine Trip.bind (Trip.zeroValue hz ?_)
    unfold newRow
    refine Trip.bind (Trip.bind (Trip.new' fun b hb => Trip.pure ?_))
    refine Trip.pure (h _ _ ?_ ⟨b, _, rfl, ⟨_, _, rfl⟩, .inl hb⟩)
    have hzc : (Builtin.zeroCells z.cells (newCap - (n + 1))).size = (newCap - (n + 1)) * sz := by simp [Builtin.zeroCells, hzs]
    refine ⟨by rw [List.length_append, hown.len, hl, Nat.add_mul, Nat.one_mul], .inr ⟨b, newCap, _, rfl, hq, Kn.set_same _ _ _, ?_, ?_⟩⟩
    · simp only [Array.size_append, List.size_toArray, hzc, hown.len, hl]
      rw [Nat.sub_mul, Nat.add_mul, Nat.one_mul]
      have := Nat.mul_le_mul_right sz hq
      rw [Nat.add_mul, Nat.one_mul] at this
      omega
    · simp only [Array.toList_append]
      have : (vs ++ news).length = (n + 1) * sz := by rw [List.length_append, hown.len, hl, Nat.add_mul, Nat.one_mul]
      rw [← this, List.take_append_of_le_length (by simp), List.take_of_length_le (by simp)]
theorem Trip.buildSlice1 {t e : TypeId} {sz : Nat} {v z : Value} {Ψ : Value → Kn → Prop} (ht : P.underlying t = some (.slice e)) (hsz : ∀ w, (Go.sizeOf e).run P w = .ok sz w) (hs0 : 0 < sz) (hs24 : sz ≤ 16777216) (hz : ∀ w, (Go.zeroValue e).run P w = .ok z w) (hzs : z.cells.size = sz) (hv : v.cells.size = sz)
    (h : ∀ b, k.New b → Ψ (.slice (some ⟨b, 0, none⟩) 1 1) (k.set b (.cells v.cells e))) : Trip P k (Instr.buildSlice t 1 #[(0, v)]) Ψ := by
  unfold Instr.buildSlice
  refine Trip.bind (Trip.underlying ht ?_)
  refine Trip.bind (Trip.sizeOf hsz ?_)
  have h1 : ¬ 1 * sz > 2 ^ 24 := by simp; exact hs24
  have h2 : ¬ 1 * sz = 0 := by omega
  simp only [h1, h2, if_false]
  refine Trip.bind (Trip.zeroValue hz (Trip.bind (Trip.pure ?_)))
  have hfill : Instr.fill (fun i => some (i * sz, sz)) ((Array.range (1 * sz)).map (z.cells[· % z.cells.size]!)) [(0, v)] = some v.cells := by
    unfold Instr.fill Instr.fill
    simp only [Nat.zero_mul, hv, ne_eq, not_true_eq_false, decide_false, Bool.false_or, Nat.zero_add, Array.size_map, Array.size_range, Nat.one_mul, gt_iff_lt, Nat.lt_irrefl, Bool.false_eq_true, if_false]
    congr 1
    have key : ∀ (l : List Value) (m : Nat) (arr : Array Value), (l.zipIdx m).foldl (fun (a : Array Value) (x : Value × Nat) => a.setIfInBounds x.2 x.1) arr = laidIn arr m l := by
      intro l
      induction l with
      | nil => intro m arr; rfl
      | cons u l ih => intro m arr; simp only [List.zipIdx_cons, List.foldl_cons, laidIn]; exact ih _ _
    have e1 : ∀ (cs arr : Array Value), cs.zipIdx.foldl (fun (a : Array Value) (x : Value × Nat) => a.setIfInBounds x.2 x.1) arr = laidIn arr 0 cs.toList := by
      intro cs arr
      rw [← Array.foldl_toList, Array.toList_zipIdx]
      exact key _ 0 arr
    have e2 := e1 v.cells ((Array.range sz).map (z.cells[· % z.cells.size]!))
    refine e2.trans (Array.toList_inj.1 ?_)
    rw [laidIn_list _ _ _ (by simp [hv])]
    simp [hv]
  simp only [hfill]
  unfold newRow
  exact Trip.bind (Trip.bind (Trip.new' fun b hb => Trip.pure (Trip.pure (h b hb))))
end
section
variable {P : Program} {main : Who} {fn : FuncId} {Q : Exit → Act → Kn → Prop} {a : Act} {k : Kn} {ops : Array Oper} {i : Nat} {rest : List Nat} {o : Oper}
theorem opsK_append1 {t e xt : TypeId} {ti : TypeInfo} {sz n cx : Nat} {x y : Operand} {v z : Value} {vs news : List Value} {ax : Addr} (ho : ops[i]? = some o) (hw : Region.wanted o (yielded ops a.tmps) = true) (hop : o.op = .call { callee := .builtin .append, args := #[x, y], argTypes := #[t, xt] })
    (hxv : a.eval x = v) (hyv : a.eval y = .slice (some ax) 1 cx)
    (ht : P.underlying t = some (.slice e)) (hxt : P.underlying xt = some (.slice e)) (hi : P.info? e = some ti) (hb0 : ti.bytes ≠ 0)
    (hsz : ∀ w, (Go.sizeOf e).run P w = .ok sz w) (hz : ∀ w, (Go.zeroValue e).run P w = .ok z w) (hzs : z.cells.size = sz) (hown : OwnSl k e sz v n vs) (hx : k.Reads ax news) (hl : news.length = sz) (hone : news.all Value.oneCell' = true)
    (hn : (n + 1) * ti.bytes ≤ 140737488355328) (h : ∀ v' k', OwnSl k' e sz v' (n + 1) (vs ++ news) → RowTo k v k' v' → OpsK P main fn ops rest Q (a.put o.dst v') k') : OpsK P main fn ops (i :: rest) Q a k := by
  refine opsK_trip ho hw ?_
  have : (#[x, y] : Array Operand).map a.eval = #[v, .slice (some ax) 1 cx] := by simp [hxv, hyv]
  rw [exec_builtin hop, this]
  exact Trip.bind (Trip.append1 ht hxt hi hb0 hsz hz hzs hown hx hl hone hn fun v' k' h1 h2 => Trip.pure (h v' k' h1 h2))
theorem opsK_buildSlice1 {t e : TypeId} {sz : Nat} {x : Operand} {v z : Value} (ho : ops[i]? = some o) (hw : Region.wanted o (yielded ops a.tmps) = true) (hop : o.op = .buildSlice t 1 #[(0, x)]) (hxv : a.eval x = v)
    (ht : P.underlying t = some (.slice e)) (hsz : ∀ w, (Go.sizeOf e).run P w = .ok sz w) (hs0 : 0 < sz) (hs24 : sz ≤ 16777216) (hz : ∀ w, (Go.zeroValue e).run P w = .ok z w) (hzs : z.cells.size = sz) (hv : v.cells.size = sz)
    (h : ∀ b, k.New b → OpsK P main fn ops rest Q (a.put o.dst (.slice (some ⟨b, 0, none⟩) 1 1)) (k.set b (.cells v.cells e))) : OpsK P main fn ops (i :: rest) Q a k := by
  refine opsK_trip ho hw ?_
  unfold execOp
  simp only [hop, List.map_toArray, List.map_cons, List.map_nil, hxv]
  exact Trip.bind (Trip.buildSlice1 ht hsz hs0 hs24 hz hzs hv fun b hb => Trip.pure (h b hb))
end
end Go.Proofs.Ytacfhfeegalmlaa

/- THE LOCK, in company: whoever owns the box takes it and gives it back. -/
namespace Go.Proofs.Ytacfhfeegalmlaa
open Go.Conc
set_option linter.unusedVariables false
set_option linter.unusedSimpArgs false

section
variable {P : Program} {main : Who} {fn : FuncId} {Q : Exit → Act → Kn → Prop} {a : Act} {k : Kn} {ops : Array Oper} {i : Nat} {rest : List Nat} {o : Oper} {f : FuncId} {fd : Func} {ats : Array TypeId} {ags : Array Operand}
theorem opsK_mark0 (m : Mark) (hm : ∀ g, m ≠ .extern g) (ht : tameMark m = true) (ho : ops[i]? = some o) (hw : Region.wanted o (yielded ops a.tmps) = true) (hop : o.op = .call { callee := .value (.func f), args := ags, argTypes := ats })
    (hf : P.funcs[f]? = some fd) (hname : (fd.name == "runtime.NumGoroutine") = false) (hb : fd.body.isNone = true) (hn : Extern.findNext fd = none) (he : Extern.find fd = some (fun _ => do mark m; pure Extern.Race.none_))
    (h : OpsK P main fn ops rest Q (a.put o.dst (.tuple #[])) (k.said m)) : OpsK P main fn ops (i :: rest) Q a k :=
  fun b kk cs Stop hbf hk hc => GK.mark m ht rfl (fun w => stepG_mark0 m hm ho hw hk hop hf hname hb hn he) (h b kk cs Stop hbf hk hc)
theorem opsK_markAt (mk : Addr → Mark) (hm : ∀ ad g, mk ad ≠ .extern g) (ht : ∀ ad, tameMark (mk ad) = true) (ho : ops[i]? = some o) (hw : Region.wanted o (yielded ops a.tmps) = true) (hop : o.op = .call { callee := .value (.func f), args := ags, argTypes := ats })
    (hf : P.funcs[f]? = some fd) (hname : (fd.name == "runtime.NumGoroutine") = false) (hb : fd.body.isNone = true) (hn : Extern.findNext fd = none) (he : Extern.find fd = some (Extern.Race.marked mk)) {ad : Addr} (hx : (ags.map a.eval)[0]? = some (.pointer (some ad)))
    (h : OpsK P main fn ops rest Q (a.put o.dst (.tuple #[])) (k.said (mk ad))) : OpsK P main fn ops (i :: rest) Q a k :=
  fun b kk cs Stop hbf hk hc => GK.mark (mk ad) (ht ad) rfl (fun w => stepG_markAt mk hm ho hw hk hop hf hname hb hn he hx) (h b kk cs Stop hbf hk hc)
/-- A read and a write of a cell of one's own, at once. -/
theorem step_rw {w : World} (hw : k.Sat w) {ad : Addr} {c : Array Value} {t : TypeId} {v : Value} (hb : k.own ad.block = some (.cells c t)) (hs : ad.spot = none) :
    k.Step (k.set ad.block (.cells (c.setIfInBounds ad.off v) t)) w (w.setCell ad v) #[⟨.cell ad, false, true⟩, ⟨.cell ad, true, true⟩] := by
  rw [setCell_own (hw.own _ _ hb) hs]
  refine Kn.Step.put hw hb fun e he => ?_
  simp at he
  have hlt : ad.block < w.heap.size := (Array.getElem?_eq_some_iff.1 (hw.own _ _ hb)).1
  rcases he with rfl | rfl
  · exact ⟨.inl (by rw [hb]; simp), hlt⟩
  · exact ⟨.inl (by rw [hb]; simp), hlt⟩
theorem own_cell {w : World} (hw : k.Sat w) {ad : Addr} {c : Array Value} {t : TypeId} {v : Value} (hb : k.own ad.block = some (.cells c t)) (hs : ad.spot = none) (hv : c[ad.off]? = some v) : w.cell? ad = some v ∧ w.frozen? ad = false := by
  have := hw.own _ _ hb
  exact ⟨by simp [World.cell?, this, hs, hv], by simp [World.frozen?, this]⟩
theorem opsK_cas {x y z : Operand} {n v : Int} {ad : Addr} {c : Array Value} {t : TypeId} (kd : IntKind) (ho : ops[i]? = some o) (hw : Region.wanted o (yielded ops a.tmps) = true) (hop : o.op = .call { callee := .value (.func f), args := #[x, y, z], argTypes := ats })
    (hf : P.funcs[f]? = some fd) (hname : (fd.name == "runtime.NumGoroutine") = false) (hb : fd.body.isNone = true) (hn : Extern.findNext fd = none) (he : Extern.find fd = some (Extern.Atomic.casT (.int kd)))
    (hx : a.eval x = .pointer (some ad)) (hy : a.eval y = .int kd v) (hz : a.eval z = .int kd n) (hs : ad.spot = none) (hown : k.own ad.block = some (.cells c t)) (hc : c[ad.off]? = some (.int kd v))
    (h : OpsK P main fn ops rest Q (a.put o.dst (.bool true)) (k.set ad.block (.cells (c.setIfInBounds ad.off (.int kd n)) t))) : OpsK P main fn ops (i :: rest) Q a k :=
  fun b kk cs Stop hbf hk hcc => GK.next rfl fun w hsat => by
    obtain ⟨h1, h2⟩ := own_cell hsat hown hs hc
    rw [stepG_cas_hit ho hw hk hop hf hname hb hn kd he hx hy hz h1 h2]
    exact ⟨_, step_rw hsat hown hs, h b kk cs Stop hbf hk hcc⟩
theorem opsK_unsafe {src dst t : TypeId} {x : Operand} {ad : Addr} (ho : ops[i]? = some o) (hw : Region.wanted o (yielded ops a.tmps) = true) (hop : o.op = .convert src dst x) (hx : a.eval x = .pointer (some ad))
    (hs : P.underlying src = some (.pointer t)) (hd : P.underlying dst = some .unsafePointer) (hsz : (P.info? t).map (fun i => decide (i.size = 0)) = some false) (hc : ∀ w, k.Sat w → ∃ v, w.cell? ad = some v)
    (h : OpsK P main fn ops rest Q (a.put o.dst (.pointer (some ad))) k) : OpsK P main fn ops (i :: rest) Q a k :=
  opsK_cons ho hw fun w hsat => by
    obtain ⟨v, hv⟩ := hc w hsat
    have hr : (execOp a.eval o).run P w = .ok (.value (.pointer (some ad))) w := by
      unfold execOp; simp only [hop, hx]; simp [run_convert_to_unsafe hs hd hsz hv]
    have he : (execOp a.eval o).events P w #[] = #[] := by
      unfold execOp; simp only [hop, hx]; simp [run_convert_to_unsafe hs hd hsz hv, events_convert_to_unsafe hs hd hsz hv]
    rw [hr, listed_nil he]
    exact ⟨k, k.idle hsat, h⟩
theorem has_cell {ad : Addr} {v : Value} (h : k.Has ad v) : ∀ w, k.Sat w → ∃ v, w.cell? ad = some v := fun w hw => ⟨v, hw.cell h⟩
theorem opsK_addAt {x y : Operand} {d v : Int} {ad : Addr} {c : Array Value} {t : TypeId} (kd : IntKind) (ho : ops[i]? = some o) (hw : Region.wanted o (yielded ops a.tmps) = true) (hop : o.op = .call { callee := .value (.func f), args := #[x, y], argTypes := ats })
    (hf : P.funcs[f]? = some fd) (hname : (fd.name == "runtime.NumGoroutine") = false) (hb : fd.body.isNone = true) (hn : Extern.findNext fd = none) (he : Extern.find fd = some (Extern.Atomic.update (Op.intArith .add) kd true))
    (hx : a.eval x = .pointer (some ad)) (hy : a.eval y = .int kd d) (hs : ad.spot = none) (hown : k.own ad.block = some (.cells c t)) (hc : c[ad.off]? = some (.int kd v))
    (h : OpsK P main fn ops rest Q (a.put o.dst (.int kd (kd.wrap (v + d)))) (k.set ad.block (.cells (c.setIfInBounds ad.off (.int kd (kd.wrap (v + d)))) t))) : OpsK P main fn ops (i :: rest) Q a k :=
  fun b kk cs Stop hbf hk hcc => GK.next rfl fun w hsat => by
    obtain ⟨h1, h2⟩ := own_cell hsat hown hs hc
    rw [stepG_add_atomic ho hw hk hop hf hname hb hn kd he hx hy h1 h2]
    exact ⟨_, step_rw hsat hown hs, h b kk cs Stop hbf hk hcc⟩
end
theorem said_over (k : Kn) (B : Nat) (o : Obj) : ((k.said .disable).set B o).said .enable = k.set B o := rfl
set_option maxRecDepth 100000 in
theorem ilock_k {main : Who} (k : Kn) (B off : Nat) (c : Array Value) (t : TypeId) (hb : k.own B = some (.cells c t)) (hc : c[off]? = some (.int .i32 0)) :
    CallsK Try.prog main 64 #[.pointer (some ⟨B, off, none⟩)] k fun v k' => k' = k.set B (.cells (c.setIfInBounds off (.int .i32 1)) t) := by
  (refine callsK_of Try.func64 (by first | rfl | kernel_rfl) rfl ?_; simp only [Try.ntmps64, List.size_toArray, List.length_cons, List.length_nil, Nat.reduceAdd, Nat.reduceSub, Array.replicate_succ, Array.replicate_zero, List.push_toArray, List.append_toArray, List.nil_append, List.cons_append])
  (first | apply wpK_seq | apply wpK_block | apply wpK_skip | apply wpK_label | apply wpK_ret | apply wpK_exit | apply opsK_nil)
  (apply wpK_region; simp only [List.size_toArray, List.length_cons, List.length_nil, Nat.reduceAdd, Nat.zero_add, List.range, List.range.loop])
  refine opsK_mark0 .disable (by simp) rfl rfl (by rfl) rfl (by rfl) (by kernel_rfl) (by kernel_rfl) (by kernel_rfl) (by rfl) ?_
  walk_nrm
  refine goF ?_
  refine opsK_cas .i32 rfl (by rfl) rfl (by rfl) (by kernel_rfl) (by kernel_rfl) (by kernel_rfl) (by rfl) rfl rfl rfl rfl hb hc ?_
  walk_nrm
  refine goF ?_
  refine opsK_mark0 .enable (by simp) rfl rfl (by rfl) rfl (by rfl) (by kernel_rfl) (by kernel_rfl) (by kernel_rfl) (by rfl) ?_
  rw [said_over]
  walk_nrm
  refine goF ?_
  have hlt : off < c.size := (Array.getElem?_eq_some_iff.1 hc).1
  have hh : (k.set B (.cells (c.setIfInBounds off (.int .i32 1)) t)).Has ⟨B, off, none⟩ (.int .i32 1) := Kn.has_own (Kn.set_same _ _ _) (by simp [hlt])
  refine opsK_unsafe (t := 55) rfl (by rfl) rfl rfl (by kernel_rfl) (by kernel_rfl) (by kernel_rfl) (has_cell hh) ?_
  walk_nrm
  refine opsK_markAt .acquire (by simp) (fun _ => rfl) rfl (by rfl) rfl (by rfl) (by kernel_rfl) (by kernel_rfl) (by kernel_rfl) (by rfl) (by simp [Act.eval]; rfl) ?_
  walk_nrm
  refine goF ?_
  exact retK0 (.inl rfl) rfl rfl rfl
set_option maxRecDepth 100000 in
set_option maxHeartbeats 2000000 in
theorem iunlock_k {main : Who} (k : Kn) (B off : Nat) (c : Array Value) (t : TypeId) (hb : k.own B = some (.cells c t)) (hc : c[off]? = some (.int .i32 1)) :
    CallsK Try.prog main 65 #[.pointer (some ⟨B, off, none⟩)] k fun v k' => k' = k.set B (.cells (c.setIfInBounds off (.int .i32 0)) t) := by
  have hh : k.Has ⟨B, off, none⟩ (.int .i32 1) := Kn.has_own hb hc
  (refine callsK_of Try.func65 (by first | rfl | kernel_rfl) rfl ?_; simp only [Try.ntmps65, List.size_toArray, List.length_cons, List.length_nil, Nat.reduceAdd, Nat.reduceSub, Array.replicate_succ, Array.replicate_zero, List.push_toArray, List.append_toArray, List.nil_append, List.cons_append])
  repeat (first | (apply wpK_region; simp only [List.size_toArray, List.length_cons, List.length_nil, Nat.reduceAdd, Nat.zero_add, List.range, List.range.loop]) | ((first | refine opsK_max rfl (by rfl) rfl rfl rfl ?_ | refine opsK_eqNil rfl (by rfl) rfl rfl (by kernel_rfl) ?_ | refine opsK_neNil rfl (by rfl) rfl rfl (by kernel_rfl) ?_); try simp only [Option.isNone_none, Option.isNone_some, Bool.not_true, Bool.not_false]; try walk_nrm) | (co_applyP opsK_pure_k rfl (by rfl) ?_ ?_ ?_; (focus (intro _ K hK; go_simp; exact hK)); (focus (first | (exact fun _ => ev_int rfl rfl rfl rfl) | (exact fun _ => ev_str rfl rfl rfl) | (exact fun _ => ev_build rfl) | (exact fun _ => ev_lenS rfl rfl) | (exact fun _ => ev_lenL rfl rfl) | (exact fun _ => ev_mkI rfl) | (intro _; simp [go_sem, *]; done))); try walk_nrm) | (co_applyP opsK_load1 rfl (by rfl) rfl rfl ?_ ?_ ?_; (focus (intro _; go_simp)); (focus (exact hh)); try walk_nrm) | ((first | apply wpK_seq | apply wpK_block | apply wpK_skip | apply wpK_label | apply wpK_ret | apply wpK_exit | apply opsK_nil); try simp only [thenK, blockK, if_true, if_false, reduceIte, Nat.reduceEqDiff]) | (refine wpK_cond rfl ?_; simp only [if_true, if_false, reduceIte, Bool.false_eq_true]) | (refine opsK_unwanted rfl (by rfl) ?_; try walk_nrm))
  refine opsK_unsafe (t := 55) rfl (by rfl) rfl rfl (by kernel_rfl) (by kernel_rfl) (by kernel_rfl) (has_cell hh) ?_
  walk_nrm
  refine opsK_markAt .releaseMerge (by simp) (fun _ => rfl) rfl (by rfl) rfl (by rfl) (by kernel_rfl) (by kernel_rfl) (by kernel_rfl) (by rfl) (by simp [Act.eval]; rfl) ?_
  walk_nrm
  refine goF ?_
  refine opsK_mark0 .disable (by simp) rfl rfl (by rfl) rfl (by rfl) (by kernel_rfl) (by kernel_rfl) (by kernel_rfl) (by rfl) ?_
  walk_nrm
  refine goF ?_
  refine opsK_addAt .i32 rfl (by rfl) rfl (by rfl) (by kernel_rfl) (by kernel_rfl) (by kernel_rfl) (by rfl) rfl rfl rfl hb hc ?_
  have e0 : IntKind.i32.wrap (1 + -1) = 0 := by decide
  rw [e0]
  walk_nrm
  refine goF ?_
  refine opsK_mark0 .enable (by simp) rfl rfl (by rfl) rfl (by rfl) (by kernel_rfl) (by kernel_rfl) (by kernel_rfl) (by rfl) ?_
  walk_nrm
  refine goF ?_
  exact retK0 (.inr rfl) rfl rfl rfl
set_option maxRecDepth 100000 in
theorem lock_k {main : Who} (k : Kn) (B : Nat) (c : Array Value) (t : TypeId) (hb : k.own B = some (.cells c t)) (hc : c[0]? = some (.int .i32 0)) :
    CallsK Try.prog main 52 #[.pointer (some ⟨B, 0, none⟩)] k fun v k' => k' = k.set B (.cells (c.setIfInBounds 0 (.int .i32 1)) t) := by
  (refine callsK_of Try.func52 (by first | rfl | kernel_rfl) rfl ?_; simp only [Try.ntmps52, List.size_toArray, List.length_cons, List.length_nil, Nat.reduceAdd, Nat.reduceSub, Array.replicate_succ, Array.replicate_zero, List.push_toArray, List.append_toArray, List.nil_append, List.cons_append])
  refine goF ?_
  refine opsK_callv rfl (by rfl) rfl (by first | (walk_nrm; done) | (walk_nrm; rfl)) (ilock_k k B 0 c t hb hc) ?_
  rintro v _ rfl
  walk_nrm
  refine goF ?_
  exact retK0 (.inr rfl) rfl rfl rfl
set_option maxRecDepth 100000 in
theorem unlock_k {main : Who} (k : Kn) (B : Nat) (c : Array Value) (t : TypeId) (hb : k.own B = some (.cells c t)) (hc : c[0]? = some (.int .i32 1)) :
    CallsK Try.prog main 53 #[.pointer (some ⟨B, 0, none⟩)] k fun v k' => k' = k.set B (.cells (c.setIfInBounds 0 (.int .i32 0)) t) := by
  (refine callsK_of Try.func53 (by first | rfl | kernel_rfl) rfl ?_; simp only [Try.ntmps53, List.size_toArray, List.length_cons, List.length_nil, Nat.reduceAdd, Nat.reduceSub, Array.replicate_succ, Array.replicate_zero, List.push_toArray, List.append_toArray, List.nil_append, List.cons_append])
  refine goF ?_
  refine opsK_callv rfl (by rfl) rfl (by first | (walk_nrm; done) | (walk_nrm; rfl)) (iunlock_k k B 0 c t hb hc) ?_
  rintro v _ rfl
  walk_nrm
  refine goF ?_
  exact retK0 (.inr rfl) rfl rfl rfl
end Go.Proofs.Ytacfhfeegalmlaa
