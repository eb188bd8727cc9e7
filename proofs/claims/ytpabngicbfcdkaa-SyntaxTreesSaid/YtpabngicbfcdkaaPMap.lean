/-
  GENERIC, over any program: maps keyed by addresses, or by what is made of addresses: what such a map holds, key by key; a look-up, a store.
-/
import Derived.Test.YtpabngicbfcdkaaFrame
import Derived.LaidEqlPtr
import Derived.Maps.Own
namespace Go.Proofs.Ytpabngicbfcdkaa
open Go.RowKit
set_option linter.unusedVariables false
set_option linter.unusedSimpArgs false

/-- keys that are compared by asking -/
structure PKey (P : Program) (KT : TypeId) {κ : Type} (enc : κ → Value) (ok : World → κ → Prop) : Prop where
  inj : ∀ x y, enc x = enc y → x = y
  und : ∃ d, P.underlying KT = some d ∧ ∀ x y, Instr.sameNow d (enc x) (enc y) = none
  chk : ∀ (w : World) (em : Bool) (x : κ), (Instr.checkKey em 10000 KT (enc x)).run P w = .ok () w
  eq : ∀ (w : World) (x y : κ), ok w x → ok w y → ∃ b, (Op.equal KT (enc x) (enc y)).run P w = .ok b w ∧ (b = true ↔ x = y)
  stay : ∀ (w : World) (x : κ), (Instr.keyThatStays (enc x) (enc x)).run P w = .ok (enc x) w

/-- block bm is a map that holds f -/
def PMap (w : World) {κ : Type} (enc : κ → Value) (bm : Nat) (f : κ → Option Value) : Prop :=
  ∃ es clock, w.heap[bm]? = some (.map es clock) ∧ (∀ e ∈ es.toList, ∃ x, e.key = enc x) ∧ es.toList.Pairwise (fun e e' => e.key ≠ e'.key) ∧ ∀ x v, f x = some v ↔ ∃ e ∈ es.toList, e.key = enc x ∧ e.val = v

theorem PMap.fr {w w' : World} {κ : Type} {enc : κ → Value} {bm : Nat} {f : κ → Option Value} {S : Nat → Prop} (h : PMap w enc bm f) (hf : Fr S w w') (hn : ¬ S bm) : PMap w' enc bm f := by
  obtain ⟨es, clock, hb, r⟩ := h
  exact ⟨es, clock, (hf.block bm (Array.getElem?_eq_some_iff.1 hb).1 hn).trans hb, r⟩
theorem PMap.below {w w' : World} {κ : Type} {enc : κ → Value} {bm : Nat} {f : κ → Option Value} (h : PMap w enc bm f) (hb : Below w.heap.size w w') : PMap w' enc bm f := h.fr (S := fun _ => False) (.of_below hb) (fun h => h)
theorem PMap.lt {w : World} {κ : Type} {enc : κ → Value} {bm : Nat} {f : κ → Option Value} (h : PMap w enc bm f) : bm < w.heap.size := by
  obtain ⟨es, clock, hb, r⟩ := h
  exact (Array.getElem?_eq_some_iff.1 hb).1
theorem PMap.made (w : World) {κ : Type} (enc : κ → Value) : PMap (w.alloc (.map #[] 0)) enc w.heap.size (fun _ => none) :=
  ⟨#[], 0, heap_alloc_new w _, by simp, by simp, by simp⟩

section
variable {P : Program} {KT T E : TypeId} {κ : Type} {enc : κ → Value} {ok : World → κ → Prop} {w : World} {bm : Nat} {f : κ → Option Value}

theorem findAsking_run (K : PKey P KT enc ok) {x : κ} (hx : ok w x) : ∀ (es : List MapEntry) (i : Nat), (∀ e ∈ es, ∃ y, e.key = enc y ∧ ok w y) →
    ((Instr.findAsking KT (enc x) es i).run P w = .ok none w ∧ ∀ e ∈ es, e.key ≠ enc x) ∨ ∃ j e, (Instr.findAsking KT (enc x) es i).run P w = .ok (some (i + j, e.val)) w ∧ es[j]? = some e ∧ e.key = enc x
  | [], i, _ => .inl ⟨by simp [Instr.findAsking], by simp⟩
  | e :: r, i, he => by
    obtain ⟨y, hy, hoy⟩ := he e (by simp)
    obtain ⟨b, hb, hbi⟩ := K.eq w x y hx hoy
    cases b with
    | true =>
      obtain rfl := hbi.1 rfl
      exact .inr ⟨0, e, by simp [Instr.findAsking, hy, hb], rfl, hy⟩
    | false =>
      have hne : e.key ≠ enc x := by
        rw [hy]; intro h
        have := hbi.2 (K.inj _ _ h).symm
        cases this
      rcases findAsking_run K hx r (i + 1) (fun e' h' => he e' (by simp [h'])) with ⟨h1, h2⟩ | ⟨j, e', h1, h2, h3⟩
      · refine .inl ⟨by simp [Instr.findAsking, hy, hb, h1], fun e' h' => ?_⟩
        rcases List.mem_cons.1 h' with rfl | h'
        · exact hne
        · exact h2 e' h'
      · exact .inr ⟨j + 1, e', by simp [Instr.findAsking, hy, hb, h1]; omega, by simpa using h2, h3⟩

theorem findKey_run (K : PKey P KT enc ok) {x : κ} (hx : ok w x) (es : List MapEntry) (he : ∀ e ∈ es, ∃ y, e.key = enc y ∧ ok w y) :
    ((Instr.findKey KT (enc x) es).run P w = .ok none w ∧ ∀ e ∈ es, e.key ≠ enc x) ∨ ∃ j e, (Instr.findKey KT (enc x) es).run P w = .ok (some (j, e.val)) w ∧ es[j]? = some e ∧ e.key = enc x := by
  obtain ⟨d, hd, hn⟩ := K.und
  cases es with
  | nil => exact .inl ⟨by simp [Instr.findKey, run_underlying hd, Instr.findNow], by simp⟩
  | cons e r =>
    obtain ⟨y, hy, _⟩ := he e (by simp)
    have h0 : Instr.findNow d (enc x) (e :: r) 0 = none := by simp [Instr.findNow, hy, hn]
    rcases findAsking_run K hx (e :: r) 0 he with ⟨h1, h2⟩ | ⟨j, e', h1, h2, h3⟩
    · exact .inl ⟨by simp [Instr.findKey, run_underlying hd, h0, h1], h2⟩
    · exact .inr ⟨j, e', by simp [Instr.findKey, run_underlying hd, h0, h1], h2, h3⟩

theorem PMap.keys (h : PMap w enc bm f) (K : PKey P KT enc ok) (hok : ∀ y v, f y = some v → ok w y) {es : Array MapEntry} {clock : Nat} (hb : w.heap[bm]? = some (.map es clock)) : ∀ e ∈ es.toList, ∃ y, e.key = enc y ∧ ok w y := by
  obtain ⟨es', clock', hb', h1, h2, h3⟩ := h
  rw [hb] at hb'
  cases hb'
  intro e he
  obtain ⟨y, hy⟩ := h1 e he
  exact ⟨y, hy, hok y e.val ((h3 y e.val).2 ⟨e, he, hy, rfl⟩)⟩

theorem PMap.look (h : PMap w enc bm f) (K : PKey P KT enc ok) (hok : ∀ y v, f y = some v → ok w y) (hT : P.underlying T = some (.map KT E)) {z : Value} (hz : (zeroValue E).run P w = .ok z w) {x : κ} (hx : ok w x) :
    (Instr.lookup T (.map (some bm)) (enc x) false).run P w = .ok ((f x).getD z) w := by
  have hh := h
  obtain ⟨es, clock, hb, h1, h2, h3⟩ := h
  have hk := hh.keys K hok hb
  rcases findKey_run K hx es.toList hk with ⟨g1, g2⟩ | ⟨j, e, g1, g2, g3⟩
  · have hf : f x = none := by
      cases hf : f x with
      | none => rfl
      | some v => obtain ⟨e, he, h4, _⟩ := (h3 x v).1 hf; exact absurd h4 (g2 e he)
    rw [hf]
    simp [Instr.lookup, run_underlying hT, MapKept.run_getObj_map hb, K.chk, g1, hz]
  · have hf : f x = some e.val := (h3 x e.val).2 ⟨e, List.mem_of_getElem? g2, g3, rfl⟩
    rw [hf]
    simp [Instr.lookup, run_underlying hT, MapKept.run_getObj_map hb, K.chk, g1]

theorem pair_key {es : List MapEntry} (h : es.Pairwise (fun e e' => e.key ≠ e'.key)) {i j : Nat} {a b : MapEntry} (ha : es[i]? = some a) (hb : es[j]? = some b) (hk : a.key = b.key) : i = j := by
  rw [List.pairwise_iff_getElem] at h
  have hi := (List.getElem?_eq_some_iff.1 ha)
  have hj := (List.getElem?_eq_some_iff.1 hb)
  rcases Nat.lt_trichotomy i j with h1 | h1 | h1
  · exact absurd (by rw [hi.2, hj.2]; exact hk) (h i j hi.1 hj.1 h1)
  · exact h1
  · exact absurd (by rw [hi.2, hj.2]; exact hk.symm) (h j i hj.1 hi.1 h1)

theorem PMap.update [DecidableEq κ] (h : PMap w enc bm f) (K : PKey P KT enc ok) (hok : ∀ y v, f y = some v → ok w y) (hT : P.underlying T = some (.map KT E)) {x : κ} (hx : ok w x) (v : Value) :
    ∃ w', (Instr.mapUpdate T (.map (some bm)) (enc x) v).run P w = .ok () w' ∧ PMap w' enc bm (fun y => if y = x then some v else f y) ∧ w.grownBy w' (some bm) := by
  have hh := h
  obtain ⟨es, clock, hb, h1, h2, h3⟩ := h
  have hk := hh.keys K hok hb
  have hlt := (Array.getElem?_eq_some_iff.1 hb).1
  have grown : ∀ o, w.grownBy (ChangeMaps.setBlock w bm o) (some bm) := fun o => ⟨rfl, rfl, rfl, by simp [ChangeMaps.setBlock], fun k hk hne => by
    show (w.heap.setIfInBounds bm o)[k]? = _
    rw [Array.getElem?_setIfInBounds_ne (fun e => hne (by rw [e]))]⟩
  have new : ∀ o, (ChangeMaps.setBlock w bm o).heap[bm]? = some o := fun o => by
    show (w.heap.setIfInBounds bm o)[bm]? = _
    rw [Array.getElem?_setIfInBounds_self_of_lt hlt]
  rcases findKey_run K hx es.toList hk with ⟨g1, g2⟩ | ⟨j, e, g1, g2, g3⟩
  · refine ⟨ChangeMaps.setBlock w bm (.map (es.push { key := enc x, val := v, born := clock }) (clock + 1)), ?_, ⟨_, _, new _, ?_, ?_, ?_⟩, grown _⟩
    · simp [Instr.mapUpdate, run_underlying hT, MapKept.run_getObj_map hb, K.chk, g1, MapKept.run_setObj_map _ hb, ChangeMaps.setBlock]
    · intro e he
      simp only [Array.toList_push, List.mem_append, List.mem_singleton] at he
      rcases he with he | rfl
      · exact h1 e he
      · exact ⟨x, rfl⟩
    · simp only [Array.toList_push]
      rw [List.pairwise_append]
      refine ⟨h2, by simp, fun a ha b hb => ?_⟩
      rw [List.mem_singleton] at hb
      subst hb
      exact g2 a ha
    · intro y u
      simp only [Array.toList_push, List.mem_append, List.mem_singleton]
      by_cases e : y = x
      · subst e
        rw [if_pos rfl]
        constructor
        · intro hu; cases hu; exact ⟨_, .inr rfl, rfl, rfl⟩
        · rintro ⟨e, he | rfl, h4, h5⟩
          · exact absurd h4 (g2 e he)
          · subst h5; rfl
      · rw [if_neg e, h3]
        constructor
        · rintro ⟨e', he, r⟩; exact ⟨e', .inl he, r⟩
        · rintro ⟨e', he | rfl, h4, h5⟩
          · exact ⟨e', he, h4, h5⟩
          · exact absurd (K.inj _ _ h4).symm e
  · have hjl : j < es.size := (List.getElem?_eq_some_iff.1 g2).1
    have hje : es[j]? = some e := by simpa using g2
    have hmod : es.modify j (fun e' => { e' with key := enc x, val := v }) = es.set j { e with key := enc x, val := v } hjl := by
      apply Array.ext (by simp)
      intro i h5 h6
      simp only [Array.getElem_modify, Array.getElem_set]
      by_cases hij : j = i
      · subst hij
        have : es[j] = e := (Array.getElem?_eq_some_iff.1 hje).2
        simp [this]
      · simp [hij]
    refine ⟨ChangeMaps.setBlock w bm (.map (es.modify j fun e' => { e' with key := enc x, val := v }) clock), ?_, ⟨_, _, new _, ?_, ?_, ?_⟩, grown _⟩
    · simp [Instr.mapUpdate, run_underlying hT, MapKept.run_getObj_map hb, K.chk, g1, hje, g3, K.stay, MapKept.run_setObj_map _ hb, ChangeMaps.setBlock]
    · rw [hmod]
      intro e' he
      rw [Array.toList_set] at he
      rcases List.mem_or_eq_of_mem_set he with he | rfl
      · exact h1 e' he
      · exact ⟨x, rfl⟩
    · rw [hmod, Array.toList_set]
      rw [List.pairwise_iff_getElem]
      intro p q hp hq hpq
      have hp' : p < es.toList.length := by simpa using hp
      have hq' : q < es.toList.length := by simpa using hq
      have h2' := List.pairwise_iff_getElem.1 h2 p q hp' hq' hpq
      have hkey : ∀ r (hr : r < es.toList.length), ((es.toList.set j { e with key := enc x, val := v })[r]'(by simpa using hr)).key = (es.toList[r]).key := by
        intro r hr
        rw [List.getElem_set]
        split
        · rename_i hjr
          subst hjr
          have : es.toList[j] = e := (List.getElem?_eq_some_iff.1 g2).2
          rw [this, g3]
        · rfl
      rw [hkey p hp', hkey q hq']
      exact h2'
    · intro y u
      rw [hmod, Array.toList_set]
      have hset : ∀ e', e' ∈ es.toList.set j { e with key := enc x, val := v } ↔ e' = { e with key := enc x, val := v } ∨ (e' ∈ es.toList ∧ e'.key ≠ enc x) := by
        intro e'
        constructor
        · intro he
          obtain ⟨i, hi⟩ := List.getElem?_of_mem he
          rw [List.getElem?_set] at hi
          split at hi
          · split at hi
            · exact .inl (Option.some.inj hi).symm
            · cases hi
          · rename_i hji
            refine .inr ⟨List.mem_of_getElem? hi, fun hk' => hji ?_⟩
            exact pair_key h2 g2 hi (by rw [g3, hk'])
        · rintro (rfl | ⟨he, hne⟩)
          · exact List.mem_set (by simpa using hjl) _
          · obtain ⟨i, hi⟩ := List.getElem?_of_mem he
            have hij : j ≠ i := by
              intro h; subst h
              rw [g2] at hi; cases hi
              exact hne g3
            exact List.mem_of_getElem? (i := i) (by rw [List.getElem?_set_ne hij]; exact hi)
      show (if y = x then some v else f y) = some u ↔ _
      by_cases hyx : y = x
      · subst hyx
        rw [if_pos rfl]
        constructor
        · intro hu; cases hu; exact ⟨_, (hset _).2 (.inl rfl), rfl, rfl⟩
        · rintro ⟨e', he, h4, h5⟩
          rcases (hset e').1 he with rfl | ⟨_, hne⟩
          · subst h5; rfl
          · exact absurd h4 hne
      · rw [if_neg hyx, h3]
        constructor
        · rintro ⟨e', he, h4, h5⟩
          exact ⟨e', (hset e').2 (.inr ⟨he, by rw [h4]; exact fun h => hyx (K.inj _ _ h)⟩), h4, h5⟩
        · rintro ⟨e', he, h4, h5⟩
          rcases (hset e').1 he with rfl | ⟨hm, _⟩
          · exact absurd (K.inj _ _ h4).symm hyx
          · exact ⟨e', hm, h4, h5⟩

variable {ops : Array Oper} {rest : List Oper} {o : Oper} {a : Act} {Q : Exit → Act → World → Prop}

theorem PMap.wpLook (h : PMap w enc bm f) (K : PKey P KT enc ok) (hok : ∀ y v, f y = some v → ok w y) (hT : P.underlying T = some (.map KT E)) {z : Value} (hz : (zeroValue E).run P w = .ok z w)
    (hg : o.guard = none) (m x : Operand) (hop : o.op = Op.lookup T m x false) (hm : a.eval m = .map (some bm)) (k : κ) (hx : ok w k) (hk : a.eval x = enc k)
    (hK : wpList P ops Q rest (a.put o.dst ((f k).getD z)) w) : wpList P ops Q (o :: rest) a w := by
  refine wpList_plain hg fun K' hK' => ?_
  have hrun := h.look K hok hT hz hx
  unfold Oper.wp
  simp [execOp, hop, hm, hk, hrun, Result.andThen]
  exact hK' _ _ hK

theorem PMap.wpUpdate [DecidableEq κ] (h : PMap w enc bm f) (K : PKey P KT enc ok) (hok : ∀ y v, f y = some v → ok w y) (hT : P.underlying T = some (.map KT E))
    (hg : o.guard = none) (m x v : Operand) (hop : o.op = Op.mapUpdate T m x v) (hm : a.eval m = .map (some bm)) (k : κ) (hx : ok w k) (hk : a.eval x = enc k) (u : Value) (hv : a.eval v = u)
    (hK : ∀ w', PMap w' enc bm (fun y => if y = k then some u else f y) → w.grownBy w' (some bm) → wpList P ops Q rest (a.put o.dst undef) w') : wpList P ops Q (o :: rest) a w := by
  refine wpList_plain hg fun K' hK' => ?_
  obtain ⟨w', hrun, h1, h2⟩ := h.update K hok hT hx u
  unfold Oper.wp
  simp [execOp, hop, hm, hk, hv, hrun, Result.andThen]
  exact hK' _ _ (hK w' h1 h2)
end

/-- the address of a cell of a plain block -/
def OkA (w : World) (p : Addr) : Prop := ∃ cs ty, w.heap[p.block]? = some (.cells cs ty (0, 0))
theorem OkA.fr {w w' : World} {p : Addr} {S : Nat → Prop} (h : OkA w p) (hf : Fr S w w') (hn : ¬ S p.block) : OkA w' p := by
  obtain ⟨cs, ty, hb⟩ := h
  exact ⟨cs, ty, (hf.block _ (Array.getElem?_eq_some_iff.1 hb).1 hn).trans hb⟩

theorem chk_ptr {P : Program} {KT te : TypeId} (hp : P.underlying KT = some (.pointer te)) (w : World) (em : Bool) (p : Option Addr) (n : Nat) : (Instr.checkKey em (n + 1) KT (.pointer p)).run P w = .ok () w := by
  simp [Instr.checkKey, run_underlying hp]
theorem eqIn_ptr {P : Program} {KT te : TypeId} {j : TypeInfo} (hp : P.underlying KT = some (.pointer te)) (hte : P.info? te = some j) (hsz : j.size ≠ 0) (w : World) (x y : Addr) (hx : OkA w x) (hy : OkA w y) (n : Nat) :
    (Op.equalIn (n + 1) KT (.pointer (some x)) (.pointer (some y))).run P w = .ok (decide (x = y)) w := by
  obtain ⟨c1, t1, h1⟩ := hx
  obtain ⟨c2, t2, h2⟩ := hy
  by_cases e : x = y
  · subst e
    simp [Op.equalIn, run_underlying hp, sizeOf, typeInfo, hte, hsz, run_sameAddr_same]
  · simp [Op.equalIn, run_underlying hp, sizeOf, typeInfo, hte, hsz, run_sameAddr_other w e h1 h2, e]

theorem pkey_addr {P : Program} {KT te : TypeId} {j : TypeInfo} (hp : P.underlying KT = some (.pointer te)) (hte : P.info? te = some j) (hsz : j.size ≠ 0) : PKey P KT (fun p : Addr => Value.pointer (some p)) OkA where
  inj x y h := by simpa using h
  und := ⟨_, hp, fun _ _ => rfl⟩
  chk w em x := chk_ptr hp w em (some x) 9999
  eq w x y hx hy := ⟨decide (x = y), eqIn_ptr hp hte hsz w x y hx hy 9999, by simp⟩
  stay w x := by simp [Instr.keyThatStays, Instr.sameBits]

end Go.Proofs.Ytpabngicbfcdkaa
