/-
  Joined texts: WHAT A PIECE OF AN OPERATION DOES TO ONE'S KNOWLEDGE: the primitives, and how they are joined. · CALLS IN COMPANY: a callee's contract, with what it has deferred. · REGIONS THAT DRAW THEIR ORDER, IN COMPANY, WITH CALLS: whatever order comes up; an operation (a call too) that yields the same in every knowledge that meets S may be taken first. · THE OPERATIONS THAT LOOK AT MEMORY, in company: load, store, alloc, box, makeMap. · LAWS for the words of a walk in company (the words themselves are laid out by a small program).
-/
import Derived.Test.YtacfhfeegalmlaaWW1
import Derived.Conc.DeferLaws
import Derived.Conc.CompanyCalls
import Derived.Conc.CompanyMem

/- WHAT A PIECE OF AN OPERATION DOES TO ONE'S KNOWLEDGE: the primitives, and how they are joined. -/
namespace Go.Proofs.Ytacfhfeegalmlaa
open Go.Conc
set_option linter.unusedVariables false
set_option linter.unusedSimpArgs false

theorem Kn.Step.trans {k k1 k2 : Kn} {w w1 w2 : World} {e1 e2 : Array Event} (h : k.Step k1 w w1 e1) (h' : k1.Step k2 w1 w2 e2) : k.Step k2 w w2 (e1 ++ e2) := by
  have hown : ∀ b, b < w.heap.size → k.own b = none → k1.own b = none := fun b hb hn => by
    cases e : k1.own b with
    | none => rfl
    | some o =>
      rcases h.own b (by rw [e]; simp) with h | h
      · exact absurd hn h
      · omega
  have hoc : ∀ a, k.oc a = none → k1.oc a = none := fun a hn => by
    cases e : k1.oc a with
    | none => rfl
    | some o => exact absurd hn (h.oc a (by rw [e]; simp))
  refine ⟨h'.sat, Nat.le_trans h.size h'.size, fun b hb hn hc => ?_, fun a hn hc hb => ?_, h'.os.trans h.os, h'.tape.trans h.tape, h'.output.trans h.output, fun e he => ?_, fun b hb => ?_, fun a v hv => h'.roK a v (h.roK a v hv), fun a hv => ?_, fun a hv => h.oc a (h'.oc a hv), h'.deaf.trans h.deaf, h'.live.trans h.live, h'.gh.trans h.gh⟩
  · rw [h'.far b (Nat.lt_of_lt_of_le hb h.size) (hown b hb hn) (fun a v hv => ?_), h.far b hb hn hc]
    cases e : k.oc a with
    | none => rw [hoc a e] at hv; cases hv
    | some u => exact hc a u e
  · have h1 := h'.row a (hown _ hb hn) (hoc a hc) (Nat.lt_of_lt_of_le hb h.size)
    have h2 := h.row a hn hc hb
    exact ⟨h1.1.trans h2.1, h1.2.trans h2.2⟩
  · rcases Array.mem_append.1 he with he | he
    · exact ⟨(h.evs e he).1, (h.evs e he).2.mono h'.size⟩
    · refine ⟨?_, (h'.evs e he).2⟩
      have := (h'.evs e he).1
      have hsz := h.size
      revert this
      unfold Kn.Lets
      split
      · rename_i a _
        rintro (x | x | ⟨x, y⟩ | x)
        · rcases h.own _ x with z | z
          · exact .inl z
          · exact .inr (.inr (.inr z))
        · exact .inr (.inl (h.oc _ x))
        · rcases h.roN _ y with z | z | z
          · exact .inr (.inr (.inl ⟨x, z⟩))
          · exact .inl z
          · exact .inr (.inr (.inr z))
        · exact .inr (.inr (.inr (Nat.le_trans hsz x)))
      · rintro ⟨x, y | y⟩
        · rcases h.own _ y with z | z
          · exact ⟨x, .inl z⟩
          · exact ⟨x, .inr z⟩
        · exact ⟨x, .inr (Nat.le_trans hsz y)⟩
      · exact id
      · exact id
      · rintro (x | x)
        · rcases h.own _ x with z | z
          · exact .inl z
          · exact .inr z
        · exact .inr (Nat.le_trans hsz x)
      · rintro (x | x)
        · rcases h.own _ x with z | z
          · exact .inl z
          · exact .inr z
        · exact .inr (Nat.le_trans hsz x)
      · exact id
  · rcases h'.own b hb with x | x
    · exact h.own b x
    · exact .inr (Nat.le_trans h.size x)
  · rcases h'.roN a hv with x | x | x
    · exact h.roN a x
    · exact (h.own _ x).elim (fun z => .inr (.inl z)) (fun z => .inr (.inr z))
    · exact .inr (.inr (Nat.le_trans h.size x))

/-- From every world that fits, s yields a value and leaves a knowledge that satisfy Ψ. -/
def Trip {α : Type} (P : Program) (k : Kn) (s : Sem α) (Ψ : α → Kn → Prop) : Prop :=
  ∀ w, k.Sat w → ∃ v w' k', s.run P w = .ok v w' ∧ k.Step k' w w' (s.events P w #[]) ∧ Ψ v k'

section
variable {α β : Type} {P : Program} {k : Kn} {s : Sem α} {Ψ : α → Kn → Prop}
theorem Trip.pure {a : α} (h : Ψ a k) : Trip P k (Pure.pure a : Sem α) Ψ := fun w hw => ⟨a, w, k, rfl, k.idle hw, h⟩
theorem Trip.bind {f : α → Sem β} {Φ : β → Kn → Prop} (h : Trip P k s fun a k' => Trip P k' (f a) Φ) : Trip P k (s >>= f) Φ := by
  intro w hw
  obtain ⟨v, w1, k1, hr, hs, h1⟩ := h w hw
  obtain ⟨u, w2, k2, hr2, hs2, h2⟩ := h1 w1 hs.sat
  refine ⟨u, w2, k2, by simp [hr, hr2], ?_, h2⟩
  rw [Sem.events_bind, hr, Result.evThen_ok, Sem.events_acc]
  exact hs.trans hs2
theorem Trip.mono {Φ : α → Kn → Prop} (h : Trip P k s Ψ) (hi : ∀ a k, Ψ a k → Φ a k) : Trip P k s Φ := fun w hw =>
  let ⟨v, w', k', h1, h2, h3⟩ := h w hw; ⟨v, w', k', h1, h2, hi _ _ h3⟩
/-- The same in every world, nothing turned, nothing listed. -/
theorem Trip.still {a : α} (hr : ∀ w, s.run P w = .ok a w) (he : ∀ w, s.events P w #[] = #[]) (h : Ψ a k) : Trip P k s Ψ := fun w hw =>
  ⟨a, w, k, hr w, by rw [he w]; exact k.idle hw, h⟩

theorem Kn.Sat.cell {k : Kn} {w : World} (h : k.Sat w) {a : Addr} {v : Value} (hc : k.Has a v) : w.cell? a = some v := by
  rcases hc with hc | ⟨c, t, f, h1, h2, h3⟩ | hc
  · exact h.ro a v hc
  · have := h.own _ _ h1
    unfold World.cell?
    rw [this]
    simp [h2, h3]
  · exact (h.oc a v hc).1
theorem Kn.Has.lets {k : Kn} {n : Nat} {a : Addr} {v : Value} (hc : k.Has a v) (sy : Bool) : k.Lets n ⟨.cell a, false, sy⟩ := by
  rcases hc with hc | ⟨c, t, f, h1, h2, h3⟩ | hc
  · exact .inr (.inr (.inl ⟨rfl, by rw [hc]; simp⟩))
  · exact .inl (by rw [h1]; simp)
  · exact .inr (.inl (by rw [hc]; simp))
theorem Trip.load {a : Addr} {v : Value} {m : Mode} {Ψ : Value → Kn → Prop} (hc : k.Has a v) (h : Ψ v k) : Trip P k (load a m) Ψ := by
  intro w hw
  have h1 := hw.cell hc
  refine ⟨v, w, k, by simp [Go.load, Sem.run, h1], ?_, h⟩
  rw [events_load, h1]
  refine ⟨hw, Nat.le_refl _, fun _ _ _ _ => rfl, fun _ _ _ _ => ⟨rfl, rfl⟩, rfl, rfl, rfl, fun e he => ?_, fun _ h => .inl h, fun _ _ h => h, fun _ h => .inl h, fun _ h => h, rfl, rfl, rfl⟩
  simp at he
  subst he
  refine ⟨hc.lets _, ?_⟩
  show a.block < w.heap.size
  unfold World.cell? at h1
  cases e1 : w.heap[a.block]? with
  | none => rw [e1] at h1; cases h1
  | some _ => exact (Array.getElem?_eq_some_iff.1 e1).1

/-- One's own block b becomes o. -/
def Kn.set (k : Kn) (b : Nat) (o : Obj) : Kn := { k with own := fun x => if x = b then some o else k.own x }
@[simp] theorem Kn.set_ro (k : Kn) (b : Nat) (o : Obj) : (k.set b o).ro = k.ro := rfl
@[simp] theorem Kn.set_oc (k : Kn) (b : Nat) (o : Obj) : (k.set b o).oc = k.oc := rfl
@[simp] theorem Kn.set_same (k : Kn) (b : Nat) (o : Obj) : (k.set b o).own b = some o := by simp [Kn.set]
theorem Kn.set_ne (k : Kn) {b x : Nat} (o : Obj) (h : x ≠ b) : (k.set b o).own x = k.own x := by simp [Kn.set, h]

/-- Turning a block of one's own. -/
theorem Kn.Sat.put {k : Kn} {w : World} (h : k.Sat w) {b : Nat} {o o' : Obj} (hb : k.own b = some o) : (k.set b o').Sat { w with heap := w.heap.setIfInBounds b o' } := by
  have hlt : b < w.heap.size := by
    have := h.own b o hb
    exact (Array.getElem?_eq_some_iff.1 this).1
  have hne : ∀ a : Addr, a.block ≠ b → World.cell? { w with heap := w.heap.setIfInBounds b o' } a = w.cell? a := fun a ha => by
    simp [World.cell?, Array.getElem?_setIfInBounds_ne (Ne.symm ha)]
  have hnf : ∀ a : Addr, a.block ≠ b → World.frozen? { w with heap := w.heap.setIfInBounds b o' } a = w.frozen? a := fun a ha => by
    simp [World.frozen?, Array.getElem?_setIfInBounds_ne (Ne.symm ha)]
  refine ⟨fun a v hv => ?_, fun x u hu => ?_, fun a v hv => ?_, fun a v hv => ?_, fun a v hv => ?_, h.oc_ro, fun x t hx => ?_⟩
  · rw [hne a (fun e => by have := h.ro_own a v hv; rw [e, hb] at this; cases this)]; exact h.ro a v hv
  · by_cases hx : x = b
    · subst hx
      rw [Kn.set_same] at hu
      simp only [Option.some.injEq] at hu
      subst hu
      simp [hlt]
    · rw [Kn.set_ne _ _ hx] at hu
      simp only [Array.getElem?_setIfInBounds_ne (Ne.symm hx)]
      exact h.own x u hu
  · have e1 : a.block ≠ b := fun e => by have := h.oc_own a v hv; rw [e, hb] at this; cases this
    rw [hne a e1, hnf a e1]; exact h.oc a v hv
  · rw [Kn.set_ne _ _ (fun e => by have := h.ro_own a v hv; rw [e, hb] at this; cases this)]; exact h.ro_own a v hv
  · rw [Kn.set_ne _ _ (fun e => by have := h.oc_own a v hv; rw [e, hb] at this; cases this)]; exact h.oc_own a v hv
  · obtain ⟨⟨h1, h2⟩, st, sm, h3⟩ := h.live x t hx
    have e : x ≠ b := fun e => by rw [e, hb] at h1; cases h1
    refine ⟨⟨by rw [Kn.set_ne _ _ e]; exact h1, h2⟩, st, sm, ?_⟩
    unfold Go.ConcR.WgAt at *
    simp only [Array.getElem?_setIfInBounds_ne (Ne.symm e)]
    exact h3
theorem Kn.Step.put {k : Kn} {w : World} (h : k.Sat w) {b : Nat} {o o' : Obj} (hb : k.own b = some o) {es : Array Event} (hes : ∀ e ∈ es, k.Lets w.heap.size e ∧ lowE w.heap.size e) :
    k.Step (k.set b o') w { w with heap := w.heap.setIfInBounds b o' } es := by
  refine ⟨h.put hb, by simp, fun x _ hn _ => ?_, fun a hn _ _ => ?_, rfl, rfl, rfl, fun e he => ⟨(hes e he).1, (hes e he).2.mono (by simp)⟩, fun x hx => ?_, fun _ _ h => h, fun _ h => .inl h, fun _ h => h, rfl, rfl, rfl⟩
  · have : b ≠ x := fun e => by rw [← e, hb] at hn; cases hn
    simp [Array.getElem?_setIfInBounds_ne this]
  · have : b ≠ a.block := fun e => by rw [← e, hb] at hn; cases hn
    exact ⟨by simp [World.cell?, Array.getElem?_setIfInBounds_ne this], by simp [World.frozen?, Array.getElem?_setIfInBounds_ne this]⟩
  · by_cases e : x = b
    · subst e; exact .inl (by rw [hb]; simp)
    · rw [Kn.set_ne _ _ e] at hx; exact .inl hx
theorem setCell_own {w : World} {a : Addr} {v : Value} {c : Array Value} {t : TypeId} {f : Nat × Nat} (h : w.heap[a.block]? = some (.cells c t f)) (hs : a.spot = none) :
    w.setCell a v = { w with heap := w.heap.setIfInBounds a.block (.cells (c.setIfInBounds a.off v) t f) } := by
  unfold World.setCell
  congr 1
  apply Array.ext_getElem?
  intro j
  obtain ⟨hlt, he⟩ := Array.getElem?_eq_some_iff.1 h
  by_cases hj : a.block = j
  · subst hj
    simp [Array.getElem?_modify, Array.getElem_modify, hlt, he, hs]
  · simp [Array.getElem?_modify, hj]
theorem Trip.store {a : Addr} {v : Value} {m : Mode} {c : Array Value} {t : TypeId} {Ψ : Unit → Kn → Prop} (hb : k.own a.block = some (.cells c t)) (hs : a.spot = none) (ho : a.off < c.size) (hv : v.oneCell' = true)
    (h : Ψ () (k.set a.block (.cells (c.setIfInBounds a.off v) t))) : Trip P k (store a v m) Ψ := by
  intro w hw
  have hh := hw.own _ _ hb
  have hc : w.cell? a = some c[a.off] := by simp [World.cell?, hh, hs, ho]
  have hf : w.frozen? a = false := by simp [World.frozen?, hh]
  refine ⟨(), w.setCell a v, _, ?_, ?_, h⟩
  · cases v <;> first | (simp [Value.oneCell'] at hv; done) | simp [Go.store, Sem.run, hc, hf]
  · rw [events_store P w #[] a v m hv, hc, hf, setCell_own hh hs]
    refine Kn.Step.put hw hb fun e he => ?_
    simp at he
    subst he
    exact ⟨.inl (by rw [hb]; simp), (Array.getElem?_eq_some_iff.1 hh).1⟩
/-- A new block. -/
theorem Trip.new {o : Obj} {Ψ : Nat → Kn → Prop} (h : ∀ b, k.own b = none → (∀ a, k.ro a ≠ none → a.block ≠ b) → (∀ a, k.oc a ≠ none → a.block ≠ b) → Ψ b (k.set b o)) : Trip P k (newObj o) Ψ := by
  intro w hw
  have hn : k.own w.heap.size = none := by
    cases e : k.own w.heap.size with
    | none => rfl
    | some u => have := hw.own _ _ e; simp at this
  have hcell : ∀ a v, w.cell? a = some v → a.block < w.heap.size := fun a v e => by
    unfold World.cell? at e
    cases e1 : w.heap[a.block]? with
    | none => rw [e1] at e; cases e
    | some _ => exact (Array.getElem?_eq_some_iff.1 e1).1
  have hro : ∀ a, k.ro a ≠ none → a.block < w.heap.size := fun a ha => by
    obtain ⟨v, hv⟩ := Option.ne_none_iff_exists'.1 ha
    exact hcell a v (hw.ro a v hv)
  have hoc : ∀ a, k.oc a ≠ none → a.block < w.heap.size := fun a ha => by
    obtain ⟨v, hv⟩ := Option.ne_none_iff_exists'.1 ha
    exact hcell a v (hw.oc a v hv).1
  have hold : ∀ b, b < w.heap.size → (w.heap.push o)[b]? = w.heap[b]? := fun b hb => by simp [Array.getElem?_push, Nat.ne_of_lt hb]
  have hcl : ∀ a : Addr, a.block < w.heap.size → World.cell? { w with heap := w.heap.push o } a = w.cell? a := fun a ha => by simp [World.cell?, hold _ ha]
  have hcf : ∀ a : Addr, a.block < w.heap.size → World.frozen? { w with heap := w.heap.push o } a = w.frozen? a := fun a ha => by simp [World.frozen?, hold _ ha]
  refine ⟨w.heap.size, { w with heap := w.heap.push o }, k.set w.heap.size o, rfl, ?_, h _ hn (fun a ha => Nat.ne_of_lt (hro a ha)) (fun a ha => Nat.ne_of_lt (hoc a ha))⟩
  rw [events_newObj]
  refine ⟨⟨fun a v hv => ?_, fun b u hu => ?_, fun a v hv => ?_, fun a v hv => ?_, fun a v hv => ?_, hw.oc_ro, fun x t hx => ?_⟩, by simp, fun b hb _ _ => hold b hb, fun a _ _ hb => ⟨hcl a hb, hcf a hb⟩, rfl, rfl, rfl, fun e he => by simp at he, fun b hb => ?_, fun _ _ h => h, fun _ h => .inl h, fun _ h => h, rfl, rfl, rfl⟩
  · rw [hcl a (hro a (by rw [show k.ro a = some v from hv]; simp))]; exact hw.ro a v hv
  · by_cases e : b = w.heap.size
    · subst e
      rw [Kn.set_same] at hu
      simp only [Option.some.injEq] at hu
      subst hu
      simp
    · rw [Kn.set_ne _ _ e] at hu
      have := hw.own b u hu
      rw [hold b (Array.getElem?_eq_some_iff.1 this).1]
      exact this
  · have e1 := hoc a (by rw [show k.oc a = some v from hv]; simp)
    rw [hcl a e1, hcf a e1]; exact hw.oc a v hv
  · rw [Kn.set_ne _ _ (Nat.ne_of_lt (hro a (by rw [show k.ro a = some v from hv]; simp)))]; exact hw.ro_own a v hv
  · rw [Kn.set_ne _ _ (Nat.ne_of_lt (hoc a (by rw [show k.oc a = some v from hv]; simp)))]; exact hw.oc_own a v hv
  · obtain ⟨⟨h1, h2⟩, st, sm, h3⟩ := hw.live x t hx
    have hx : x < w.heap.size := (Array.getElem?_eq_some_iff.1 h3).1
    refine ⟨⟨by rw [Kn.set_ne _ _ (Nat.ne_of_lt hx)]; exact h1, h2⟩, st, sm, ?_⟩
    unfold Go.ConcR.WgAt at *
    rw [hold _ hx]
    exact h3
  · by_cases e : b = w.heap.size
    · exact .inr (by omega)
    · rw [Kn.set_ne _ _ e] at hb; exact .inl hb
/-- A new block whose cells stand for ever. -/
def Kn.lay (k : Kn) (b : Nat) (c : Array Value) : Kn := { k with ro := fun a => if a.block = b ∧ a.spot = none then c[a.off]? else k.ro a }
/-- Objects that are no rows of cells and no channels. -/
def _root_.Go.Obj.plainObj : Obj → Bool
  | .cells .. | .chan .. => false
  | _ => true
theorem Trip.getObj {r : Nat} {o : Obj} {Ψ : Obj → Kn → Prop} (hb : k.own r = some o) (ho : o.plainObj = true) (h : Ψ o k) : Trip P k (getObj r) Ψ := by
  intro w hw
  have hh := hw.own _ _ hb
  refine ⟨o, w, k, ?_, ?_, h⟩
  · cases o <;> first | (simp [Obj.plainObj] at ho; done) | simp [Go.getObj, Sem.run, hh]
  · have he : (Go.getObj r).events P w #[] = #[⟨.obj r, false, false⟩] := by
      cases o <;> first | (simp [Obj.plainObj] at ho; done) | simp [Go.getObj, Sem.events, Sem.runT, hh, Obj.isChan, -Sem.runT_eq]
    rw [he]
    refine ⟨hw, Nat.le_refl _, fun _ _ _ _ => rfl, fun _ _ _ _ => ⟨rfl, rfl⟩, rfl, rfl, rfl, fun e he => ?_, fun _ h => .inl h, fun _ _ h => h, fun _ h => .inl h, fun _ h => h, rfl, rfl, rfl⟩
    simp at he
    subst he
    exact ⟨⟨rfl, .inl (by rw [hb]; simp)⟩, (Array.getElem?_eq_some_iff.1 hh).1⟩
theorem Trip.setObj {r : Nat} {o o' : Obj} {Ψ : Unit → Kn → Prop} (hb : k.own r = some o) (ho : o.plainObj = true) (ho' : o'.isChan = false) (h : Ψ () (k.set r o')) : Trip P k (setObj r o') Ψ := by
  intro w hw
  have hh := hw.own _ _ hb
  refine ⟨(), { w with heap := w.heap.setIfInBounds r o' }, _, ?_, ?_, h⟩
  · cases o <;> first | (simp [Obj.plainObj] at ho; done) | simp [Go.setObj, Sem.run, hh]
  · have he : (Go.setObj r o').events P w #[] = #[⟨.obj r, true, false⟩] := by
      cases o <;> first | (simp [Obj.plainObj] at ho; done) | simp [Go.setObj, Sem.events, Sem.runT, hh, ho', -Sem.runT_eq]
    rw [he]
    refine Kn.Step.put hw hb fun e he => ?_
    simp at he
    subst he
    exact ⟨⟨rfl, .inl (by rw [hb]; simp)⟩, (Array.getElem?_eq_some_iff.1 hh).1⟩
theorem Trip.choose {q : Question} {Ψ : Nat → Kn → Prop} (h : ∀ t, Ψ (if q.forced then 0 else q.cut t) k) : Trip P k (choose q) Ψ := by
  intro w hw
  by_cases hq : q.forced = true
  · refine ⟨0, w, k, by simp [Go.choose, Sem.run, hq], by rw [events_choose]; exact k.idle hw, by simpa [hq] using h 0⟩
  · have hq' : q.forced = false := by simpa using hq
    exact ⟨q.cut (w.tape w.drawn q), { w with drawn := w.drawn + 1 }, k, by simp [Go.choose, Sem.run, hq'], by rw [events_choose]; exact k.draw hw _, by simpa [hq'] using h (w.tape w.drawn q)⟩
end

/-- ONE OPERATION by what it does. -/
def nextK (P : Program) (main : Who) (fn : FuncId) (ops : Array Oper) (rest : List Nat) (Q : Exit → Act → Kn → Prop) (a : Act) (dst : Option Tmp) : Next → Kn → Prop
  | .value v, k => OpsK P main fn ops rest Q (a.put dst v) k
  | .skip, k => OpsK P main fn ops rest Q (a.put dst undef) k
  | _, _ => False
theorem Kn.Step.less {k k' : Kn} {w w' : World} {es es' : Array Event} (h : k.Step k' w w' es) (hs : ∀ e ∈ es', e ∈ es) : k.Step k' w w' es' :=
  ⟨h.sat, h.size, h.far, h.row, h.os, h.tape, h.output, fun e he => h.evs e (hs e he), h.own, h.roK, h.roN, h.oc, h.deaf, h.live, h.gh⟩
theorem opsK_trip {P : Program} {main : Who} {fn : FuncId} {Q : Exit → Act → Kn → Prop} {a : Act} {k : Kn} {ops : Array Oper} {i : Nat} {rest : List Nat} {o : Oper} (ho : ops[i]? = some o) (hw : Region.wanted o (yielded ops a.tmps) = true)
    (h : Trip P k (execOp a.eval o) (nextK P main fn ops rest Q a o.dst)) : OpsK P main fn ops (i :: rest) Q a k := by
  refine opsK_cons ho hw fun w hs => ?_
  obtain ⟨v, w', k', hr, hst, hn⟩ := h w hs
  rw [hr]
  have hst' := hst.less (es' := listed P fn a o w) fun e he => mem_listed he
  cases v <;> first | exact ⟨k', hst', hn⟩ | exact hn.elim
/-- A cell of one's own in a shared row becomes v. -/
def Kn.setc (k : Kn) (a : Addr) (v : Value) : Kn := { k with oc := fun x => if x = a then some v else k.oc x }
theorem Kn.setc_same (k : Kn) (a : Addr) (v : Value) : (k.setc a v).oc a = some v := by simp [Kn.setc]
theorem Kn.setc_ne (k : Kn) {a x : Addr} (v : Value) (h : x ≠ a) : (k.setc a v).oc x = k.oc x := by simp [Kn.setc, h]
theorem Trip.storeC {P : Program} {k : Kn} {a : Addr} {u v : Value} {m : Mode} {Ψ : Unit → Kn → Prop} (hb : k.oc a = some u) (hv : v.oneCell' = true) (h : Ψ () (k.setc a v)) : Trip P k (Go.store a v m) Ψ := by
  intro w hw
  obtain ⟨hc, hf⟩ := hw.oc a u hb
  have hlt : a.block < w.heap.size := by
    unfold World.cell? at hc
    cases e1 : w.heap[a.block]? with
    | none => rw [e1] at hc; cases hc
    | some _ => exact (Array.getElem?_eq_some_iff.1 e1).1
  have hblk : ∀ b, b ≠ a.block → (w.setCell a v).heap[b]? = w.heap[b]? := fun b hb => by simp [World.setCell, Array.getElem?_modify, Ne.symm hb]
  refine ⟨(), w.setCell a v, _, ?_, ?_, h⟩
  · cases v <;> first | (simp [Value.oneCell'] at hv; done) | simp [Go.store, Sem.run, hc, hf]
  · rw [events_store P w #[] a v m hv, hc, hf]
    have hne : ∀ x, k.oc x = none → x ≠ a := fun x hx e => by rw [e, hb] at hx; cases hx
    refine ⟨⟨fun x t hx => ?_, fun b o ho => ?_, fun x t hx => ?_, fun x t hx => hw.ro_own x t hx, fun x t hx => ?_, fun x t hx => ?_, fun b t hb' => ?_⟩, by simp [World.setCell], fun b hb1 hb2 hb3 => hblk b (Ne.symm (hb3 a u hb)), fun x h1 h2 h3 => ⟨World.cell?_setCell_other _ _ _ _ (Ne.symm (hne x h2)), World.frozen?_setCell _ _ _ _⟩, rfl, rfl, rfl, fun e he => ?_, fun b hb' => .inl hb', fun x t hx => hx, fun x hx => .inl hx, fun x hx => ?_, rfl, rfl, rfl⟩
    · rw [World.cell?_setCell_other _ _ _ _ (fun e => by subst e; have := hw.oc_ro a u hb; rw [show k.ro a = some t from hx] at this; cases this)]
      exact hw.ro x t hx
    · rw [hblk b (fun e => by subst e; have := hw.oc_own a u hb; rw [show k.own a.block = some o from ho] at this; cases this)]
      exact hw.own b o ho
    · by_cases e : x = a
      · subst e
        rw [Kn.setc_same] at hx
        cases hx
        exact ⟨World.cell?_setCell_same _ _ _ hc, by rw [World.frozen?_setCell]; exact hf⟩
      · rw [Kn.setc_ne _ _ e] at hx
        rw [World.cell?_setCell_other _ _ _ _ (Ne.symm e), World.frozen?_setCell]
        exact hw.oc x t hx
    · by_cases e : x = a
      · subst e; exact hw.oc_own x u hb
      · rw [Kn.setc_ne _ _ e] at hx; exact hw.oc_own x t hx
    · by_cases e : x = a
      · subst e; exact hw.oc_ro x u hb
      · rw [Kn.setc_ne _ _ e] at hx; exact hw.oc_ro x t hx
    · obtain ⟨⟨h1, h2⟩, st, sm, h3⟩ := hw.live b t hb'
      have hba : b ≠ a.block := fun e => h2 a u hb e.symm
      refine ⟨⟨h1, fun x t hx => ?_⟩, st, sm, ?_⟩
      · by_cases e : x = a
        · subst e; exact Ne.symm hba
        · rw [Kn.setc_ne _ _ e] at hx; exact h2 x t hx
      · unfold Go.ConcR.WgAt at *
        rw [hblk b hba]
        exact h3
    · simp at he
      subst he
      exact ⟨.inr (.inl (by rw [hb]; simp)), by show a.block < _; simpa [World.setCell] using hlt⟩
    · by_cases e : x = a
      · subst e; rw [hb]; simp
      · rw [Kn.setc_ne _ _ e] at hx; exact hx
end Go.Proofs.Ytacfhfeegalmlaa

/- CALLS IN COMPANY: a callee's contract, with what it has deferred. -/
namespace Go.Proofs.Ytacfhfeegalmlaa
open Go.Conc
set_option linter.unusedVariables false
set_option linter.unusedSimpArgs false

/-- Entered with these arguments the function comes to leave, nothing deferred being left, and its results read so. -/
def CallsK (P : Program) (main : Who) (f : FuncId) (args : Array Value) (k : Kn) (Post : Value → Kn → Prop) : Prop :=
  ∃ fn c, P.funcs[f]? = some fn ∧ (fn.name == "runtime.NumGoroutine") = false ∧ fn.body = some c ∧
    ∀ (b : Frame) (cs : List Frame) (Stop : Kn → Goroutine → Prop), b.fn = f → b.kind ≠ .early →
      (∀ (a : Act) (k' : Kn) (todo : List Item), a.defers = [] → Trip P k' (results fn a.tmps) Post → GK P main Stop k' (G { b.at a todo with mode := .returning } cs)) →
      GK P main Stop k (G (b.at { tmps := args ++ Array.replicate (fn.ntmps - args.size) undef, defers := [] } [.code c]) cs)
def LeaveK (P : Program) (main : Who) (fn : Func) (tmps : Array Value) (Post : Value → Kn → Prop) : List Deferred → Kn → Prop
  | [], k => Trip P k (results fn tmps) Post
  | d :: ds, k => (∃ f args, d = dcall f args ∧ CallsK P main f args k fun _ k' => LeaveK P main fn tmps Post ds k') ∨
      (∃ r, d = { target := .collected r, args := #[] } ∧ k.own r = some (.deferred (some [])) ∧ LeaveK P main fn tmps Post ds (k.set r (.deferred none)))
def bodyK (P : Program) (main : Who) (fn : Func) (Post : Value → Kn → Prop) : Exit → Act → Kn → Prop
  | .normal, a, k | .ret, a, k => LeaveK P main fn a.tmps Post a.defers k
  | _, _, _ => False

section
variable {P : Program} {main : Who}
theorem stepG_leaveK {b : Frame} {a : Act} {cs : List Frame} {w w' : World} {fn : Func} {todo : List Item} {c : Frame} {v : Value} (hn : b.kind = .normal) (hd : a.defers = []) (hf : P.funcs[b.fn]? = some fn)
    (hr : (results fn a.tmps).run P w = .ok v w') :
    stepG P main.main (G { b.at a todo with mode := .returning } (c :: cs)) w = .go (G (c.finish v) cs) w' (seen P b.fn ((results fn a.tmps).events P w #[])) := by
  simp [G, stepG, unwind, doReturn, Frame.at, hn, hd, hf, hr, GStep.after]
theorem stepG_leaveKD {b : Frame} {a : Act} {cs : List Frame} {w w' : World} {fn : Func} {todo : List Item} {c : Frame} {v : Value} (hn : b.kind = .deferred) (hd : a.defers = []) (hf : P.funcs[b.fn]? = some fn)
    (hr : (results fn a.tmps).run P w = .ok v w') (hc : c.mode = .returning) :
    stepG P main.main (G { b.at a todo with mode := .returning } (c :: cs)) w = .go (G c cs) w' (seen P b.fn ((results fn a.tmps).events P w #[])) := by
  simp [G, stepG, unwind, doReturn, Frame.at, hn, hd, hf, hr, hc, GStep.after]
theorem CallsK.mono {f : FuncId} {args : Array Value} {k : Kn} {Post Post' : Value → Kn → Prop} (h : CallsK P main f args k Post) (hp : ∀ v k, Post v k → Post' v k) : CallsK P main f args k Post' := by
  obtain ⟨fn, c, h1, h2, h3, h4⟩ := h
  exact ⟨fn, c, h1, h2, h3, fun b cs Stop hb hk hr => h4 b cs Stop hb hk fun a k' todo hd ht => hr a k' todo hd (ht.mono hp)⟩
/-- From the moment that the body is left: through what was deferred. -/
theorem GK.leave {fn : Func} {Post : Value → Kn → Prop} {b : Frame} {cs : List Frame} {Stop : Kn → Goroutine → Prop} {todo : List Item}
    (hr : ∀ (a : Act) (k' : Kn) (todo : List Item), a.defers = [] → Trip P k' (results fn a.tmps) Post → GK P main Stop k' (G { b.at a todo with mode := .returning } cs)) :
    ∀ (ds : List Deferred) (tmps : Array Value) (k : Kn), LeaveK P main fn tmps Post ds k → GK P main Stop k (G { b.at ⟨tmps, ds⟩ todo with mode := .returning } cs) := by
  intro ds
  induction ds with
  | nil => intro tmps k h; exact hr ⟨tmps, []⟩ k todo rfl h
  | cons d ds ih =>
    intro tmps k h
    rcases h with ⟨f, args, rfl, fn', c, hf, hname, hbody, hc⟩ | ⟨r, rfl, hr1, h⟩
    · refine GK.quiet rfl (fun w => stepG_unwind_enter (a := ⟨tmps, dcall f args :: ds⟩) rfl hf hname hbody) ?_
      refine hc (baseD f) _ Stop rfl (by simp [baseD]) fun a' k' todo' hd' ht => ?_
      refine GK.next rfl fun w hw => ?_
      obtain ⟨v, w', k'', hrun, hst, hl⟩ := ht w hw
      rw [stepG_leaveKD (b := baseD f) rfl hd' hf hrun rfl]
      exact ⟨k'', hst.less fun e he => mem_seen he, ih tmps k'' hl⟩
    · refine GK.next rfl fun w hw => ?_
      have hT : Trip P k (Instr.takeDeferred r) (fun l k' => l = [] ∧ k' = k.set r (.deferred none)) := by
        unfold Instr.takeDeferred
        exact Trip.bind (Trip.getObj hr1 rfl (Trip.bind (Trip.setObj hr1 rfl rfl (Trip.pure ⟨rfl, rfl⟩))))
      obtain ⟨v, w', k', hrun, hst, rfl, rfl⟩ := hT w hw
      have hgo : stepG P main.main (G { b.at ⟨tmps, { target := .collected r, args := #[] } :: ds⟩ todo with mode := .returning } cs) w = .go (G { b.at ⟨tmps, ds⟩ todo with mode := .returning } cs) w' (seen P b.fn ((Instr.takeDeferred r).events P w #[])) := by
        simp [G, stepG, unwind, Frame.at, hrun, GStep.after]
      rw [hgo]
      exact ⟨_, hst.less fun e he => mem_seen he, ih tmps _ h⟩
theorem callsK_of {f : FuncId} {fn : Func} {c : Code} {args : Array Value} {k : Kn} {Post : Value → Kn → Prop} (hf : P.funcs[f]? = some fn) (hname : (fn.name == "runtime.NumGoroutine") = false) (hb : fn.body = some c)
    (h : c.wpK P main f (bodyK P main fn Post) { tmps := args ++ Array.replicate (fn.ntmps - args.size) undef, defers := [] } k) : CallsK P main f args k Post := by
  refine ⟨fn, c, hf, hname, hb, fun b cs Stop hbf hk hr => ?_⟩
  refine h b [] cs Stop hbf hk fun e a' k' q => ?_
  cases e with
  | normal => exact GK.quiet rfl (fun _ => stepG_end) (GK.leave (todo := []) hr a'.defers a'.tmps k' q)
  | ret => exact fun todo => GK.leave (todo := todo) hr a'.defers a'.tmps k' q
  | exit id => exact q.elim
  | goto l => exact q.elim
  | panic ch => exact q.elim
  | outgrown => exact q.elim
/-- THROUGH A CALL, BY THE CALLEE's CONTRACT. -/
theorem GK.call {b : Frame} {a : Act} {kk : List Item} {cs : List Frame} {k : Kn} {ops : Array Oper} {i : Nat} {rest : List Nat} {o : Oper} {f : FuncId} {args : Array Operand} {ats : Array TypeId} {Post : Value → Kn → Prop} {Stop : Kn → Goroutine → Prop}
    (ho : ops[i]? = some o) (hw : Region.wanted o (yielded ops a.tmps) = true) (hk : b.kind ≠ .early) (hop : o.op = .call { callee := .value (.func f), args, argTypes := ats })
    (hcall : CallsK P main f (args.map a.eval) k Post)
    (hnext : ∀ v k', Post v k' → GK P main Stop k' (G (b.at (a.put o.dst v) (.inRegion ops rest :: kk)) cs)) :
    GK P main Stop k (G (b.at a (.inRegion ops (i :: rest) :: kk)) cs) := by
  obtain ⟨fn, c, hf, hname, hbody, hc⟩ := hcall
  have hfin : ∀ v, (b.at a (.inRegion ops (i :: rest) :: kk)).finish v = b.at (a.put o.dst v) (.inRegion ops rest :: kk) := fun v => by rw [Frame.finish_at, ho]; rfl
  refine GK.next rfl fun w hs => goes_call ho hw hk hop hf hname hbody ⟨k, k.idle hs, ?_⟩
  refine hc (base f) _ Stop rfl (by simp [base]) fun a' k' todo' hd' ht => ?_
  refine GK.next rfl fun w' hw' => ?_
  obtain ⟨v, w'', k'', hrun, hst, hl⟩ := ht w' hw'
  rw [stepG_leaveK (b := base f) rfl hd' hf hrun, hfin]
  exact ⟨k'', hst.less fun e he => mem_seen he, hnext v k'' hl⟩
theorem opsK_call {fn : FuncId} {Q : Exit → Act → Kn → Prop} {a : Act} {k : Kn} {ops : Array Oper} {i : Nat} {rest : List Nat} {o : Oper} {f : FuncId} {args : Array Operand} {ats : Array TypeId} {Post : Value → Kn → Prop}
    (ho : ops[i]? = some o) (hw : Region.wanted o (yielded ops a.tmps) = true) (hop : o.op = .call { callee := .value (.func f), args, argTypes := ats })
    (hcall : CallsK P main f (args.map a.eval) k Post) (hnext : ∀ v k', Post v k' → OpsK P main fn ops rest Q (a.put o.dst v) k') : OpsK P main fn ops (i :: rest) Q a k :=
  fun b kk cs Stop hb hk hc => GK.call ho hw hk hop hcall fun v k' hp => hnext v k' hp b kk cs Stop hb hk hc
/-- 'defer f(..)'. -/
theorem opsK_defer {fn : FuncId} {Q : Exit → Act → Kn → Prop} {a : Act} {k : Kn} {ops : Array Oper} {i : Nat} {rest : List Nat} {o : Oper} {f : FuncId} {args : Array Operand} {ats : Array TypeId}
    (ho : ops[i]? = some o) (hw : Region.wanted o (yielded ops a.tmps) = true) (hop : o.op = .defer { callee := .value (.func f), args, argTypes := ats })
    (hnext : OpsK P main fn ops rest Q (Act.put ⟨a.tmps, dcall f (args.map a.eval) :: a.defers⟩ o.dst undef) k) : OpsK P main fn ops (i :: rest) Q a k :=
  fun b kk cs Stop hb hk hc => GK.quiet rfl (fun w => stepG_defer ho hw hk hop) (hnext b kk cs Stop hb hk hc)
end
end Go.Proofs.Ytacfhfeegalmlaa

/- REGIONS THAT DRAW THEIR ORDER, IN COMPANY, WITH CALLS: whatever order comes up; an operation (a call too) that yields the same in every knowledge that meets S may be taken first. -/
namespace Go.Proofs.Ytacfhfeegalmlaa
open Go.Conc
set_option linter.unusedVariables false
set_option linter.unusedSimpArgs false

section
variable {P : Program} {main : Who} {fn : FuncId} {ops : Array Oper} {Q : Exit → Act → Kn → Prop} {md : Region.Mode} {S : Kn → Prop}
/-- An operation that means s, carried out by whatever steps, in whichever frame. -/
def Does (P : Program) (main : Who) (fn : FuncId) (s : Sem Next) (k : Kn) (Post : Value → Kn → Prop) : Prop :=
  ∀ (ops : Array Oper) (i : Nat) (o : Oper) (rest : List Nat) (a : Act) (b : Frame) (kk : List Item) (cs : List Frame) (Stop : Kn → Goroutine → Prop), ops[i]? = some o → Region.wanted o (yielded ops a.tmps) = true → execOp a.eval o = s → b.fn = fn → b.kind ≠ .early →
    (∀ v k', Post v k' → GK P main Stop k' (G (b.at (a.put o.dst v) (.inRegion ops rest :: kk)) cs)) → GK P main Stop k (G (b.at a (.inRegion ops (i :: rest) :: kk)) cs)
/-- What operation o, if it is wanted, makes of state a, k. -/
def DoesK (P : Program) (main : Who) (fn : FuncId) (o : Oper) (K : Act → Kn → Prop) (a : Act) (k : Kn) : Prop :=
  (∀ w, k.Sat w → uponK o a (fun a' w' => ∃ k', k.Step k' w w' (listed P fn a o w) ∧ K a' k') ((execOp a.eval o).run P w)) ∨
  (∃ f args ats Post, o.op = .call { callee := .value (.func f), args, argTypes := ats } ∧ CallsK P main f (args.map a.eval) k Post ∧ ∀ v k', Post v k' → K (a.put o.dst v) k') ∨
  (∃ s Post, execOp a.eval o = s ∧ Does P main fn s k Post ∧ ∀ v k', Post v k' → K (a.put o.dst v) k')
def OpK (P : Program) (main : Who) (fn : FuncId) (ops : Array Oper) (i : Nat) (K : Act → Kn → Prop) (a : Act) (k : Kn) : Prop :=
  match ops[i]? with
  | none => False
  | some o => if Region.wanted o (yielded ops a.tmps) then DoesK P main fn o K a k else K (a.put o.dst undef) k
theorem DoesK.mono {o : Oper} {K K' : Act → Kn → Prop} {a : Act} {k : Kn} (h : DoesK P main fn o K a k) (hi : ∀ a k, K a k → K' a k) : DoesK P main fn o K' a k := by
  rcases h with h | ⟨f, args, ats, Post, h1, h2, h3⟩ | ⟨s, Post, h1, h2, h3⟩
  · exact .inl fun w hw => uponK_mono (fun a' w' ⟨k', x, y⟩ => ⟨k', x, hi _ _ y⟩) (h w hw)
  · exact .inr (.inl ⟨f, args, ats, Post, h1, h2, fun v k' hp => hi _ _ (h3 v k' hp)⟩)
  · exact .inr (.inr ⟨s, Post, h1, h2, fun v k' hp => hi _ _ (h3 v k' hp)⟩)
theorem OpK.mono {i : Nat} {a : Act} {k : Kn} {K K' : Act → Kn → Prop} (hh : OpK P main fn ops i K a k) (h : ∀ a k, K a k → K' a k) : OpK P main fn ops i K' a k := by
  unfold OpK at *
  split
  · simp_all
  · rename_i o ho
    simp only [ho] at hh
    split
    · rename_i hw; simp only [hw, if_true] at hh; exact hh.mono h
    · rename_i hw; simp only [hw] at hh; exact h _ _ hh
theorem opsK_of_opK {i : Nat} {rest : List Nat} {a : Act} {k : Kn} (h : OpK P main fn ops i (fun a' k' => OpsK P main fn ops rest Q a' k') a k) : OpsK P main fn ops (i :: rest) Q a k := by
  unfold OpK at h
  split at h
  · exact h.elim
  · rename_i o ho
    split at h
    · rename_i hw
      rcases h with h | ⟨f, args, ats, Post, h1, h2, h3⟩ | ⟨s, Post, h1, h2, h3⟩
      · exact opsK_cons ho hw h
      · exact opsK_call ho hw h1 h2 h3
      · exact fun b kk cs Stop hb hk hc => h2 ops i o rest a b kk cs Stop ho hw h1 hb hk fun v k' hp => h3 v k' hp b kk cs Stop hb hk hc
    · rename_i hw; exact opsK_unwanted ho (by simpa using hw) h
/-- In state a, wherever S is met, operation o leaves v and does nothing else. -/
def YieldsK (P : Program) (main : Who) (fn : FuncId) (ops : Array Oper) (S : Kn → Prop) (o : Oper) (v : Value) (a : Act) : Prop :=
  (Region.wanted o (yielded ops a.tmps) = true ∧
    ((∀ k, S k → ∀ w, k.Sat w → (execOp a.eval o).run P w = .ok (.value v) w ∧ k.Step k w w (listed P fn a o w)) ∨
     (∃ f args ats, o.op = .call { callee := .value (.func f), args, argTypes := ats } ∧ ∀ k, S k → CallsK P main f (args.map a.eval) k fun u k' => u = v ∧ k = k'))) ∨
  (Region.wanted o (yielded ops a.tmps) = false ∧ v = undef)
theorem call_args {o : Oper} {f : FuncId} {args : Array Operand} {ats : Array TypeId} {a a' : Act} {k : Kn} {Post : Value → Kn → Prop} (hop : o.op = .call { callee := .value (.func f), args, argTypes := ats })
    (he : execOp a'.eval o = execOp a.eval o) (hc : CallsK P main f (args.map a.eval) k Post) : args.map a'.eval = args.map a.eval := by
  obtain ⟨fn, c, hf, hname, hb, _⟩ := hc
  have hb' : fn.body.isNone = false := by rw [hb]; rfl
  have h1 := run_call_body (a := a') (w := default) hop hf hname hb'
  have h2 := run_call_body (a := a) (w := default) hop hf hname hb'
  rw [he, h2] at h1
  simp only [Result.ok.injEq, Next.enter.injEq, true_and, and_true] at h1
  exact h1.symm
theorem YieldsK.of_same {o : Oper} {v : Value} {a a' : Act} (hne : ∃ k, S k) (hy : YieldsK P main fn ops S o v a) (he : execOp a'.eval o = execOp a.eval o)
    (hw : Region.wanted o (yielded ops a'.tmps) = Region.wanted o (yielded ops a.tmps)) : YieldsK P main fn ops S o v a' := by
  rcases hy with ⟨h1, h2 | ⟨f, args, ats, h2, h3⟩⟩ | h
  · exact .inl ⟨by rw [hw]; exact h1, .inl (by unfold listed at *; rw [he]; exact h2)⟩
  · obtain ⟨k, hk⟩ := hne
    exact .inl ⟨by rw [hw]; exact h1, .inr ⟨f, args, ats, h2, by rw [call_args h2 he (h3 k hk)]; exact h3⟩⟩
  · exact .inr ⟨by rw [hw]; exact h.1, h.2⟩
/-- Whatever order is picked from here on, and S holds behind every operation that is carried out. -/
def AnyK (P : Program) (main : Who) (fn : FuncId) (md : Region.Mode) (ops : Array Oper) (Q : Exit → Act → Kn → Prop) (S : Kn → Prop) : Nat → Array Bool → Act → Kn → Prop
  | 0, listed, a, k => Region.ready md ops listed = [] ∧ Q .normal a k
  | fuel + 1, listed, a, k =>
    (Region.ready md ops listed = [] → Q .normal a k) ∧
    ∀ i ∈ Region.ready md ops listed, OpK P main fn ops i (fun a' k' => S k' ∧ AnyK P main fn md ops Q S fuel (listed.setIfInBounds i true) a' k') a k
theorem anyK_sound : ∀ (fuel t : Nat) (listed : Array Bool) (a : Act) (k : Kn), AnyK P main fn md ops Q S fuel listed a k →
    OpsK P main fn ops (Region.linearise.go md ops fuel t listed []) Q a k := by
  intro fuel
  induction fuel with
  | zero => intro t listed a k h; simpa [Region.linearise.go] using opsK_nil h.2
  | succ fuel ih =>
    intro t listed a k h
    obtain ⟨h₀, h₁⟩ := h
    simp only [Region.linearise.go]
    change OpsK P main fn ops (match (Region.ready md ops listed)[t % (Region.ready md ops listed).length]? with
      | some i => Region.linearise.go md ops fuel (t / (Region.ready md ops listed).length) (listed.setIfInBounds i true) [i]
      | none => [].reverse) Q a k
    cases hi : (Region.ready md ops listed)[t % (Region.ready md ops listed).length]? with
    | none =>
      have hnil : Region.ready md ops listed = [] := by
        cases hr : Region.ready md ops listed with
        | nil => rfl
        | cons x xs =>
          rw [hr] at hi
          have hlt : t % (x :: xs).length < (x :: xs).length := Nat.mod_lt _ (by simp)
          simp at hi
          simp at hlt
          omega
      simpa using opsK_nil (h₀ hnil)
    | some i =>
      simp only []
      rw [linearise_go_acc, List.reverse_singleton, List.singleton_append]
      exact opsK_of_opK ((h₁ i (List.mem_of_getElem? hi)).mono fun a' k' x => ih _ _ a' k' x.2)
theorem YieldsK.opK {i : Nat} {o : Oper} {v : Value} {a : Act} (hi : ops[i]? = some o) (hy : YieldsK P main fn ops S o v a)
    {K : Act → Kn → Prop} {k : Kn} (hS : S k) (h : K (a.put o.dst v) k) : OpK P main fn ops i K a k := by
  unfold OpK
  simp only [hi]
  rcases hy with ⟨hw, hv⟩ | ⟨hw, rfl⟩
  · simp only [hw, if_true]
    rcases hv with hv | ⟨f, args, ats, h2, h3⟩
    · refine .inl fun w hs => ?_
      rw [(hv k hS w hs).1]
      exact ⟨k, (hv k hS w hs).2, h⟩
    · exact .inr (.inl ⟨f, args, ats, _, h2, h3 k hS, by rintro u k' ⟨rfl, rfl⟩; exact h⟩)
  · simp only [hw, Bool.false_eq_true, if_false]; exact h
theorem OpK_putIf {j : Nat} {oi oj : Oper} {v : Value} (hne : ∃ k, S k) (hj : ops[j]? = some oj) (hap : oi.apart ops oj = true)
    (hsi : ∀ cs b, oi.op ≠ .select cs b) (hsj : ∀ cs b, oj.op ≠ .select cs b) {K : Act → Kn → Prop} {a : Act} {k : Kn}
    (hy : YieldsK P main fn ops S oi v a) (h : OpK P main fn ops j K (a.put oi.dst v) k) :
    OpK P main fn ops j (fun a' k' => YieldsK P main fn ops S oi v a' ∧ K (a'.put oi.dst v) k') a k := by
  obtain ⟨h1, h2, h3⟩ := Oper.apart_spec hap
  have keep : ∀ (a : Act), YieldsK P main fn ops S oi v a → ∀ u, YieldsK P main fn ops S oi v (a.put oj.dst u) := fun a hy u =>
    hy.of_same hne (execOp_put oi hsi a oj.dst u h3) (wanted_put oi a oj.dst u h3)
  unfold OpK at *
  simp only [hj] at *
  rw [wanted_put oj a oi.dst v h1] at h
  split
  · rename_i hw
    simp only [hw, if_true] at h
    have hex := execOp_put oj hsj a oi.dst v h1
    rcases h with h | ⟨f, args, ats, Post, g1, g2, g3⟩ | ⟨s, Post, g1, g2, g3⟩
    · refine .inl fun w hs => ?_
      have h := h w hs
      unfold listed at *
      rw [hex] at h
      generalize (execOp a.eval oj).run P w = r at *
      cases r with
      | ok n w' =>
        cases n <;> simp only [uponK] at h ⊢
        case value u => obtain ⟨k', d, x⟩ := h; exact ⟨k', d, keep a hy u, by rw [← Act.put_comm a v u h2]; exact x⟩
        case skip => obtain ⟨k', d, x⟩ := h; exact ⟨k', d, keep a hy _, by rw [← Act.put_comm a v undef h2]; exact x⟩
      | halt x w' => simp only [uponK] at h
    · have ha : args.map a.eval = args.map (a.put oi.dst v).eval := call_args g1 hex.symm g2
      exact .inr (.inl ⟨f, args, ats, Post, g1, by rw [ha]; exact g2, fun u k' hp => ⟨keep a hy u, by rw [← Act.put_comm a v u h2]; exact g3 u k' hp⟩⟩)
    · exact .inr (.inr ⟨s, Post, by rw [← hex]; exact g1, g2, fun u k' hp => ⟨keep a hy u, by rw [← Act.put_comm a v u h2]; exact g3 u k' hp⟩⟩)
  · rename_i hw
    simp only [hw] at h
    exact ⟨keep a hy _, by rw [← Act.put_comm a v undef h2]; exact h⟩
theorem anyK_first {i : Nat} {oi : Oper} {v : Value} (hi : ops[i]? = some oi)
    (hsel : ∀ (j : Nat) (o : Oper) cs b, ops[j]? = some o → o.op ≠ .select cs b) :
    ∀ (fuel : Nat) (listed : Array Bool) (a : Act) (k : Kn),
      (∀ j oj, ops[j]? = some oj → j ≠ i → listed.getD j true = false → (∀ e ∈ oj.after, Region.binds md e = true → e.on ≠ i) → oi.apart ops oj = true) →
      i ∈ Region.ready md ops listed → YieldsK P main fn ops S oi v a → S k →
      AnyK P main fn md ops Q S fuel (listed.setIfInBounds i true) (a.put oi.dst v) k → AnyK P main fn md ops Q S (fuel + 1) listed a k := by
  intro fuel
  induction fuel with
  | zero =>
    intro listed a k _ hr hy hS H
    refine ⟨fun h => (by rw [h] at hr; cases hr), fun j hj => ?_⟩
    by_cases hji : j = i
    · subst hji; exact hy.opK hi hS ⟨hS, H⟩
    · have := ready_mono hj hji
      rw [H.1] at this
      cases this
  | succ fuel ih =>
    intro listed a k hfree hr hy hS H
    refine ⟨fun h => (by rw [h] at hr; cases hr), fun j hj => ?_⟩
    by_cases hji : j = i
    · subst hji; exact hy.opK hi hS ⟨hS, H⟩
    · have h1 := H.2 j (ready_mono hj hji)
      obtain ⟨hjun, oj, hoj, hall⟩ := mem_ready.1 hj
      have hnot : ∀ e ∈ oj.after, Region.binds md e = true → e.on ≠ i := fun e he hb heq => by
        have h1 := hall e he hb
        have h0 := (mem_ready.1 hr).1
        rw [heq] at h1
        rcases Nat.lt_or_ge i listed.size with h' | h'
        · simp [h'] at h0 h1; rw [h0] at h1; cases h1
        · simp [Array.getElem?_eq_none h'] at h1
      have h2 := OpK_putIf ⟨k, hS⟩ hoj (hfree j oj hoj hji hjun hnot) (fun cs b => hsel i oi cs b hi) (fun cs b => hsel j oj cs b hoj) hy h1
      have hfree' : ∀ m om, ops[m]? = some om → m ≠ i → (listed.setIfInBounds j true).getD m true = false →
          (∀ e ∈ om.after, Region.binds md e = true → e.on ≠ i) → oi.apart ops om = true := fun m om hm hmi hun hno => by
        refine hfree m om hm hmi ?_ hno
        by_cases hjm : j = m
        · subst hjm; exact hjun
        · rw [getD_set_ne true hjm] at hun; exact hun
      refine h2.mono fun a' k' h3 => ⟨h3.2.1, ih (listed.setIfInBounds j true) a' k' hfree' (ready_mono hr (Ne.symm hji)) h3.1 h3.2.1 ?_⟩
      rw [Array.setIfInBounds_comm _ _ hji]
      exact h3.2.2
theorem anyK_take {i : Nat} {oi : Oper} {v : Value} {fuel : Nat} {listed : Array Bool} {a : Act} {k : Kn} (hi : ops[i]? = some oi)
    (hs : Region.noSelect ops = true) (hf : Region.free md ops listed i = true) (hr : (Region.ready md ops listed).contains i = true)
    (hy : YieldsK P main fn ops S oi v a) (hS : S k) (h : AnyK P main fn md ops Q S fuel (listed.setIfInBounds i true) (a.put oi.dst v) k) : AnyK P main fn md ops Q S (fuel + 1) listed a k :=
  anyK_first hi (Region.noSelect_spec hs) fuel listed a k (Region.free_spec hi hf) (by simpa using hr) hy hS h
theorem anyK_all {rs : List Nat} {fuel : Nat} {listed : Array Bool} {a : Act} {k : Kn} (hr : Region.ready md ops listed = rs) (hne : rs ≠ [])
    (h : ∀ i ∈ rs, OpK P main fn ops i (fun a' k' => S k' ∧ AnyK P main fn md ops Q S fuel (listed.setIfInBounds i true) a' k') a k) : AnyK P main fn md ops Q S (fuel + 1) listed a k :=
  ⟨fun h0 => absurd (hr ▸ h0) hne, hr ▸ h⟩
theorem anyK_done {listed : Array Bool} {a : Act} {k : Kn} (hr : Region.ready md ops listed = []) (h : Q .normal a k) : ∀ fuel, AnyK P main fn md ops Q S fuel listed a k
  | 0 => ⟨hr, h⟩
  | _ + 1 => ⟨fun _ => h, fun i hi => by rw [hr] at hi; cases hi⟩
/-- THE BEGINNING. -/
theorem wpK_region_held {id : Nat} {a : Act} {k : Kn} (S : Kn → Prop) (hm : P.follows .mixedOrders = true)
    (h : AnyK P main fn .any ops Q S ops.size (Array.replicate ops.size false) a k) : (Code.region id ops true).wpK P main fn Q a k :=
  wpK_region_draw fun t => by
    simp only [Region.schedule, hm, Bool.true_or, if_true]
    exact anyK_sound ops.size t _ a _ h
theorem opsK_does {i : Nat} {rest : List Nat} {o : Oper} {s : Sem Next} {a : Act} {k : Kn} {Post : Value → Kn → Prop} (ho : ops[i]? = some o) (hw : Region.wanted o (yielded ops a.tmps) = true) (hs : execOp a.eval o = s)
    (hd : Does P main fn s k Post) (h : ∀ v k', Post v k' → OpsK P main fn ops rest Q (a.put o.dst v) k') : OpsK P main fn ops (i :: rest) Q a k :=
  fun b kk cs Stop hb hk hc => hd ops i o rest a b kk cs Stop ho hw hs hb hk fun v k' hp => h v k' hp b kk cs Stop hb hk hc
theorem anyK_does {fuel : Nat} {listed : Array Bool} {o : Oper} {s : Sem Next} {a : Act} {k : Kn} {Post : Value → Kn → Prop} (i : Nat) (hr : Region.ready md ops listed = [i]) (hi : ops[i]? = some o) (hw : Region.wanted o (yielded ops a.tmps) = true) (hs : execOp a.eval o = s)
    (hd : Does P main fn s k Post) (h : ∀ v k', Post v k' → S k' ∧ AnyK P main fn md ops Q S fuel (listed.setIfInBounds i true) (a.put o.dst v) k') : AnyK P main fn md ops Q S (fuel + 1) listed a k :=
  anyK_all hr (by simp) fun j hj => by
    obtain rfl : j = i := by simpa using hj
    unfold OpK
    simp only [hi, hw, if_true]
    exact .inr (.inr ⟨s, Post, hs, hd, h⟩)
end
end Go.Proofs.Ytacfhfeegalmlaa

/- THE OPERATIONS THAT LOOK AT MEMORY, in company: load, store, alloc, box, makeMap. -/
namespace Go.Proofs.Ytacfhfeegalmlaa
open Go.Conc
set_option linter.unusedVariables false
set_option linter.unusedSimpArgs false

/-- Block b is new to k. -/
structure Kn.New (k : Kn) (b : Nat) : Prop where
  own : k.own b = none
  ro : ∀ a, k.ro a ≠ none → a.block ≠ b
  oc : ∀ a, k.oc a ≠ none → a.block ≠ b

section
variable {P : Program} {k : Kn}
theorem Trip.new' {o : Obj} {Ψ : Nat → Kn → Prop} (h : ∀ b, k.New b → Ψ b (k.set b o)) : Trip P k (newObj o) Ψ := Trip.new fun b h1 h2 h3 => h b ⟨h1, h2, h3⟩
theorem Trip.newVar {t : TypeId} {v : Value} {Ψ : Addr → Kn → Prop} (h : ∀ b, k.New b → Ψ ⟨b, 0, none⟩ (k.set b (.cells v.cells t))) : Trip P k (newVar t v) Ψ := by
  unfold Go.newVar newRow
  exact Trip.bind (Trip.new' fun b hb => Trip.pure (h b hb))
/-- A new block that is handed out at once, to be read for ever. -/
theorem Trip.newRo {c : Array Value} {t : TypeId} {Ψ : Nat → Kn → Prop} (h : ∀ b, k.New b → Ψ b (k.lay b c)) : Trip P k (newObj (.cells c t)) Ψ := by
  intro w hw
  obtain ⟨v, w', k', hr, hst, b, hb, rfl, rfl⟩ := Trip.new' (P := P) (k := k) (o := .cells c t) (Ψ := fun v k' => ∃ b, k.New b ∧ v = b ∧ k' = k.set b (.cells c t)) (fun b hb => ⟨b, hb, rfl, rfl⟩) w hw
  refine ⟨v, w', k.lay v c, hr, ?_, h v hb⟩
  have hh : w'.heap[v]? = some (.cells c t) := hst.sat.own v _ (Kn.set_same _ _ _)
  have hsz : w.heap.size ≤ v := by
    have := hst.own v (by rw [Kn.set_same]; simp)
    rcases this with x | x
    · exact absurd hb.own x
    · exact x
  refine ⟨⟨fun a u hu => ?_, fun x u hu => ?_, hst.sat.oc, fun a u hu => ?_, fun a u hu => hw.oc_own a u hu, fun a u hu => ?_, fun x t hx => ⟨(hw.live x t hx).1, (hst.sat.live x t hx).2⟩⟩, hst.size, hst.far, hst.row, hst.os, hst.tape, hst.output, hst.evs, fun x hx => .inl hx, fun a u hu => ?_, fun a hu => ?_, fun a hu => hu, rfl, rfl, rfl⟩
  · simp only [Kn.lay] at hu
    split at hu
    · rename_i hc
      unfold World.cell?
      rw [hc.1, hh]
      simp [hc.2, hu]
    · exact hst.sat.ro a u hu
  · have hne : x ≠ v := fun e => by rw [e] at hu; rw [show (k.lay v c).own v = k.own v from rfl, hb.own] at hu; cases hu
    exact hst.sat.own x u (by rw [Kn.set_ne _ _ hne]; exact hu)
  · simp only [Kn.lay] at hu ⊢
    split at hu
    · rename_i hc; rw [hc.1]; exact hb.own
    · exact hw.ro_own a u hu
  · simp only [Kn.lay]
    have : a.block ≠ v := hb.oc a (by rw [show k.oc a = some u from hu]; simp)
    simp [this]
    exact hw.oc_ro a u hu
  · simp only [Kn.lay]
    have : a.block ≠ v := hb.ro a (by rw [hu]; simp)
    simp [this, hu]
  · simp only [Kn.lay] at hu
    split at hu
    · rename_i hc; exact .inr (.inr (by rw [hc.1]; exact hsz))
    · exact .inl hu
theorem Trip.isAgg {t : TypeId} {x : Bool} {Ψ : Bool → Kn → Prop} (hag : ∀ w, (isAgg t).run P w = .ok x w) (h : Ψ x k) : Trip P k (isAgg t) Ψ := Trip.still hag (fun w => events_isAgg P w _ t) h
theorem Trip.sizeOf {t : TypeId} {n : Nat} {Ψ : Nat → Kn → Prop} (hs : ∀ w, (sizeOf t).run P w = .ok n w) (h : Ψ n k) : Trip P k (sizeOf t) Ψ := Trip.still hs (fun w => events_sizeOf P w _ t) h
theorem Trip.underlying {t : TypeId} {d : TypeDesc} {Ψ : TypeDesc → Kn → Prop} (hs : P.underlying t = some d) (h : Ψ d k) : Trip P k (Go.underlying t) Ψ := Trip.still (fun w => run_underlying hs w) (fun w => events_underlying P w _ t) h
theorem Trip.zeroValue {t : TypeId} {v : Value} {Ψ : Value → Kn → Prop} (hs : ∀ w, (zeroValue t).run P w = .ok v w) (h : Ψ v k) : Trip P k (zeroValue t) Ψ := Trip.still hs (fun w => events_zeroValue P w _ t) h
theorem Trip.ite {α : Type} {c : Prop} [Decidable c] {x y : Sem α} {Ψ : α → Kn → Prop} (h1 : c → Trip P k x Ψ) (h2 : ¬ c → Trip P k y Ψ) : Trip P k (if c then x else y) Ψ := by
  split
  · exact h1 ‹_›
  · exact h2 ‹_›
/-- The cells from ad on. -/
def Kn.Reads (k : Kn) (ad : Addr) (vs : List Value) : Prop := ∀ j v, vs[j]? = some v → k.Has (ad.add j) v
theorem Trip.loadCellsFrom {ad : Addr} {Ψ : Array Value → Kn → Prop} : ∀ (vs : List Value) (i : Nat) (acc : Array Value), (∀ j v, vs[j]? = some v → k.Has (ad.add (i + j)) v) → Ψ (acc ++ vs.toArray) k →
    Trip P k (loadCellsFrom ad i vs.length acc) Ψ
  | [], i, acc, _, h => Trip.pure (by simpa using h)
  | v :: vs, i, acc, hc, h => by
    simp only [List.length_cons, Go.loadCellsFrom]
    refine Trip.bind (Trip.load (hc 0 v rfl) ?_)
    refine Trip.loadCellsFrom vs (i + 1) (acc.push v) (fun j u hj => ?_) ?_
    · have := hc (j + 1) u (by simpa using hj)
      rw [show i + (j + 1) = i + 1 + j by omega] at this
      exact this
    · have : acc.push v ++ vs.toArray = acc ++ (v :: vs).toArray := by apply Array.ext'; simp
      rw [this]; exact h
theorem Trip.loadVar1 {t : TypeId} {ad : Addr} {v : Value} {Ψ : Value → Kn → Prop} (hag : ∀ w, (Go.isAgg t).run P w = .ok false w) (hc : k.Has ad v) (h : Ψ v k) : Trip P k (loadVar t ad) Ψ := by
  unfold Go.loadVar
  exact Trip.bind (Trip.isAgg hag (by simpa using Trip.load hc h))
theorem Trip.loadVarN {t : TypeId} {ad : Addr} {vs : List Value} {Ψ : Value → Kn → Prop} (hag : ∀ w, (Go.isAgg t).run P w = .ok true w) (hsz : ∀ w, (Go.sizeOf t).run P w = .ok vs.length w) (hc : k.Reads ad vs) (h : Ψ (.agg vs.toArray) k) : Trip P k (loadVar t ad) Ψ := by
  unfold Go.loadVar
  refine Trip.bind (Trip.isAgg hag ?_)
  simp only [if_true]
  refine Trip.bind (Trip.sizeOf hsz (Trip.bind ?_))
  unfold Go.loadCells
  exact Trip.loadCellsFrom vs 0 #[] (fun j v hj => by simpa using hc j v hj) (Trip.pure (by simpa using h))

/-- A row with values laid into it. -/
def laidIn (c : Array Value) (off : Nat) : List Value → Array Value
  | [] => c
  | v :: vs => laidIn (c.setIfInBounds off v) (off + 1) vs
theorem Kn.set_set (k : Kn) (b : Nat) (o o' : Obj) : (k.set b o).set b o' = k.set b o' := by
  simp only [Kn.set]
  congr 1
  funext x
  split <;> simp_all
theorem Kn.set_id {k : Kn} {b : Nat} {o : Obj} (h : k.own b = some o) : k.set b o = k := by
  cases k
  simp only [Kn.set] at *
  congr 1
  funext x
  split
  · subst_vars; exact h.symm
  · rfl
theorem Trip.storeCells {ad : Addr} {t : TypeId} {Ψ : Unit → Kn → Prop} (hs : ad.spot = none) : ∀ (vs : List Value) (i : Nat) (c : Array Value) (k : Kn), k.own ad.block = some (.cells c t) → ad.off + i + vs.length ≤ c.size → (∀ v ∈ vs, v.oneCell' = true) →
    Ψ () (k.set ad.block (.cells (laidIn c (ad.off + i) vs) t)) → Trip P k (storeCells ad vs i) Ψ
  | [], i, c, k, hb, _, _, h => Trip.pure (by simpa [laidIn, Kn.set_id hb] using h)
  | v :: vs, i, c, k, hb, hl, hv, h => by
    simp only [Go.storeCells]
    have e1 : (ad.add i).block = ad.block := by unfold Addr.add; split <;> rfl
    have e2 : (ad.add i).off = ad.off + i := by unfold Addr.add; split <;> simp_all
    have e3 : (ad.add i).spot = none := by unfold Addr.add; split <;> simp_all
    simp only [List.length_cons] at hl
    refine Trip.bind (Trip.store (c := c) (t := t) (by rw [e1]; exact hb) e3 (by rw [e2]; omega) (hv v (by simp)) ?_)
    refine Trip.storeCells hs vs (i + 1) (c.setIfInBounds (ad.off + i) v) _ (by rw [e1, e2]; exact Kn.set_same _ _ _) (by simp; omega) (fun u hu => hv u (by simp [hu])) ?_
    rw [e1, Kn.set_set]
    simpa [laidIn, Nat.add_assoc] using h
theorem Trip.storeVar {t te : TypeId} {ad : Addr} {v : Value} {c : Array Value} {Ψ : Unit → Kn → Prop} (hs : ad.spot = none) (hsz : ∀ w, (Go.sizeOf t).run P w = .ok v.cells.size w) (hb : k.own ad.block = some (.cells c te)) (hl : ad.off + v.cells.size ≤ c.size)
    (hv : ∀ u ∈ v.cells.toList, u.oneCell' = true) (h : Ψ () (k.set ad.block (.cells (laidIn c ad.off v.cells.toList) te))) : Trip P k (storeVar t ad v) Ψ := by
  unfold Go.storeVar
  refine Trip.bind (Trip.sizeOf hsz ?_)
  simp only [ne_eq, not_true_eq_false, if_false]
  exact Trip.storeCells hs v.cells.toList 0 c k hb (by simpa using hl) hv (by simpa using h)
end

section
variable {P : Program} {main : Who} {fn : FuncId} {Q : Exit → Act → Kn → Prop} {a : Act} {k : Kn} {ops : Array Oper} {i : Nat} {rest : List Nat} {o : Oper}
theorem opsK_load1 {t : TypeId} {x : Operand} {ad : Addr} {v : Value} (ho : ops[i]? = some o) (hw : Region.wanted o (yielded ops a.tmps) = true) (hop : o.op = .load t x) (hx : a.eval x = .pointer (some ad))
    (hag : ∀ w, (Go.isAgg t).run P w = .ok false w) (hc : k.Has ad v) (h : OpsK P main fn ops rest Q (a.put o.dst v) k) : OpsK P main fn ops (i :: rest) Q a k := by
  refine opsK_trip ho hw ?_
  unfold execOp
  simp only [hop, hx, Instr.loadAt, Instr.sureAddr]
  exact Trip.bind (Trip.bind (Trip.pure (Trip.loadVar1 hag hc (Trip.pure h))))
theorem opsK_loadN {t : TypeId} {x : Operand} {ad : Addr} {vs : List Value} (ho : ops[i]? = some o) (hw : Region.wanted o (yielded ops a.tmps) = true) (hop : o.op = .load t x) (hx : a.eval x = .pointer (some ad))
    (hag : ∀ w, (Go.isAgg t).run P w = .ok true w) (hsz : ∀ w, (Go.sizeOf t).run P w = .ok vs.length w) (hc : k.Reads ad vs) (h : OpsK P main fn ops rest Q (a.put o.dst (.agg vs.toArray)) k) : OpsK P main fn ops (i :: rest) Q a k := by
  refine opsK_trip ho hw ?_
  unfold execOp
  simp only [hop, hx, Instr.loadAt, Instr.sureAddr]
  exact Trip.bind (Trip.bind (Trip.pure (Trip.loadVarN hag hsz hc (Trip.pure h))))
theorem opsK_store {t te : TypeId} {x y : Operand} {ad : Addr} {v : Value} {c : Array Value} (ho : ops[i]? = some o) (hw : Region.wanted o (yielded ops a.tmps) = true) (hop : o.op = .store t x y) (hx : a.eval x = .pointer (some ad)) (hy : a.eval y = v)
    (hs : ad.spot = none) (hsz : ∀ w, (Go.sizeOf t).run P w = .ok v.cells.size w) (hb : k.own ad.block = some (.cells c te)) (hl : ad.off + v.cells.size ≤ c.size) (hv : ∀ u ∈ v.cells.toList, u.oneCell' = true)
    (h : OpsK P main fn ops rest Q (a.put o.dst undef) (k.set ad.block (.cells (laidIn c ad.off v.cells.toList) te))) : OpsK P main fn ops (i :: rest) Q a k := by
  refine opsK_trip ho hw ?_
  unfold execOp
  simp only [hop, hx, hy, Instr.storeAt, Instr.sureAddr]
  exact Trip.bind (Trip.bind (Trip.pure (Trip.storeVar hs hsz hb hl hv (Trip.pure h))))
/-- .. with what is known by reckoning. -/
theorem opsK_storeL {t te : TypeId} {x y : Operand} {ad : Addr} {vs : List Value} {c c' : Array Value} (ho : ops[i]? = some o) (hw : Region.wanted o (yielded ops a.tmps) = true) (hop : o.op = .store t x y) (hx : a.eval x = .pointer (some ad)) (hy : (a.eval y).cells.toList = vs)
    (hs : ad.spot = none) (hsz : ∀ w, (Go.sizeOf t).run P w = .ok vs.length w) (hb : k.own ad.block = some (.cells c te)) (hl : Nat.ble (ad.off + vs.length) c.size = true) (hv : vs.all Value.oneCell' = true) (hc : laidIn c ad.off vs = c')
    (h : OpsK P main fn ops rest Q (a.put o.dst undef) (k.set ad.block (.cells c' te))) : OpsK P main fn ops (i :: rest) Q a k := by
  have e : (a.eval y).cells.size = vs.length := by rw [← hy]; simp
  subst hc
  refine opsK_store ho hw hop hx rfl hs (fun w => by rw [e]; exact hsz w) hb (by rw [e]; exact Nat.le_of_ble_eq_true hl) (fun u hu => ?_) (by rw [hy]; exact h)
  rw [hy] at hu
  exact List.all_eq_true.1 hv u hu
theorem opsK_alloc {t : TypeId} {z : Value} (ho : ops[i]? = some o) (hw : Region.wanted o (yielded ops a.tmps) = true) (hop : o.op = .alloc t) (hz : ∀ w, (Go.zeroValue t).run P w = .ok z w)
    (h : ∀ b, k.New b → OpsK P main fn ops rest Q (a.put o.dst (.pointer (some ⟨b, 0, none⟩))) (k.set b (.cells z.cells t))) : OpsK P main fn ops (i :: rest) Q a k := by
  refine opsK_trip ho hw ?_
  unfold execOp
  simp only [hop, Instr.alloc]
  exact Trip.bind (Trip.bind (Trip.zeroValue hz (Trip.bind (Trip.newVar fun b hb => Trip.pure (Trip.pure (h b hb))))))
theorem opsK_box {t : TypeId} {x : Operand} {v : Value} (ho : ops[i]? = some o) (hw : Region.wanted o (yielded ops a.tmps) = true) (hop : o.op = .box t x) (hx : a.eval x = v)
    (h : ∀ b, k.New b → OpsK P main fn ops rest Q (a.put o.dst (.pointer (some ⟨b, 0, none⟩))) (k.set b (.cells v.cells t))) : OpsK P main fn ops (i :: rest) Q a k := by
  refine opsK_trip ho hw ?_
  unfold execOp
  simp only [hop, hx, Instr.box]
  exact Trip.bind (Trip.bind (Trip.newVar fun b hb => Trip.pure (Trip.pure (h b hb))))
/-- .. that nobody writes any more. -/
theorem opsK_boxRo {t : TypeId} {x : Operand} {v : Value} (ho : ops[i]? = some o) (hw : Region.wanted o (yielded ops a.tmps) = true) (hop : o.op = .box t x) (hx : a.eval x = v)
    (h : ∀ b, k.New b → OpsK P main fn ops rest Q (a.put o.dst (.pointer (some ⟨b, 0, none⟩))) (k.lay b v.cells)) : OpsK P main fn ops (i :: rest) Q a k := by
  refine opsK_trip ho hw ?_
  unfold execOp
  simp only [hop, hx, Instr.box, newVar, newRow]
  exact Trip.bind (Trip.bind (Trip.bind (Trip.newRo fun b hb => Trip.pure (Trip.pure (Trip.pure (h b hb))))))
theorem opsK_makeMap {t : TypeId} (ho : ops[i]? = some o) (hw : Region.wanted o (yielded ops a.tmps) = true) (hop : o.op = .makeMap t none)
    (h : ∀ b, k.New b → OpsK P main fn ops rest Q (a.put o.dst (.map (some b))) (k.set b (.map #[] 0))) : OpsK P main fn ops (i :: rest) Q a k := by
  refine opsK_trip ho hw ?_
  unfold execOp
  simp only [hop, Instr.makeMap, Option.map_none]
  exact Trip.bind (Trip.bind (Trip.new' fun b hb => Trip.pure (Trip.pure (h b hb))))
end
end Go.Proofs.Ytacfhfeegalmlaa

/- LAWS for the words of a walk in company (the words themselves are laid out by a small program). -/
namespace Go.Proofs.Ytacfhfeegalmlaa
open Go.Conc
set_option linter.unusedVariables false
set_option linter.unusedSimpArgs false

section
variable {P : Program} {main : Who} {fn : FuncId} {Q : Exit → Act → Kn → Prop} {a : Act} {k : Kn} {ops : Array Oper} {i : Nat} {rest : List Nat} {o : Oper}
theorem opsK_pure_k {v : Value} (ho : ops[i]? = some o) (hw : Region.wanted o (yielded ops a.tmps) = true)
    (hv : ∀ w (K : Result Next → Prop), K (.ok (.value v) w) → K ((execOp a.eval o).run P w)) (hl : ∀ w, (execOp a.eval o).events P w #[] = #[]) (h : OpsK P main fn ops rest Q (a.put o.dst v) k) : OpsK P main fn ops (i :: rest) Q a k :=
  opsK_pure ho hw (fun w => run_eq_of (hv w)) (fun w => listed_nil (hl w)) h
end

/-! what operations that look at no memory list -/
section
variable (P : Program) (w : World) (es : Array Event)
theorem run_eqGuard_ptr (op : BinOp) (t : TypeId) (x y : Operand) (p : Option Addr) (b : Value) : (eqGuard op t x y (.pointer p) b).run P w = .ok () w := by
  unfold eqGuard
  split <;> rfl
theorem events_eqGuard_ptr (op : BinOp) (t : TypeId) (x y : Operand) (p : Option Addr) (b : Value) : (eqGuard op t x y (.pointer p) b).events P w es = es := by
  unfold eqGuard
  split <;> rfl
theorem events_eqGuard_ne (op : BinOp) (t : TypeId) (x y : Operand) (a b : Value) (h : (op matches .eql | .neq) = false) : (eqGuard op t x y a b).events P w es = es := by
  cases op <;> first | (simp at h; done) | rfl
theorem equal_ptr_nil {t e : TypeId} (h : P.underlying t = some (.pointer e)) (p : Option Addr) : (Op.equal t (.pointer p) (.pointer none)).run P w = .ok p.isNone w ∧ (Op.equal t (.pointer p) (.pointer none)).events P w es = es := by
  unfold Op.equal Op.maxDepth Op.equalIn
  cases p with
  | none => exact ⟨by simp [run_underlying h], by simp [run_underlying h]⟩
  | some a => exact ⟨by simp [run_underlying h], by simp [run_underlying h]⟩
theorem binOp_eql_nil {t e : TypeId} (h : P.underlying t = some (.pointer e)) (p : Option Addr) : (binOp .eql t (.pointer p) (.pointer none)).run P w = .ok (.bool p.isNone) w ∧ (binOp .eql t (.pointer p) (.pointer none)).events P w es = es := by
  have := equal_ptr_nil P w es h p
  unfold binOp
  exact ⟨by simp [this.1], by simp [this.1, this.2]⟩
theorem binOp_neq_nil {t e : TypeId} (h : P.underlying t = some (.pointer e)) (p : Option Addr) : (binOp .neq t (.pointer p) (.pointer none)).run P w = .ok (.bool (!p.isNone)) w ∧ (binOp .neq t (.pointer p) (.pointer none)).events P w es = es := by
  have := equal_ptr_nil P w es h p
  unfold binOp
  exact ⟨by simp [this.1], by simp [this.1, this.2]⟩
end
/-! operations that list nothing, whatever they yield -/
def Mute {α : Type} (s : Sem α) : Prop := ∀ (P : Program) (w : World) (es : Array Event), s.events P w es = es
theorem Mute.pure {α : Type} (a : α) : Mute (Pure.pure a : Sem α) := fun _ _ _ => rfl
theorem Mute.bind {α β : Type} {s : Sem α} {f : α → Sem β} (h : Mute s) (hf : ∀ a, Mute (f a)) : Mute (s >>= f) := fun P w es => by
  rw [Sem.events_bind, h]
  cases s.run P w with
  | ok a w' => exact hf a P w' es
  | halt _ _ => rfl
theorem Mute.listMapM {α β : Type} {f : α → Sem β} (hf : ∀ a, Mute (f a)) : ∀ l : List α, Mute (l.mapM f)
  | [] => by rw [List.mapM_nil]; exact Mute.pure _
  | x :: l => by
    rw [List.mapM_cons]
    exact Mute.bind (hf x) fun y => Mute.bind (Mute.listMapM hf l) fun ys => Mute.pure _
theorem Mute.build (t : TypeId) (parts : Array (Nat × Value)) : Mute (Instr.build t parts) := by
  unfold Instr.build
  refine Mute.bind (fun P w es => events_zeroValue P w es t) fun z => Mute.bind (fun P w es => events_underlying P w es t) fun d => ?_
  have hs : ∀ why, Mute (stuck why : Sem Value) := fun why P w es => events_stuck P w es why
  cases d with
  | struct fields =>
    refine Mute.bind ?_ fun places => ?_
    · rw [Array.mapM_eq_mapM_toList]
      intro P w es
      rw [Sem.events_map]
      exact Mute.listMapM (fun f => Mute.bind (fun P w es => events_sizeOf P w es _) fun n => Mute.pure _) _ P w es
    · split
      · exact Mute.pure _
      · exact hs _
  | array n e =>
    refine Mute.bind (fun P w es => events_sizeOf P w es _) fun size => ?_
    split
    · exact Mute.pure _
    · exact hs _
  | _ => exact hs _
theorem ev_build {P : Program} {a : Act} {o : Oper} {w : World} {t : TypeId} {parts : Array (Nat × Operand)} (hop : o.op = .build t parts) : (execOp a.eval o).events P w #[] = #[] := by
  unfold execOp
  simp only [hop]
  exact Mute.bind (Mute.build _ _) (fun _ => Mute.pure _) P w #[]
section
variable {P : Program} {a : Act} {o : Oper} {w : World} {t ty : TypeId} {x y : Operand} {op : BinOp}
/-- Neither a division nor a shift. -/
def tameOp : BinOp → Bool
  | .quo | .rem | .shl | .shr => false
  | _ => true
theorem ev_int {k k' : IntKind} {u v : Int} (hop : o.op = .binOp op t x y ty) (hx : a.eval x = .int k u) (hy : a.eval y = .int k' v) (ht : tameOp op = true) : (execOp a.eval o).events P w #[] = #[] := by
  unfold execOp
  simp only [hop, hx, hy, eqGuard, binOp]
  by_cases h : k = k'
  · subst h
    cases op <;> first | (simp [tameOp] at ht; done) | (simp [Op.intArith, Op.intBits, Op.intCmp, stuck]; done)
  · cases op <;> first | (simp [tameOp] at ht; done) | (simp [h, stuck]; done)
theorem ev_str {u v : ByteArray} (hop : o.op = .binOp op t x y ty) (hx : a.eval x = .string u) (hy : a.eval y = .string v) : (execOp a.eval o).events P w #[] = #[] := by
  unfold execOp
  simp only [hop, hx, hy, eqGuard, binOp]
  cases op <;> simp [Op.stringOp, stuck]
end
section
variable {P : Program} {main : Who} {fn : FuncId} {Q : Exit → Act → Kn → Prop} {a : Act} {k : Kn} {ops : Array Oper} {i : Nat} {rest : List Nat} {o : Oper}
theorem opsK_callv {f : FuncId} {args : Array Operand} {ats : Array TypeId} {xs : Array Value} {Post : Value → Kn → Prop}
    (ho : ops[i]? = some o) (hw : Region.wanted o (yielded ops a.tmps) = true) (hop : o.op = .call { callee := .value (.func f), args, argTypes := ats }) (ha : args.map a.eval = xs)
    (hcall : CallsK P main f xs k Post) (hnext : ∀ v k', Post v k' → OpsK P main fn ops rest Q (a.put o.dst v) k') : OpsK P main fn ops (i :: rest) Q a k :=
  opsK_call ho hw hop (by rw [ha]; exact hcall) hnext
theorem opsK_max {x y : Operand} {ats : Array TypeId} {k1 k2 : IntKind} {u v : Int} (ho : ops[i]? = some o) (hw : Region.wanted o (yielded ops a.tmps) = true) (hop : o.op = .call { callee := .builtin .max, args := #[x, y], argTypes := ats })
    (hx : a.eval x = .int k1 u) (hy : a.eval y = .int k2 v) (h : OpsK P main fn ops rest Q (a.put o.dst (.int k1 (max u v))) k) : OpsK P main fn ops (i :: rest) Q a k := by
  have e : (if v > u then v else u) = max u v := by rw [Int.max_def]; split <;> split <;> omega
  refine opsK_pure ho hw (fun w => ?_) (fun w => listed_nil ?_) h
  · unfold execOp
    simp [hop, resolve, invoke, builtin, Builtin.max_, Builtin.max2, hx, hy, e]
  · unfold execOp
    simp [hop, resolve, invoke, builtin, Builtin.max_, Builtin.max2, hx, hy, e]
/-! what is left at a return -/
theorem retK1 {f : Func} {Post : Value → Kn → Prop} {t : Tmp} (hr : f.results = #[.tmp t]) (hd : a.defers = []) (hp : Post (a.tmps.getD t undef) k) : bodyK P main f Post .ret a k := by
  show LeaveK P main f a.tmps Post a.defers k
  rw [hd]
  exact Trip.still (fun w => results_tmp hr _ P w) (fun w => events_results_tmp hr _ _) hp
theorem retK0 {f : Func} {Post : Value → Kn → Prop} {e : Exit} (he : e = .ret ∨ e = .normal) (hr : f.results = #[]) (hd : a.defers = []) (hp : Post (.tuple #[]) k) : bodyK P main f Post e a k := by
  rcases he with rfl | rfl <;>
  · show LeaveK P main f a.tmps Post a.defers k
    rw [hd]
    exact Trip.still (fun w => results_none hr _ P w) (fun w => events_results_none hr _ _) hp
theorem retK2 {f : Func} {Post : Value → Kn → Prop} {t u : Tmp} (hr : f.results = #[.tmp t, .tmp u]) (hd : a.defers = []) (hp : Post (.tuple #[a.tmps.getD t undef, a.tmps.getD u undef]) k) : bodyK P main f Post .ret a k := by
  show LeaveK P main f a.tmps Post a.defers k
  rw [hd]
  exact Trip.still (fun w => results_tmp2 hr _ P w) (fun w => events_results_tmp2 hr _ _) hp
theorem retK3 {f : Func} {Post : Value → Kn → Prop} {t u v : Tmp} (hr : f.results = #[.tmp t, .tmp u, .tmp v]) (hd : a.defers = []) (hp : Post (.tuple #[a.tmps.getD t undef, a.tmps.getD u undef, a.tmps.getD v undef]) k) : bodyK P main f Post .ret a k := by
  show LeaveK P main f a.tmps Post a.defers k
  rw [hd]
  exact Trip.still (fun w => by simp [results, hr]) (fun w => by simp [results, hr]) hp
/-- The result is a variable of several cells. -/
theorem retKN {f : Func} {Post : Value → Kn → Prop} {t : Tmp} {ty : TypeId} {ad : Addr} {vs : List Value} (hr : f.results = #[.cell t ty]) (hd : a.defers = []) (hx : a.tmps.getD t undef = .pointer (some ad))
    (hag : ∀ w, (Go.isAgg ty).run P w = .ok true w) (hsz : ∀ w, (Go.sizeOf ty).run P w = .ok vs.length w) (hc : k.Reads ad vs) (hp : Post (.agg vs.toArray) k) : bodyK P main f Post .ret a k := by
  show LeaveK P main f a.tmps Post a.defers k
  rw [hd]
  unfold LeaveK
  intro w hw
  obtain ⟨v, w', k', h1, h2, h3, h4⟩ := Trip.loadVarN (P := P) (Ψ := fun v k' => v = .agg vs.toArray ∧ k' = k) hag hsz hc ⟨rfl, rfl⟩ w hw
  have hx' : (a.tmps[t]?).getD undef = .pointer (some ad) := by simpa [Array.getD_eq_getD_getElem?] using hx
  refine ⟨v, w', k', ?_, ?_, by rw [h3, h4]; exact hp⟩
  · simp [results, hr, hx', asAddr, h1]
  · simp [results, hr, hx', asAddr, h1]
    exact h2
def isPtrD : Option TypeDesc → Bool
  | some (.pointer _) => true
  | _ => false
theorem isPtrD_of {d : Option TypeDesc} (h : isPtrD d = true) : ∃ e, d = some (.pointer e) := by
  cases d with
  | none => cases h
  | some d => cases d <;> first | exact ⟨_, rfl⟩ | cases h
theorem opsK_eqNil {t ty : TypeId} {x : Operand} {p : Option Addr} (ho : ops[i]? = some o) (hw : Region.wanted o (yielded ops a.tmps) = true) (hop : o.op = .binOp .eql t x (.const (.pointer none)) ty) (hx : a.eval x = .pointer p)
    (ht : isPtrD (P.underlying t) = true) (h : OpsK P main fn ops rest Q (a.put o.dst (.bool p.isNone)) k) : OpsK P main fn ops (i :: rest) Q a k := by
  obtain ⟨e, ht⟩ := isPtrD_of ht
  have hy : a.eval (.const (.pointer none)) = .pointer none := rfl
  refine opsK_pure ho hw (fun w => ?_) (fun w => listed_nil ?_) h
  · unfold execOp; simp only [hop, hx, hy]; simp [run_eqGuard_ptr, (binOp_eql_nil P w #[] ht p).1]
  · unfold execOp; simp only [hop, hx, hy]; simp [run_eqGuard_ptr, events_eqGuard_ptr, (binOp_eql_nil P w #[] ht p).1, (binOp_eql_nil P w #[] ht p).2]
theorem opsK_neNil {t ty : TypeId} {x : Operand} {p : Option Addr} (ho : ops[i]? = some o) (hw : Region.wanted o (yielded ops a.tmps) = true) (hop : o.op = .binOp .neq t x (.const (.pointer none)) ty) (hx : a.eval x = .pointer p)
    (ht : isPtrD (P.underlying t) = true) (h : OpsK P main fn ops rest Q (a.put o.dst (.bool (!p.isNone))) k) : OpsK P main fn ops (i :: rest) Q a k := by
  obtain ⟨e, ht⟩ := isPtrD_of ht
  have hy : a.eval (.const (.pointer none)) = .pointer none := rfl
  refine opsK_pure ho hw (fun w => ?_) (fun w => listed_nil ?_) h
  · unfold execOp; simp only [hop, hx, hy]; simp [run_eqGuard_ptr, (binOp_neq_nil P w #[] ht p).1]
  · unfold execOp; simp only [hop, hx, hy]; simp [run_eqGuard_ptr, events_eqGuard_ptr, (binOp_neq_nil P w #[] ht p).1, (binOp_neq_nil P w #[] ht p).2]
end
end Go.Proofs.Ytacfhfeegalmlaa
