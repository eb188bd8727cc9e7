/-
  Joined texts: PLAIN LAW: the stack of learn. · (*trie).add: the walk. · the machine of a trie: what the walk of (*trie).machine carries. · (*trie).machine: the walk.
-/
import Derived.Test.YtflgmodofemifaaWC9
import Derived.Test.YtflgmodofemifaaWC6
import Derived.Test.YtflgmodofemifaaWC4
import Derived.Deep.LoopGhost
import Derived.Deep.Cut
import Derived.Deep.CutRange
import Derived.Deep.DeepCutAuto
import Derived.Deep.RegionLaw

/- PLAIN LAW: the stack of learn. -/
namespace Go.Proofs.Ytflgmodofemifaa
set_option linter.unusedVariables false
set_option linter.unusedSimpArgs false

/-- what a rule refers to -/
def refs (r : Ru) : List Nat := if r.kind = 2 then [r.left, r.right] else if r.kind = 3 then [r.left] else []
def refsAt (L : List En) (x : Nat) : List Nat := match L[x - 1]? with
  | some e => refs e.ru
  | none => []
theorem refsAt_get {L : List En} {x : Nat} {e : En} (h : L[x - 1]? = some e) : refsAt L x = refs e.ru := by unfold refsAt; rw [h]
theorem refs_lt {L : List En} {i : Nat} {e : En} (h : RuOk L i e) : ∀ y ∈ refs e.ru, 0 < y ∧ y ≤ i := by
  intro y hy
  unfold refs at hy
  rcases h with ⟨a, b, c, d, f⟩ | ⟨a, b, c, d, f, g, h⟩ | ⟨a, b, c, d, f, g, h⟩
  · rw [a] at hy; simp at hy
  · rw [a] at hy; simp at hy
    rcases hy with rfl | rfl <;> omega
  · rw [a] at hy; simp at hy; omega
theorem refs_len (r : Ru) : (refs r).length ≤ 2 := by unfold refs; split <;> (try split) <;> simp

/-- what a rule refers to is no longer than its text -/
theorem refs_short {L : List En} (hg : Good L) {i : Nat} {e : En} (he : L[i]? = some e) : ∀ y ∈ refs e.ru, (tx L y).length ≤ (tx L (i + 1)).length := by
  intro y hy
  rw [tx_at hg he]
  unfold refs at hy
  rcases hg.ru _ _ he with ⟨a, b, c, d, f⟩ | ⟨a, b, c, d, f, g, h⟩ | ⟨a, b, c, d, f, g, h⟩
  · rw [a] at hy; simp at hy
  · rw [a] at hy ⊢; simp at hy ⊢
    rcases hy with rfl | rfl <;> omega
  · rw [a] at hy ⊢; simp at hy ⊢
    rw [hy, rep_len]
    have : 1 * (tx L e.ru.left).length ≤ e.ru.times * (tx L e.ru.left).length := Nat.mul_le_mul_right _ (by omega)
    omega

/-- the stack: numbers, and whether what they refer to has been pushed -/
structure Stk (L : List En) (id : Nat) (K : Nat → Option Value) (T : List (Nat × Bool)) : Prop where
  pos : ∀ (p : Nat) (x : Nat × Bool), T[p]? = some x → 0 < x.1 ∧ x.1 ≤ L.length ∧ p + 2 * x.1 ≤ 2 * id
  ref : ∀ (p x : Nat), T[p]? = some (x, true) → ∀ y ∈ refsAt L x, (K y).isSome = true ∨ ∃ (p' : Nat) (f : Bool), p < p' ∧ T[p']? = some (y, f)
  base : (K id).isSome = true ∨ ∃ f, T[0]? = some (id, f)
  sh : ∀ (p : Nat) (x : Nat × Bool), T[p]? = some x → (tx L x.1).length ≤ (tx L id).length

def ms (T : List (Nat × Bool)) : Nat := (T.map fun x => if x.2 then 1 else 4 ^ x.1).sum
theorem ms_app (S T : List (Nat × Bool)) : ms (S ++ T) = ms S + ms T := by simp [ms]
theorem ms_one (x : Nat) (f : Bool) : ms [(x, f)] = if f then 1 else 4 ^ x := by simp [ms]
theorem ms_pos (x : Nat × Bool) : 0 < ms [x] := by
  obtain ⟨x, f⟩ := x
  rw [ms_one]
  cases f
  · exact Nat.pow_pos (by decide)
  · exact Nat.one_pos

theorem Stk.start {L : List En} {id : Nat} (K : Nat → Option Value) (h0 : 0 < id) (h1 : id ≤ L.length) : Stk L id K [(id, false)] := by
  refine ⟨fun p x hx => ?_, fun p x hx => ?_, .inr ⟨false, rfl⟩, fun p x hx => ?_⟩
  · rcases p with _ | p
    · cases hx; exact ⟨h0, h1, by simp⟩
    · cases hx
  · rcases p with _ | p
    · cases hx
    · cases hx
  · rcases p with _ | p
    · cases hx; exact Nat.le_refl _
    · cases hx
theorem Stk.more {L id K K' T} (h : Stk L id K T) (hK : ∀ y, (K y).isSome = true → (K' y).isSome = true) : Stk L id K' T :=
  ⟨h.pos, fun p x hx y hy => (h.ref p x hx y hy).imp (hK y) (fun a => a), h.base.imp (hK id) (fun a => a), h.sh⟩
theorem Stk.pop {L id K T x f} (h : Stk L id K (T ++ [(x, f)])) (hx : (K x).isSome = true) : Stk L id K T := by
  have old : ∀ {p : Nat} {y : Nat × Bool}, T[p]? = some y → (T ++ [(x, f)])[p]? = some y := fun {p y} hp => by
    rw [List.getElem?_append_left (List.getElem?_eq_some_iff.1 hp).1]; exact hp
  refine ⟨fun p y hy => h.pos p y (old hy), fun p z hz y hy => ?_, ?_, fun p y hy => h.sh p y (old hy)⟩
  · rcases h.ref p z (old hz) y hy with h1 | ⟨p', f', hp, h1⟩
    · exact .inl h1
    · rcases snoc_get h1 with ⟨_, h2⟩ | ⟨_, h2⟩
      · exact .inr ⟨p', f', hp, h2⟩
      · cases h2; exact .inl hx
  · rcases h.base with h1 | ⟨f', h1⟩
    · exact .inl h1
    · rcases snoc_get h1 with ⟨_, h2⟩ | ⟨_, h2⟩
      · exact .inr ⟨f', h2⟩
      · cases h2; exact .inl hx
theorem ms_pop (T : List (Nat × Bool)) (x : Nat × Bool) : ms T < ms (T ++ [x]) := by rw [ms_app]; have := ms_pos x; omega
/-- an element that has been expanded, on top: what it refers to is known -/
theorem Stk.ready {L id K T x} (h : Stk L id K (T ++ [(x, true)])) : ∀ y ∈ refsAt L x, (K y).isSome = true := by
  intro y hy
  rcases h.ref T.length x (by simp) y hy with h1 | ⟨p', f', hp, h1⟩
  · exact h1
  · rw [List.getElem?_eq_none (by simp; omega)] at h1; cases h1
/-- what is not known is pushed -/
theorem Stk.push {L id K T x} (h : Stk L id K (T ++ [(x, false)])) (hg : Good L) (ys : List Nat) (hin : ∀ y ∈ ys, y ∈ refsAt L x) (hlen : ys.length ≤ 2) (hall : ∀ y ∈ refsAt L x, (K y).isSome = true ∨ y ∈ ys) :
    Stk L id K (T ++ [(x, true)] ++ ys.map (·, false)) ∧ ms (T ++ [(x, true)] ++ ys.map (·, false)) < ms (T ++ [(x, false)]) := by
  obtain ⟨x0, x1, x2⟩ := h.pos T.length (x, false) (by simp)
  simp only at x0 x1 x2
  obtain ⟨e, he⟩ : ∃ e, L[x - 1]? = some e := ⟨_, List.getElem?_eq_getElem (by omega)⟩
  have hlt : ∀ y ∈ ys, 0 < y ∧ y < x := fun y hy => by
    have := hin y hy
    rw [refsAt_get he] at this
    have := refs_lt (hg.ru _ _ he) y this
    omega
  have old : ∀ {p : Nat} {y : Nat × Bool}, T[p]? = some y → (T ++ [(x, true)] ++ ys.map (·, false))[p]? = some y := fun {p y} hp => by
    have hl := (List.getElem?_eq_some_iff.1 hp).1
    rw [List.append_assoc, List.getElem?_append_left hl]; exact hp
  have cas : ∀ {p : Nat} {y : Nat × Bool}, (T ++ [(x, true)] ++ ys.map (·, false))[p]? = some y → T[p]? = some y ∨ (p = T.length ∧ y = (x, true)) ∨ (∃ z, z ∈ ys ∧ y = (z, false) ∧ T.length < p ∧ p ≤ T.length + ys.length) := fun {p y} hp => by
    have hb := (List.getElem?_eq_some_iff.1 hp).1
    simp at hb
    rw [List.append_assoc] at hp
    rcases Nat.lt_or_ge p T.length with hl | hl
    · rw [List.getElem?_append_left hl] at hp; exact .inl hp
    · rw [List.getElem?_append_right hl] at hp
      obtain ⟨k, hk⟩ : ∃ k, p - T.length = k := ⟨_, rfl⟩
      rw [hk] at hp
      rcases k with _ | k
      · simp at hp; exact .inr (.inl ⟨by omega, hp.symm⟩)
      · simp at hp
        obtain ⟨z, hz, rfl⟩ := hp
        exact .inr (.inr ⟨z, List.mem_of_getElem? hz, rfl, by omega, by omega⟩)
  refine ⟨⟨fun p y hy => ?_, fun p z hz y hy => ?_, ?_, fun p y hy => ?_⟩, ?_⟩
  · rcases cas hy with h1 | ⟨rfl, rfl⟩ | ⟨z, hz, rfl, hp1, hp2⟩
    · exact h.pos p y (by rw [List.getElem?_append_left (List.getElem?_eq_some_iff.1 h1).1]; exact h1)
    · exact ⟨x0, x1, x2⟩
    · have := hlt z hz
      exact ⟨this.1, by show z ≤ L.length; omega, by show p + 2 * z ≤ 2 * id; omega⟩
  · rcases cas hz with h1 | ⟨rfl, h1⟩ | ⟨z', hz', h1, _, _⟩
    · rcases h.ref p z (by rw [List.getElem?_append_left (List.getElem?_eq_some_iff.1 h1).1]; exact h1) y hy with h2 | ⟨p', f', hp, h2⟩
      · exact .inl h2
      · rcases snoc_get h2 with ⟨_, h3⟩ | ⟨rfl, h3⟩
        · exact .inr ⟨p', f', hp, old h3⟩
        · cases h3
          exact .inr ⟨T.length, true, hp, by simp⟩
    · cases h1
      rcases hall y hy with h2 | h2
      · exact .inl h2
      · obtain ⟨j, hj, rfl⟩ := List.mem_iff_getElem.1 h2
        refine .inr ⟨T.length + 1 + j, false, by omega, ?_⟩
        rw [List.getElem?_append_right (by simp)]
        simp [hj]
    · cases h1
  · rcases h.base with h1 | ⟨f', h1⟩
    · exact .inl h1
    · rcases snoc_get h1 with ⟨_, h2⟩ | ⟨h2, h3⟩
      · exact .inr ⟨f', old h2⟩
      · cases h3
        refine .inr ⟨true, ?_⟩
        rw [h2]; simp
  · have hx9 := h.sh T.length (x, false) (by simp)
    rcases cas hy with h1 | ⟨rfl, rfl⟩ | ⟨z, hz, rfl, hp1, hp2⟩
    · exact h.sh p y (by rw [List.getElem?_append_left (List.getElem?_eq_some_iff.1 h1).1]; exact h1)
    · exact hx9
    · have h2 := hin z hz
      rw [refsAt_get he] at h2
      have h3 := refs_short hg he z h2
      rw [show x - 1 + 1 = x by omega] at h3
      exact Nat.le_trans h3 hx9
  · rw [ms_app, ms_app, ms_app, ms_one, ms_one, if_pos rfl, if_neg (by simp)]
    have hp : 4 * 4 ^ (x - 1) = 4 ^ x := by rw [Nat.mul_comm, ← Nat.pow_succ]; congr 1; omega
    have hb : ∀ y ∈ ys, 4 ^ y ≤ 4 ^ (x - 1) := fun y hy => Nat.pow_le_pow_right (by decide) (by have := hlt y hy; omega)
    have h1 : 0 < 4 ^ (x - 1) := Nat.pow_pos (by decide)
    have hs : ms (ys.map (·, false)) ≤ 2 * 4 ^ (x - 1) := by
      match ys, hlen, hb with
      | [], _, _ => simp [ms]
      | [a], _, hb => have := hb a (by simp); simp [ms]; omega
      | [a, b], _, hb => have := hb a (by simp); have := hb b (by simp); simp [ms]; omega
      | a :: b :: c :: r, hl, _ => simp at hl
    omega
theorem Stk.len {L id K T} (h : Stk L id K T) : T.length ≤ 2 * id := by
  rcases Nat.eq_zero_or_pos T.length with h0 | h0
  · omega
  · obtain ⟨x, hx⟩ : ∃ x, T[T.length - 1]? = some x := ⟨_, List.getElem?_eq_getElem (by omega)⟩
    have := h.pos _ _ hx
    omega
theorem Stk.done {L id K} (h : Stk L id K []) : (K id).isSome = true := by
  rcases h.base with h1 | ⟨f, h1⟩
  · exact h1
  · cases h1

end Go.Proofs.Ytflgmodofemifaa

/- (*trie).add: the walk. -/
namespace Go.Proofs.Ytflgmodofemifaa
open Go.RowKit Go.Maps
set_option linter.unusedVariables false
set_option linter.unusedSimpArgs false

/-- how many patterns the words are -/
def eqsL (ps W : List (List Int)) : List Int := W.map fun x => (eqs ps x : Int)

theorem eqs_zero {ps : List (List Int)} {x : List Int} (h : x ∉ ps) : eqs ps x = 0 := by
  unfold eqs
  rw [List.length_eq_zero_iff, List.filter_eq_nil_iff]
  intro p hp e
  rw [beq_iff_eq] at e
  exact h (e ▸ hp)
theorem eqs_snoc (ps : List (List Int)) (p x : List Int) : eqs (ps ++ [p]) x = eqs ps x + if p = x then 1 else 0 := by
  unfold eqs
  rw [List.filter_append, List.length_append]
  congr 1
  by_cases h : p = x <;> simp [h]
theorem eqs_le (ps : List (List Int)) (x : List Int) : eqs ps x ≤ ps.length := List.length_filter_le _ _
theorem eqsL_len (ps W) : (eqsL ps W).length = W.length := by simp [eqsL]
theorem eqsL_new {ps W : List (List Int)} {x : List Int} (h : ∀ p ∈ ps, p ∈ W) (hx : x ∉ W) : eqsL ps (W ++ [x]) = eqsL ps W ++ [0] := by
  unfold eqsL
  rw [List.map_append]
  simp [eqs_zero (fun hp => hx (h x hp))]
theorem eqsL_inc {ps W : List (List Int)} {p : List Int} (hn : W.Nodup) (hp : p ∈ W) : (eqsL ps W).set (W.idxOf p) ((eqs ps p : Int) + 1) = eqsL (ps ++ [p]) W := by
  obtain ⟨q1, q2⟩ := mem_getD (d := []) hp
  refine List.ext_getElem (by simp [eqsL]) fun i h1 h2 => ?_
  have hi : i < W.length := by simpa [eqsL] using h2
  rw [List.getElem_set]
  have hgi : W.getD i [] = W[i] := by simp [List.getD, hi]
  by_cases e : W.idxOf p = i
  · rw [if_pos e]
    have : W[i] = p := by rw [← hgi, ← e, q2]
    simp [eqsL, this, eqs_snoc]
  · rw [if_neg e]
    have : p ≠ W[i] := fun h => e (by rw [h, ← hgi]; exact idx_getD hn hi)
    simp [eqsL, eqs_snoc, this]
theorem eqsL_get {ps W : List (List Int)} {p : List Int} (hp : p ∈ W) : (eqsL ps W)[W.idxOf p]? = some (eqs ps p : Int) := by
  obtain ⟨q1, q2⟩ := mem_getD (d := []) hp
  unfold eqsL
  rw [List.getElem?_map]
  have : W[W.idxOf p]? = some p := by
    rw [List.getElem?_eq_getElem q1]; simp
  rw [this]; rfl
theorem used_snoc (ps : List (List Int)) (p : List Int) {k b : Nat} (hk : k < p.length) (hb : p.getD k 0 = (b : Int)) : (fun x => usedB (ps ++ [p.take k]) x || x == b) = usedB (ps ++ [p.take (k + 1)]) := by
  funext x
  unfold usedB
  rw [List.any_append, List.any_append, take_snoc_getD hk, hb]
  simp only [List.any_cons, List.any_nil, Bool.or_false]
  rw [Bool.or_assoc]
  congr 1
  rw [Bool.eq_iff_iff]
  simp [List.contains_iff_mem, Int.ofNat_inj]
theorem used_nil (ps : List (List Int)) : usedB (ps ++ [[]]) = usedB ps := by
  funext x; simp [usedB]

theorem take_mem_addP {ps W : List (List Int)} (hW : Tw ps W) {p : List Int} {k : Nat} (hk : k ≤ p.length) : p.take k ∈ addP p W k := by
  rw [mem_addP]
  rcases Nat.eq_zero_or_pos k with h | h
  · subst h; exact .inl hW.closed.nil
  · exact .inr ⟨k, h, Nat.le_refl _, rfl⟩
theorem addP_closed {ps W : List (List Int)} (hW : Tw ps W) (p : List Int) : ∀ k, k ≤ p.length → Closed (addP p W k) := by
  intro k hk
  refine ⟨(mem_addP p W k _).2 (.inl hW.closed.nil), fun {u b} hm => ?_⟩
  rcases (mem_addP p W k _).1 hm with h | ⟨i, h1, h2, h3⟩
  · exact (mem_addP p W k _).2 (.inl (hW.closed.pre h))
  · obtain ⟨j, rfl⟩ : ∃ j, i = j + 1 := ⟨i - 1, by omega⟩
    rw [take_snoc_getD (by omega)] at h3
    have := (List.append_inj' h3 rfl).1
    rw [this]
    rcases Nat.eq_zero_or_pos j with e | e
    · subst e; exact (mem_addP p W k _).2 (.inl hW.closed.nil)
    · exact (mem_addP p W k _).2 (.inr ⟨j, e, by omega, rfl⟩)
theorem tw_sub {ps W : List (List Int)} (hW : Tw ps W) (p : List Int) (k : Nat) : ∀ q ∈ ps, q ∈ addP p W k := fun q hq => (mem_addP p W k q).2 (.inl ((hW.mem q).2 (.inr ⟨q, hq, List.prefix_refl q⟩)))

def AddPost (B bt bm : Nat) (ps W : List (List Int)) (p : List Int) (w : World) (e : Ending) (w' : World) : Prop :=
  e = .returned (.bool (decide ((addP p W p.length).length ≤ 256))) ∧ Below B w w' ∧ ((addP p W p.length).length ≤ 256 → ∃ g c, TM B w' bt bm g c (addP p W p.length) (eqsL (ps ++ [p]) (addP p W p.length)) (usedB (ps ++ [p])))

theorem tm_below {B : Nat} {w w' : World} {bt bm g : Nat} (hf : Fr (fun i => i = bm ∨ i = g ∨ i = bt) w w') (h1 : B ≤ bt) (h2 : B ≤ bm) (h3 : B ≤ g) (hB : B ≤ w.heap.size) : Below B w w' :=
  hf.below (by rintro i (rfl | rfl | rfl) <;> assumption) hB

set_option maxRecDepth 100000 in
set_option maxHeartbeats 4000000 in
theorem add_any (B bt bm g c : Nat) (w0 w : World) (ps W : List (List Int)) (p : List Int) (a : Option Addr) (n cp : Nat) (hT : TM B w bt bm g c W (eqsL ps W) (usedB ps)) (hW : Tw ps W) (hl : W.length ≤ 256) (hps : ps.length < 4294967296)
    (hr : Rd w0 .u8 a n p) (hb : Below w0.heap.size w0 w) (hB : w0.heap.size ≤ B) (hBw : B ≤ w.heap.size) :
    Calls Try.prog 15 #[.pointer (some ⟨bt, 0, none⟩), .slice a n cp] w (AddPost B bt bm ps W p w) := by
  have HR := Lib.hid hr
  have HB := Lib.hid hb
  have HT := Lib.hid hT
  have HW := Lib.hid hW
  have HL := Lib.hid hr.len
  have HWL := Lib.hid hl
  have HPS := Lib.hid hps
  have HBB := Lib.hid (And.intro hB hBw)
  have hmax := hr.max
  have HBY := Lib.hid (fun x hx => bd_u8 (hr.wf x hx))
  clear hr hb hT hW hl hps hB hBw
  go_enter Try.func15, Try.ntmps15
  go_wp2
  go_loopw [5, 12] (fun nv iv wr => ∃ k g c : Nat, k ≤ n ∧ iv = .int .i64 k ∧ nv = .int .i64 ((addP p W k).idxOf (p.take k) : Nat) ∧ TM B wr bt bm g c (addP p W k) (eqsL ps (addP p W k)) (usedB (ps ++ [p.take k])) ∧ Below B w wr ∧ (addP p W k).length ≤ 256) (fun _ iv _ => n - (intOf iv).toNat)
  case atStart =>
    refine ⟨0, g, c, by omega, rfl, ?_, by rw [List.take_zero, used_nil]; exact HT.out, Below.refl _ _, HWL.out⟩
    have h0 := HW.out.hd
    have := idx_getD HW.out.nodup (hd_len h0)
    rw [getD_any (hd_len h0) [] [0], h0] at this
    rw [List.take_zero]; show _ = Value.int .i64 ((W.idxOf [] : Nat) : Int); rw [this]; rfl
  case round =>
    obtain ⟨k, g, c, hk, rfl, rfl, htm, hbl, hln⟩ := hrel
    have HTM := Lib.hid htm
    have HBL := Lib.hid hbl
    have HLN := Lib.hid hln
    clear htm hbl hln HT
    have HBW0 : Hid (Below w0.heap.size w0 wr) := Lib.hid (HB.out.trans (HBL.out.mono HBB.out.1))
    by_cases hlt : k < n
    · have hkl : k < p.length := by rw [HL.out]; exact hlt
      obtain ⟨b1, o1, rfl, hcell⟩ := (HR.out.below HBW0.out).cell k hlt
      have hby := HBY.out (p.getD k 0) (getD_mem hkl)
      obtain ⟨b, hbe⟩ := Int.eq_ofNat_of_zero_le hby.1
      have hb255 : b < 256 := by omega
      have HSN := Lib.hid (used_snoc ps p hkl hbe)
      have HTK : Hid (p.take (k + 1) = p.take k ++ [(b : Int)]) := Lib.hid (by rw [take_snoc_getD hkl, hbe])
      rw [hbe] at hcell
      have HMT := Lib.hid (take_mem_addP HW.out (p := p) (k := k) (by omega))
      obtain ⟨q1, q2⟩ := mem_getD (d := []) HMT.out
      have HQ := Lib.hid (And.intro q1 q2)
      have hc0 := HTM.out.c0
      have hc1 := HTM.out.c1
      have hcu := HTM.out.cu b hb255
      have hfz := HTM.out.fz (2 + b)
      have hfz1 := HTM.out.fz 1
      have HMK := Lib.hid (HTM.out.mark hb255)
      have hmc0 := HMK.out.c0
      have HST : Hid ((addP p W (k + 1)) = if p.take (k + 1) ∈ addP p W k then addP p W k else addP p W k ++ [p.take (k + 1)]) := Lib.hid rfl
      have HND := Lib.hid (addP_nodup p HW.out.nodup k)
      have HCL := Lib.hid (addP_closed HW.out p k (by omega))
      have HSB := Lib.hid (tw_sub HW.out p k)
      have HMO := Lib.hid (addP_mono p W (show k + 1 ≤ p.length by omega))
      clear q1 q2 hby hbe
      by_cases hm : p.take (k + 1) ∈ addP p W k
      · have HM := Lib.hid hm
        clear hm
        have HXW : Hid ((addP p W k).getD ((addP p W k).idxOf (p.take k)) [] ++ [(b : Int)] = p.take (k + 1)) := Lib.hid (by rw [HQ.out.2, HTK.out])
        go_wp2_with (at_lookup; refine look_hit rfl _ _ rfl HMK.out.map rfl ((addP p W k).idxOf (p.take k)) (b : Int) rfl HQ.out.1 (by have := HLN.out; omega) (by omega) (by omega) _ HXW.out HM.out ?_)
        go_roundw
        case rel =>
          have e : addP p W (k + 1) = addP p W k := by rw [HST.out, if_pos HM.out]
          refine ⟨k + 1, g, c, by omega, by go_num, by rw [e], ?_, ?_, by rw [e]; exact HLN.out⟩
          · rw [e, ← HSN.out]; exact HMK.out
          · exact HBL.out.setCell (by exact HTM.out.bB) _
        case measure => simp [intOf]; omega
      · have HM := Lib.hid hm
        clear hm
        have HXW : Hid ((addP p W k).getD ((addP p W k).idxOf (p.take k)) [] ++ [(b : Int)] = p.take (k + 1)) := Lib.hid (by rw [HQ.out.2, HTK.out])
        by_cases hful : (addP p W k).length = 256
        · have hfi : ((addP p W k).length : Int) = 256 := by omega
          have hel : ((eqsL ps (addP p W k)).length : Int) = 256 := by rw [eqsL_len]; omega
          have hmc1 := HMK.out.c1
          rw [eqsL_len, hful] at hmc1
          have HF : Hid (decide ((addP p W p.length).length ≤ 256) = false) := Lib.hid (by
            rw [decide_eq_false_iff_not]
            have h1 := HMO.out
            rw [HST.out, if_neg HM.out, List.length_append, List.length_singleton] at h1
            omega)
          clear hful hfi hel hc1
          go_wp2_with (at_lookup; refine look_miss rfl _ _ rfl HMK.out.map rfl ((addP p W k).idxOf (p.take k)) (b : Int) rfl HQ.out.1 (by have := HLN.out; omega) (by omega) (by omega) _ HXW.out HM.out ?_)
          go_ret
          refine ⟨ret_eq (by rw [HF.out]; rfl), HBL.out.setCell HTM.out.bB _, fun h => ?_⟩
          have := HF.out
          rw [decide_eq_false_iff_not] at this
          exact absurd h this
        · have hful2 : (addP p W k).length < 256 := by have := HLN.out; omega
          have hmc1 := HMK.out.c1
          rw [eqsL_len] at hmc1
          have hn256 : (((addP p W k).length : Int) == 256) = false := by simp; omega
          have HBM : Hid (Below B w (wr.setCell ⟨bt, 2 + b, none⟩ (.bool true))) := Lib.hid (HBL.out.setCell HTM.out.bB _)
          have hbtm : some bt ≠ some bm := by have := HTM.out.mb; simp; omega
          have hbtg : some bt ≠ some g := by have := HTM.out.gb; simp; omega
          have HNE := Lib.hid (And.intro hbtm hbtg)
          have hmf1 := HMK.out.fz 1
          clear hcu hfz hbtm hbtg hc0 hc1 hfz1
          obtain ⟨wm, hwm⟩ : ∃ wm, wm = wr.setCell ⟨bt, 2 + b, none⟩ (.bool true) := ⟨_, rfl⟩
          have hcu := HTM.out.cu b hb255
          have hfz := HTM.out.fz (2 + b)
          have hc0 := HTM.out.c0
          have hc1 := HTM.out.c1
          have HWM := Lib.hid hwm
          rw [← hwm] at HMK HBM hmc0 hmc1 hmf1
          clear hwm hmc0 hmc1 hmf1
          have HOM : Hid (Own wm B 3 .i64 (.slice (some ⟨g, 0, none⟩) (eqsL ps (addP p W k)).length c) (eqsL ps (addP p W k))) := Lib.hid HMK.out.own
          have HSZM : Hid (B ≤ wm.heap.size) := Lib.hid (by have := HBM.out.size; have := HBB.out.2; omega)
          have HMF : Hid (wm.frozen? ⟨bt, 1, none⟩ = false) := Lib.hid (HMK.out.fz 1)
          have HGM : Hid (g ≠ bm) := Lib.hid HTM.out.gm
          go_wp2_with (first
            | (at_lookup; rw [← HWM.out]; refine look_miss rfl _ _ rfl HMK.out.map rfl ((addP p W k).idxOf (p.take k)) (b : Int) rfl HQ.out.1 (by have := HLN.out; omega) (by omega) (by omega) _ HXW.out HM.out ?_; have hmc0 := HMK.out.c0; have hmc1 := HMK.out.c1; rw [eqsL_len] at hmc1; clear hcu hfz hc0 hc1)
            | (at_mapUpdate; refine upd_edge rfl _ _ _ rfl HMK.out.map HND.out HCL.out rfl ((addP p W k).idxOf (p.take k)) (b : Int) rfl rfl HQ.out.1 (by have := HLN.out; omega) (by omega) (by omega) _ HXW.out HM.out ?_; intro w1 D1 hm1 hg1 hd1; have gc1 := hg1.cell hmc1 HNE.out.1; have HM1 := Lib.hid hm1; have HG1 := Lib.hid hg1; have HD1 := Lib.hid hd1; have hgc := below_cell (below_alloc w1 (.cells #[.int .i64 0] 3)) gc1; clear hm1 hg1 hd1 hmc1 hmc0; have HO1 : Hid (Row w1 B 3 1 (.slice (some ⟨g, 0, none⟩) (addP p W k).length c) (addP p W k).length ((eqsL ps (addP p W k)).map (Value.int .i64))) := Lib.hid (by have h := World.ownsRow.kept HOM.out HG1.out (.inr (fun e => HGM.out (Option.some.inj e))); rw [eqsL_len] at h; exact h); have HSZ : Hid (B ≤ (w1.alloc (.cells #[.int .i64 0] 3)).heap.size) := Lib.hid (Nat.le_trans HSZM.out (Nat.le_trans HG1.out.size (below_alloc w1 _).size)))
            | (at_builtin; refine app_row_at (.tmp 53) (.tmp 54) EIG rfl rfl B (.slice (some ⟨g, 0, none⟩) (addP p W k).length c) (addP p W k).length _ rfl (Row.alloc HO1.out _) _ 1 _ [.int .i64 0] rfl (RdG.lits w1 1 3 1 [.int .i64 0] rfl) (by simp [Value.oneCell']) (by omega) (by decide) HSZ.out ?_; intro a7 c7 w7 hr7 hg7 hat7; have hc7 := hg7.cell hgc HNE.out.2; have hf7 : w7.frozen? ⟨bt, 1, none⟩ = false := (World.frozen?_of_block (w := w1.alloc (.cells #[.int .i64 0] 3)) (hg7.block bt (World.block_lt_of_cell? _ _ hgc) HNE.out.2)).trans (((below_alloc w1 _).frozen (World.block_lt_of_cell? _ _ gc1)).trans ((World.frozen?_of_block (w := wm) (HG1.out.block bt HMK.out.lt HNE.out.1)).trans HMF.out)); have HR7 := Lib.hid hr7; have HG7 := Lib.hid hg7; have HAT7 := Lib.hid hat7; clear hr7 hg7 hat7))
          obtain ⟨ho8, hat8⟩ := own_app (eqsL_len ps _).symm HR7.out HAT7.out
          obtain ⟨g8, hg8, htm8, hfr8⟩ := HMK.out.push HM1.out HG1.out HD1.out (below_alloc w1 _) ho8 HG7.out hat8
          have HE8 : Hid ((addP p W k).length + 1 = (eqsL ps (addP p W k) ++ [0]).length) := Lib.hid (by simp [eqsL_len])
          rw [HE8.out]
          have HT8 := Lib.hid htm8
          have HF8 := Lib.hid hfr8
          clear ho8 hat8 htm8 hfr8 hc7 hf7 gc1 hgc hcell
          subst hg8
          go_roundw
          case rel =>
            have e : addP p W (k + 1) = addP p W k ++ [p.take (k + 1)] := by rw [HST.out, if_neg HM.out]
            refine ⟨k + 1, g8, c7, by omega, by go_num, ?_, ?_, ?_, by rw [e]; simp; omega⟩
            · rw [e, idx_new HM.out]
            · rw [e, ← HSN.out, eqsL_new HSB.out HM.out]; exact HT8.out
            · exact HBM.out.trans (tm_below HF8.out HTM.out.bB HTM.out.mB HTM.out.gB.1 HSZM.out)
          case measure => simp [intOf]; omega
    · have hkn : k = n := by omega
      subst hkn
      have HKL : Hid (p.take k = p) := Lib.hid (List.take_of_length_le (by rw [HL.out]; omega))
      have hpm := take_mem_addP HW.out (p := p) (k := k) (by rw [HL.out]; omega)
      rw [HKL.out] at hpm HTM ⊢
      have HPM := Lib.hid hpm
      have hc1 := HTM.out.c1
      have hce := Own.cellAt HTM.out.own (i := (addP p W k).idxOf p) (x := (eqs ps p : Int)) rfl (eqsL_get hpm)
      have hlt2 : (((addP p W k).idxOf p : Nat) : Int) < ((eqsL ps (addP p W k)).length : Nat) := by
        have := (mem_getD (d := []) hpm).1
        rw [eqsL_len]; omega
      have hle := eqs_le ps p
      have hwr : IntKind.i64.wrap ((eqs ps p : Int) + 1) = (eqs ps p : Int) + 1 := IntWalk.i64_in _ (by have := HPS.out; omega)
      clear hpm hle
      go_wp2_with (refine store_int rfl 3 .i64 (.tmp 68) (.tmp 67) rfl g ((addP p W k).idxOf p) rfl ((eqs ps p : Int) + 1) rfl (by kernel_rfl) B _ _ _ _ HTM.out.own rfl (by rw [eqsL_len]; exact (mem_getD (d := []) HPM.out).1) ?_)
      intro w7 ho7 hg7
      have HT7 := Lib.hid (HTM.out.inc (by simp) ho7 hg7)
      have HB7 := Lib.hid (HBL.out.grown hg7 (by have := HBL.out.size; have := HBB.out.2; omega) (fun x hx => by cases hx; exact HTM.out.gB.1))
      clear ho7 hg7 hwr hce hc1
      go_wp2
      go_ret
      have hlk := HLN.out
      refine ⟨ret_eq (by rw [HL.out, decide_eq_true hlk]; rfl), HB7.out, fun _ => ⟨g, c, ?_⟩⟩
      rw [HL.out, ← eqsL_inc (addP_nodup p HW.out.nodup k) HPM.out]
      exact HT7.out

end Go.Proofs.Ytflgmodofemifaa

/- the machine of a trie: what the walk of (*trie).machine carries. -/
namespace Go.Proofs.Ytflgmodofemifaa
open Go.RowKit Go.Maps
set_option linter.unusedVariables false
set_option linter.unusedSimpArgs false

theorem EU8 : EltG Try.prog 22 5 (.int .u8 0) 1 1 := ⟨Try.underlying22, info_parts (by kernel_rfl), rfl, by decide⟩
theorem EBG : EltG Try.prog 30 4 (.bool false) 1 1 := ⟨Try.underlying30, info_parts (by kernel_rfl), rfl, by decide⟩
theorem ESI : EltG Try.prog 29 28 (.slice none 0 0) 1 24 := ⟨Try.underlying29, info_parts (by kernel_rfl), rfl, by decide⟩

/-- numbers as cells -/
abbrev vi (l : List Int) : List Value := l.map (Value.int .i64)
abbrev vu (l : List Int) : List Value := l.map (Value.int .u8)

/-- the array of marks -/
def arrU (U : Nat → Bool) : List Value := (List.range 256).map fun b => .bool (U b)
theorem arr_len (U) : (arrU U).length = 256 := by simp [arrU]
theorem arr_get (U : Nat → Bool) {b : Nat} (hb : b < 256) : (arrU U)[b]? = some (.bool (U b)) := by simp [arrU, hb]
theorem arr_info (U) : (Try.prog.info? 54).map (·.size) = some (arrU U).length := by rw [arr_len]; kernel_rfl
theorem arr_index (U : Nat → Bool) {b : Nat} (hb : b < 256) (w : World) : (Instr.index 54 (.agg (arrU U).toArray) (.int .i64 (b : Int))).run Try.prog w = .ok (.bool (U b)) w := by
  have hsz : (sizeOf 4).run Try.prog w = .ok 1 w := by kernel_rfl
  have hagg : (isAgg 4).run Try.prog w = .ok false w := by kernel_rfl
  have h0 : (0 : Int) ≤ (b : Int) := by omega
  have h1 : (b : Int) < 256 := by omega
  have hg : (arrU U).toArray[b]? = some (.bool (U b)) := by simpa using arr_get U hb
  have hgd : (arrU U)[b]'(by rw [arr_len]; exact hb) = .bool (U b) := by have := arr_get U hb; rw [List.getElem?_eq_getElem (by rw [arr_len]; exact hb)] at this; exact Option.some.inj this
  unfold Instr.index
  simp [asIntOf, run_underlying Try.underlying54, Result.andThen, h0, h1, part, hsz, hagg, hgd, arr_len, hb]

/-- the trie's block and its map -/
structure TN (N : Nat → Prop) (w : World) (bt bm : Nat) (ve : Value) (W : List (List Int)) (U : Nat → Bool) : Prop where
  c0 : w.cell? ⟨bt, 0, none⟩ = some (.map (some bm))
  c1 : w.cell? ⟨bt, 1, none⟩ = some ve
  cu : ∀ b, b < 256 → w.cell? ⟨bt, 2 + b, none⟩ = some (.bool (U b))
  map : ∃ D : DataW Unit, w.ownsMap Try.prog 103 (plainElem Try.prog 3) bm W.length D ∧ MapIs D W
  nt : N bt
  nm : N bm
theorem TN.fr {N w w' bt bm ve W U} {S : Nat → Prop} (h : TN N w bt bm ve W U) (hf : Fr S w w') (hS : ∀ i, S i → ¬ N i) : TN N w' bt bm ve W U := by
  obtain ⟨D, m1, m2⟩ := h.map
  have h1 : ¬ S bt := fun hc => hS _ hc h.nt
  have h2 : ¬ S bm := fun hc => hS _ hc h.nm
  exact ⟨hf.cell h.c0 h1, hf.cell h.c1 h1, fun b hb => hf.cell (h.cu b hb) h1, ⟨D, ownsMap_fr m1 hf h2, m2⟩, h.nt, h.nm⟩
theorem TN.frN {N w w' bt bm ve W U} (h : TN N w bt bm ve W U) (hf : Fr (fun b => ¬ N b) w w') : TN N w' bt bm ve W U := h.fr hf fun _ hi => hi
theorem TN.below {N w w' bt bm ve W U} (h : TN N w bt bm ve W U) (hb : Below w.heap.size w w') : TN N w' bt bm ve W U := h.fr (S := fun _ => False) (.of_below hb) fun _ hi => hi.elim
theorem TN.range {N w bt bm ve W U} (h : TN N w bt bm ve W U) : w.rangeAt bt 2 (arrU U) := fun j v hv => by
  have hj : j < 256 := by have := (List.getElem?_eq_some_iff.1 hv).1; rwa [arr_len] at this
  rw [arr_get U hj] at hv
  cases hv
  exact h.cu j hj
theorem TN.mono {N N' : Nat → Prop} {w bt bm ve W U} (h : TN N w bt bm ve W U) (hN : ∀ b, N b → N' b) : TN N' w bt bm ve W U := ⟨h.c0, h.c1, h.cu, h.map, hN _ h.nt, hN _ h.nm⟩

/-- the machine's block -/
structure QN (N : Nat → Prop) (w : World) (bq : Nat) (vc vx va : Value) : Prop where
  q0 : w.cell? ⟨bq, 0, none⟩ = some (.int .i64 0)
  q1 : w.cell? ⟨bq, 1, none⟩ = some vc
  q2 : w.cell? ⟨bq, 2, none⟩ = some vx
  q3 : w.cell? ⟨bq, 3, none⟩ = some va
  fz : ∀ j, w.frozen? ⟨bq, j, none⟩ = false
  nq : N bq
theorem QN.fr {N w w' bq vc vx va} {S : Nat → Prop} (h : QN N w bq vc vx va) (hf : Fr S w w') (hS : ∀ i, S i → ¬ N i) : QN N w' bq vc vx va := by
  have h1 : ¬ S bq := fun hc => hS _ hc h.nq
  exact ⟨hf.cell h.q0 h1, hf.cell h.q1 h1, hf.cell h.q2 h1, hf.cell h.q3 h1, fun j => (hf.frozen (x := ⟨bq, j, none⟩) (World.block_lt_of_cell? w ⟨bq, 0, none⟩ h.q0) h1).trans (h.fz j), h.nq⟩
theorem QN.frN {N w w' bq vc vx va} (h : QN N w bq vc vx va) (hf : Fr (fun b => ¬ N b) w w') : QN N w' bq vc vx va := h.fr hf fun _ hi => hi
theorem QN.below {N w w' bq vc vx va} (h : QN N w bq vc vx va) (hb : Below w.heap.size w w') : QN N w' bq vc vx va := h.fr (S := fun _ => False) (.of_below hb) fun _ hi => hi.elim
theorem QN.set2 {N w bq vc vx va} (h : QN N w bq vc vx va) (u : Value) : QN N (w.setCell ⟨bq, 2, none⟩ u) bq vc u va :=
  ⟨set_other (by simp) h.q0, set_other (by simp) h.q1, set_same h.q2, set_other (by simp) h.q3, fun j => by rw [World.frozen?_setCell]; exact h.fz j, h.nq⟩
theorem QN.set3 {N w bq vc vx va} (h : QN N w bq vc vx va) (u : Value) : QN N (w.setCell ⟨bq, 3, none⟩ u) bq vc vx u :=
  ⟨set_other (by simp) h.q0, set_other (by simp) h.q1, set_other (by simp) h.q2, set_same h.q3, fun j => by rw [World.frozen?_setCell]; exact h.fz j, h.nq⟩
theorem QN.setq {N w b vc vx va} (h : QN N w b vc vx va) {bq : Nat} (hb : b ≠ bq) (j : Nat) (u : Value) : QN N (w.setCell ⟨bq, j, none⟩ u) b vc vx va :=
  ⟨set_other (by simp only [ne_eq, Addr.mk.injEq]; omega) h.q0, set_other (by simp only [ne_eq, Addr.mk.injEq]; omega) h.q1, set_other (by simp only [ne_eq, Addr.mk.injEq]; omega) h.q2, set_other (by simp only [ne_eq, Addr.mk.injEq]; omega) h.q3, fun j => by rw [World.frozen?_setCell]; exact h.fz j, h.nq⟩
theorem fr_setN {N : Nat → Prop} {w : World} {b j : Nat} {u : Value} (hb : N b) : Fr N w (w.setCell ⟨b, j, none⟩ u) := fr_set.mono fun i hi => hi ▸ hb
/-- the trie stays while the machine's block is written -/
theorem TN.setq {N w bt bm ve W U bq} (h : TN N w bt bm ve W U) (h1 : bt ≠ bq) (h2 : bm ≠ bq) (j : Nat) (u : Value) : TN N (w.setCell ⟨bq, j, none⟩ u) bt bm ve W U := by
  obtain ⟨D, m1, m2⟩ := h.map
  exact ⟨set_other (by simp only [ne_eq, Addr.mk.injEq]; omega) h.c0, set_other (by simp only [ne_eq, Addr.mk.injEq]; omega) h.c1, fun b hb => set_other (by simp only [ne_eq, Addr.mk.injEq]; omega) (h.cu b hb), ⟨D, ownsMap_fr m1 fr_set h2, m2⟩, h.nt, h.nm⟩

/-- a family of eight rows and those of the machine behind them -/
theorem at8 {x0 x1 x2 x3 x4 x5 x6 x7 : Option Rw} {rs : List (Option Rw)} {e v xs} {k : Nat} (hk : rs.length = k) : AtR (x0 :: x1 :: x2 :: x3 :: x4 :: x5 :: x6 :: x7 :: (rs ++ [some (e, v, xs)])) (k + 8) e v xs := by
  show (rs ++ [some (e, v, xs)])[k]? = _
  rw [List.getElem?_append_right (by omega), hk, Nat.sub_self]; rfl
theorem set8 {x0 x1 x2 x3 x4 x5 x6 x7 a b : Option Rw} {rs : List (Option Rw)} {k : Nat} (hk : rs.length = k) : (x0 :: x1 :: x2 :: x3 :: x4 :: x5 :: x6 :: x7 :: (rs ++ [a])).set (k + 8) b = x0 :: x1 :: x2 :: x3 :: x4 :: x5 :: x6 :: x7 :: (rs ++ [b]) := by
  show x0 :: x1 :: x2 :: x3 :: x4 :: x5 :: x6 :: x7 :: ((rs ++ [a]).set k b) = _
  rw [List.set_append, if_neg (by omega), hk, Nat.sub_self]; rfl
theorem at8i {x0 x1 x2 x3 x4 x5 x6 x7 : Option Rw} {rs : List (Option Rw)} {r : Option Rw} {e v xs} {i : Nat} (hi : rs[i]? = some (some (e, v, xs))) : AtR (x0 :: x1 :: x2 :: x3 :: x4 :: x5 :: x6 :: x7 :: (rs ++ [r])) (i + 8) e v xs := by
  show (rs ++ [r])[i]? = _
  rw [List.getElem?_append_left (List.getElem?_eq_some_iff.1 hi).1]; exact hi

/-- the machine's rows: where each lies -/
def Rows8 (xs : List Value) (rs : List (Option Rw)) (R : List (List Int)) (k m : Nat) : Prop :=
  xs.length = k ∧ rs.length = k ∧ ∀ i, i < k → ∃ g c, xs[i]? = some (.slice (some ⟨g, 0, none⟩) m c) ∧ rs[i]? = some (some (3, .slice (some ⟨g, 0, none⟩) m c, vi (R.getD i [])))
theorem Rows8.push {xs rs R k m} (h : Rows8 xs rs R k m) (hR : R.length = k) (g c : Nat) (row : List Int) : Rows8 (xs ++ [.slice (some ⟨g, 0, none⟩) m c]) (rs ++ [some (3, .slice (some ⟨g, 0, none⟩) m c, vi row)]) (R ++ [row]) (k + 1) m := by
  obtain ⟨h1, h2, h3⟩ := h
  refine ⟨by simp [h1], by simp [h2], fun i hi => ?_⟩
  by_cases e : i < k
  · obtain ⟨g', c', a1, a2⟩ := h3 i e
    refine ⟨g', c', by rw [List.getElem?_append_left (by omega)]; exact a1, ?_⟩
    rw [List.getElem?_append_left (by omega), a2]
    simp [List.getD, List.getElem?_append, hR, e]
  · obtain rfl : i = k := by omega
    refine ⟨g, c, by rw [List.getElem?_append_right (by omega), h1]; simp, ?_⟩
    rw [List.getElem?_append_right (by omega), h2]
    simp [List.getD, ← hR]

theorem fr_setCells {b : Nat} : ∀ (vs : List Value) (o : Nat) (w : World), Fr (fun i => i = b) w (w.setCells b o vs)
  | [], o, w => Fr.refl _ _
  | v :: r, o, w => by
    rw [World.setCells]
    exact fr_set.trans (fr_setCells r (o + 1) _)
theorem QN.range {N w bq vc vx va} (h : QN N w bq vc vx va) : w.rangeAt bq 0 [.int .i64 0, vc, vx, va] := fun j v hv => by
  rcases j with _ | _ | _ | _ | j
  · cases hv; exact h.q0
  · cases hv; exact h.q1
  · cases hv; exact h.q2
  · cases hv; exact h.q3
  · simp at hv
theorem QN.there {N w bq vc vx va} (h : QN N w bq vc vx va) : w.there bq 0 4 := fun j hj => by
  refine ⟨?_, by rw [Nat.zero_add]; exact h.fz j⟩
  rcases j with _ | _ | _ | _ | j
  · rw [h.q0]; rfl
  · rw [h.q1]; rfl
  · rw [h.q2]; rfl
  · rw [h.q3]; rfl
  · omega
theorem mach_info : (Try.prog.info? 32).map (·.size) = some 4 := by kernel_rfl

theorem RF.rd {B N w l} (h : RF B N w l) {i e a n c} {k : IntKind} {ls : List Int} (hi : AtR l i e (.slice a n c) (ls.map (Value.int k))) (hw : ∀ x ∈ ls, (Lit.int k x).wf = true) : Rd w k a n ls := by
  have hr := h.own i _ _ _ hi
  have hn := h.len hi
  rw [List.length_map] at hn hr
  subst hn
  exact Own.rd (base := B) (e := e) (c := c) hr hw
theorem RF.cap {B N w l} (h : RF B N w l) {i e a n c xs} (hi : AtR l i e (.slice a n c) xs) : n ≤ c := Row.cap (h.own i _ _ _ hi)

/-- the classes up to k, zeros behind -/
def clsPad (U : Nat → Bool) (k : Nat) : List Int := clsTo U k ++ List.replicate (256 - k) 0
theorem clsPad_len (U) {k : Nat} (hk : k ≤ 256) : (clsPad U k).length = 256 := by simp [clsPad, clsTo_len]; omega
theorem clsPad_zero (U) : clsPad U 0 = List.replicate 256 0 := rfl
theorem clsPad_end (U) : clsPad U 256 = clsTo U 256 := by simp [clsPad]
theorem clsPad_used {U : Nat → Bool} {k : Nat} (hk : k < 256) (hu : U k = true) : (clsPad U k).set k ((letsTo U (k + 1)).length : Int) = clsPad U (k + 1) := by
  unfold clsPad
  rw [clsTo_succ, if_pos hu, List.set_append, if_neg (by rw [clsTo_len]; omega), clsTo_len, Nat.sub_self]
  rw [show 256 - k = (256 - (k + 1)) + 1 by omega, List.replicate_succ, List.set_cons_zero]
  simp
theorem clsPad_unused {U : Nat → Bool} {k : Nat} (hk : k < 256) (hu : U k = false) : clsPad U (k + 1) = clsPad U k := by
  unfold clsPad
  rw [clsTo_succ, hu]
  simp only [Bool.false_eq_true, if_false]
  rw [show 256 - k = (256 - (k + 1)) + 1 by omega, List.replicate_succ]
  simp

end Go.Proofs.Ytflgmodofemifaa

/- (*trie).machine: the walk. -/
namespace Go.Proofs.Ytflgmodofemifaa
open Go.RowKit Go.Maps
set_option linter.unusedVariables false
set_option linter.unusedSimpArgs false

/-- what is handed back: a machine and its hits, as they are read -/
def MachPost (ps : List (List Int)) (B : Nat) (w : World) (e : Ending) (w' : World) : Prop :=
  ∃ ac an cn aa ca ah ch, e = .returned (.tuple #[.agg #[.int .i64 0, .slice ac 256 256, .slice an (prefs ps).length cn, .slice aa (prefs ps).length ca], .slice ah (prefs ps).length ch]) ∧
    (∀ w2, Fr (fun i => i < B) w' w2 → RdM w2 ac 256 an (prefs ps).length aa (prefs ps).length (litC ps) (litN ps) (litA ps) ∧ Rd w2 .i64 ah (prefs ps).length (litH ps)) ∧ Below B w w'

set_option maxRecDepth 100000 in
set_option maxHeartbeats 8000000 in
theorem mach_any (B bt bm g c : Nat) (w : World) (ps W : List (List Int)) (hT : TM B w bt bm g c W (eqsL ps W) (usedB ps)) (hW : Tw ps W) (hl : W.length ≤ 256) (hps : ps.length < 4294967296) (hby : Byt ps) (hBw : B ≤ w.heap.size) :
    Calls Try.prog 16 #[.pointer (some ⟨bt, 0, none⟩)] w (MachPost ps B w) := by
  have HT := Lib.hid hT
  have HW := Lib.hid hW
  have HWL := Lib.hid hl
  have HPS := Lib.hid hps
  have HBY := Lib.hid hby
  -- the blocks: the trie's, its map, the result's cell
  obtain ⟨N0, hN0⟩ : ∃ N0 : Nat → Prop, N0 = fun b => b = bt ∨ b = bm := ⟨_, rfl⟩
  have hrf0 : RF B N0 w [some (3, .slice (some ⟨g, 0, none⟩) W.length c, vi (eqsL ps W))] := by
    have hE : (vi (eqsL ps W)).length = W.length := by simp [eqsL_len]
    refine RF.one ?_ (fun g' hg => ?_) (fun b hb => ?_) hBw
    · rw [hE]
      have := hT.own
      unfold Own at this
      rw [eqsL_len] at this
      exact this
    · cases hg
      rw [hN0]
      rintro (e | e)
      · exact hT.gb e
      · exact hT.gm e
    · rw [hN0] at hb
      rcases hb with rfl | rfl
      · exact hT.lt
      · exact hT.mlt
  have htn0 : TN N0 w bt bm (.slice (some ⟨g, 0, none⟩) W.length c) W (usedB ps) := by
    have h1 := hT.c1
    rw [eqsL_len] at h1
    exact ⟨hT.c0, h1, hT.cu, hT.map, by rw [hN0]; exact .inl rfl, by rw [hN0]; exact .inr rfl⟩
  obtain ⟨w1, hw1⟩ : ∃ w1, w1 = w.alloc (.cells #[.int .i64 0, .slice none 0 0, .slice none 0 0, .slice none 0 0] 32) := ⟨_, rfl⟩
  have HB1 := Lib.hid (show Below w.heap.size w w1 by rw [hw1]; exact below_alloc _ _)
  have hrf1 := hrf0.addN (.cells #[.int .i64 0, .slice none 0 0, .slice none 0 0, .slice none 0 0] 32)
  have htn1 := (htn0.below HB1.out).mono (N' := fun b => N0 b ∨ b = w.heap.size) (fun b hb => .inl hb)
  rw [← hw1] at hrf1
  have HR1 := Lib.hid hrf1
  have HTN1 := Lib.hid htn1
  have hz1 : QN (fun b => N0 b ∨ b = w.heap.size) w1 w.heap.size (.slice none 0 0) (.slice none 0 0) (.slice none 0 0) := by
    rw [hw1]
    exact ⟨by simp, by simp, by simp, by simp, fun j => by simp, .inr rfl⟩
  have HZ1 := Lib.hid hz1
  have HW1 := Lib.hid hw1
  have HBW := Lib.hid hBw
  clear hT hW hl hps hby hBw hw1 hrf0 htn0 hrf1 htn1 hz1
  go_enter Try.func16, Try.ntmps16
  go_wp2_with (first
    | (at_make; rw [← HW1.out]; refine RF.make HR1.out EIG rfl rfl _ _ rfl _ _ _ _ 256 rfl rfl rfl rfl (by decide) (by decide) ?_; intro w2 hrf2 hb2 hsz2; have htn2 := (HTN1.out.below hb2).below (below_alloc w2 (.cells #[.int .i64 0, .slice (some ⟨w1.heap.size, 0, none⟩) 256 256, .slice none 0 0, .slice none 0 0] 32)); have hrng := htn2.range; have HR2 := Lib.hid hrf2; have HB2 := Lib.hid hb2; have HSZ2 := Lib.hid hsz2; have HTN2 := Lib.hid htn2; clear hrf2 hb2 hsz2 htn2)
    | (refine wpList_load_mid rfl 54 _ rfl bt 2 rfl (arrU (usedB ps)) _ hrng Try.underlying54 rfl (arr_info _) ?_; clear hrng))
  -- the marks: letters, classes
  obtain ⟨bq, hbq⟩ : ∃ bq, bq = w2.heap.size := ⟨_, rfl⟩
  obtain ⟨gc, hgc⟩ : ∃ gc, gc = w1.heap.size := ⟨_, rfl⟩
  obtain ⟨N, hN⟩ : ∃ N : Nat → Prop, N = fun b => (N0 b ∨ b = w.heap.size) ∨ b = bq := ⟨_, rfl⟩
  obtain ⟨w3, hw3⟩ : ∃ w3, w3 = w2.alloc (.cells #[.int .i64 0, .slice (some ⟨w1.heap.size, 0, none⟩) 256 256, .slice none 0 0, .slice none 0 0] 32) := ⟨_, rfl⟩
  have hrf3 := HR2.out.addN (.cells #[.int .i64 0, .slice (some ⟨w1.heap.size, 0, none⟩) 256 256, .slice none 0 0, .slice none 0 0] 32)
  have htn3 : TN N w3 bt bm (.slice (some ⟨g, 0, none⟩) W.length c) W (usedB ps) := by rw [hw3, hN]; exact HTN2.out.mono fun b hb => .inl hb
  have hqn3 : QN N w3 bq (.slice (some ⟨gc, 0, none⟩) 256 256) (.slice none 0 0) (.slice none 0 0) := by
    rw [hw3, hbq, hgc]
    exact ⟨by simp, by simp, by simp, by simp, fun j => by simp, by rw [hN]; exact .inr hbq.symm⟩
  have hbl3 : Below w1.heap.size w1 w3 := by rw [hw3]; exact HB2.out.alloc (by have := HSZ2.out; omega) _
  rw [← hw3] at hrf3 ⊢
  rw [← hgc, ← hbq] at hrf3
  have hrf4 : RF B N w3 [some (3, .slice (some ⟨g, 0, none⟩) W.length c, vi (eqsL ps W)), some (3, .slice (some ⟨gc, 0, none⟩) 256 256, vi (clsPad (usedB ps) 0)), some (5, .slice none 0 0, []), some (28, .slice none 0 0, []), some (4, .slice none 0 0, [])] := by
    have h := ((hrf3.new (e := 5) (v := .slice none 0 0) (xs := []) (World.ownsRow_nil _ _ _ _) (Below.refl _ _) (.inr rfl)).new (e := 28) (v := .slice none 0 0) (xs := []) (World.ownsRow_nil _ _ _ _) (Below.refl _ _) (.inr rfl)).new (e := 4) (v := .slice none 0 0) (xs := []) (World.ownsRow_nil _ _ _ _) (Below.refl _ _) (.inr rfl)
    rw [hN]
    simp only [List.append_assoc, List.cons_append, List.nil_append] at h
    rw [clsPad_zero, show vi (List.replicate 256 0) = List.replicate 256 (.int .i64 0) from List.map_replicate]
    exact h
  have hz3 : QN N w3 w.heap.size (.slice none 0 0) (.slice none 0 0) (.slice none 0 0) := by
    have h := HZ1.out.below hbl3
    rw [hN]
    exact ⟨h.q0, h.q1, h.q2, h.q3, h.fz, .inl (.inr rfl)⟩
  have HZ3 := Lib.hid hz3
  have HR3 := Lib.hid hrf4
  have HTN3 := Lib.hid htn3
  have HQ3 := Lib.hid hqn3
  have HBL3 := Lib.hid hbl3
  have HN := Lib.hid hN
  have HBQ := Lib.hid hbq
  have HGC := Lib.hid hgc
  have HNE : Hid (bt ≠ bq ∧ bm ≠ bq ∧ w.heap.size ≠ bq ∧ B ≤ bq) := Lib.hid (by
    have h1 := HT.out.lt
    have h2 := HT.out.mlt
    have h3 : w1.heap.size = w.heap.size + 1 := by rw [HW1.out]; simp
    have h4 := HB2.out.size
    have h5 := HBW.out
    omega)
  rw [← hgc, ← hbq]
  clear hrf3 htn3 hqn3 hbl3 hN hbq hgc hw3 hrf4 hz3
  go_loopg [5, 26] 256 (fun gh lv iv wr => ∃ (k : Nat) (la : Option Addr) (ln lc : Nat), k ≤ 256 ∧ gh = 256 - k ∧ iv = .int .i64 k ∧ lv = .slice la ln lc ∧ RF B N wr [some (3, .slice (some ⟨g, 0, none⟩) W.length c, vi (eqsL ps W)), some (3, .slice (some ⟨gc, 0, none⟩) 256 256, vi (clsPad (usedB ps) k)), some (5, .slice la ln lc, vu (letsTo (usedB ps) k)), some (28, .slice none 0 0, []), some (4, .slice none 0 0, [])] ∧ TN N wr bt bm (.slice (some ⟨g, 0, none⟩) W.length c) W (usedB ps) ∧ QN N wr bq (.slice (some ⟨gc, 0, none⟩) 256 256) (.slice none 0 0) (.slice none 0 0) ∧ Below B w1 wr ∧ QN N wr w.heap.size (.slice none 0 0) (.slice none 0 0) (.slice none 0 0))
  case atStart =>
    exact ⟨0, none, 0, 0, by omega, rfl, rfl, rfl, HR3.out, HTN3.out, HQ3.out, HBL3.out.mono (by have := HB1.out.size; have := HBW.out; omega), HZ3.out⟩
  case round =>
    obtain ⟨k, la, ln, lc, hk, rfl, rfl, rfl, hrf, htn, hqn, hbl, hx⟩ := hrel
    have HR := Lib.hid hrf
    have HTN := Lib.hid htn
    have HQ := Lib.hid hqn
    have HBL := Lib.hid hbl
    have HZ := Lib.hid hx
    clear hrf htn hqn hbl hx HR3 HTN3 HQ3
    by_cases hlt : k < 256
    · have hidx := fun w' => arr_index (usedB ps) hlt w'
      cases hu : usedB ps k with
      | false =>
        rw [hu] at hidx
        have HU := Lib.hid hu
        clear hu
        go_wp2
        go_roundg (256 - (k + 1))
        case measure => omega
        case rel =>
          refine ⟨k + 1, la, ln, lc, by omega, rfl, by go_num, rfl, ?_, HTN.out, HQ.out, HBL.out, HZ.out⟩
          rw [clsPad_unused hlt HU.out, letsTo_succ, HU.out]
          exact HR.out
      | true =>
        rw [hu] at hidx
        have HU := Lib.hid hu
        clear hu
        have hwk : IntKind.u8.wrap (k : Int) = k := by rw [IntKind.wrap_u8]; omega
        have HLN : Hid (ln = (vu (letsTo (usedB ps) k)).length) := Lib.hid (HR.out.len (i := 2) rfl)
        have hln : ln ≤ 256 := by have h := HLN.out; have h2 := letsTo_len (usedB ps) k; simp only [List.length_map] at h; omega
        go_wp2_with (first
          | (at_builtin; refine RF.append HR.out (i := 2) rfl ln HLN.out (below_alloc wr _) (.tmp 31) (.tmp 34) EU8 rfl rfl rfl _ 1 _ [.int .u8 (k : Int)] rfl (RdG.lits wr 1 5 1 [.int .u8 (k : Int)] rfl) (by simp [Value.oneCell']) (by omega) (by decide) ?_; intro a7 c7 w7 hrf7 hg7 hbl7 hfr7; have HR7 := Lib.hid hrf7; have HB7 := Lib.hid hbl7; have HF7 := Lib.hid hfr7; have hq1 := (HQ.out.frN hfr7).q1; clear hrf7 hg7 hbl7 hfr7)
          | (refine RF.store HR7.out (i := 1) rfl rfl 3 (.tmp 41) (.tmp 40) rfl k rfl _ rfl rfl rfl (by kernel_rfl) (by simp [clsPad_len _ hk]; omega) ?_; intro w8 hrf8 hg8 hbl8 hfr8; have HR8 := Lib.hid hrf8; have HB8 := Lib.hid hbl8; have HF8 := Lib.hid hfr8; clear hrf8 hg8 hbl8 hfr8))
        go_roundg (256 - (k + 1))
        case measure => omega
        case rel =>
          have e1 : letsTo (usedB ps) (k + 1) = letsTo (usedB ps) k ++ [(k : Int)] := by rw [letsTo_succ, if_pos HU.out]
          have e2 : ((ln : Int) + 1) = ((letsTo (usedB ps) (k + 1)).length : Int) := by
            have h := HLN.out
            rw [List.length_map] at h
            rw [e1, List.length_append, List.length_singleton]; omega
          refine ⟨k + 1, a7, ln + 1, c7, by omega, rfl, by go_num, rfl, ?_, (HTN.out.frN HF7.out).frN HF8.out, (HQ.out.frN HF7.out).frN HF8.out, (HBL.out.trans HB7.out).trans HB8.out, (HZ.out.frN HF7.out).frN HF8.out⟩
          rw [← clsPad_used hlt HU.out, ← e2, e1]
          have h := HR8.out
          rw [show vi ((clsPad (usedB ps) k).set k ((ln : Int) + 1)) = (vi (clsPad (usedB ps) k)).set k (.int .i64 ((ln : Int) + 1)) from List.map_set, show vu (letsTo (usedB ps) k ++ [(k : Int)]) = vu (letsTo (usedB ps) k) ++ [.int .u8 (k : Int)] from List.map_append]
          exact h
    · have hk2 : k = 256 := by omega
      subst hk2
      have HR0 : Hid (RF B N wr [some (3, .slice (some ⟨g, 0, none⟩) W.length c, vi (eqsL ps W)), some (3, .slice (some ⟨gc, 0, none⟩) 256 256, vi (litC ps)), some (5, .slice la ln lc, vu (litL ps)), some (28, .slice none 0 0, []), some (4, .slice none 0 0, [])]) := Lib.hid (by
        have h := HR.out
        rw [clsPad_end] at h; exact h)
      have HLN : Hid (ln = (litL ps).length) := Lib.hid (by have h := HR.out.len (i := 2) rfl; rw [List.length_map] at h; exact h)
      have hln : ln ≤ 256 := by have h := HLN.out; have h2 := letsTo_len (usedB ps) 256; unfold litL at h; omega
      have hWp : 0 < W.length := hd_len HW.out.hd
      have hWl : W.length ≤ 256 := HWL.out
      have ht1 := HTN.out.c1
      clear HR hlt hk
      go_wp2_with (first
        | (at_make; refine RF.makeLC HR0.out EIG rfl rfl _ _ rfl _ _ _ _ 1 W.length rfl rfl rfl rfl (by omega) (by omega) (by omega) ?_; intro w5 hrf5 hb5 hsz5; have HR5 := Lib.hid hrf5; have HB5 := Lib.hid hb5; clear hrf5 hb5 hsz5)
        | (at_make; refine RF.makeLC HR5.out EIG rfl rfl _ _ rfl _ _ _ _ 1 W.length rfl rfl rfl rfl (by omega) (by omega) (by omega) ?_; intro w6 hrf6 hb6 hsz6; have HR6 := Lib.hid hrf6; have HB6 := Lib.hid hb6; clear hrf6 hb6 hsz6)
        | (at_make; refine RF.makeLC HR6.out EIG rfl rfl _ _ rfl _ _ _ _ 0 W.length rfl rfl rfl rfl (by omega) (by omega) (by omega) ?_; intro w7 hrf7 hb7 hsz7; have HR7 := Lib.hid hrf7; have HB7 := Lib.hid hb7; clear hrf7 hb7 hsz7))
      have HB567 : Hid (Below wr.heap.size wr w7) := Lib.hid (bthen (bthen HB5.out HB6.out) HB7.out)
      obtain ⟨gn, hgn⟩ : ∃ gn, gn = wr.heap.size := ⟨_, rfl⟩
      obtain ⟨gf, hgf⟩ : ∃ gf, gf = w5.heap.size := ⟨_, rfl⟩
      obtain ⟨gh, hgh⟩ : ∃ gh, gh = w6.heap.size := ⟨_, rfl⟩
      rw [← hgn, ← hgf, ← hgh] at HR7 ⊢
      have HTN7 := Lib.hid (HTN.out.below HB567.out)
      have HQ7 := Lib.hid (HQ.out.below HB567.out)
      have HZ7 := Lib.hid (HZ.out.below HB567.out)
      have HBL7 := Lib.hid (bow HBL.out (by have := HB1.out.size; have := HBW.out; omega) (HB567.out.mono HBL.out.size))
      clear ht1 HR5 HR6 HR0 HTN HQ HZ HBL HB5 HB6 HB7 HB567 hgn hgf hgh
      go_loopg [9, 10, 11, 12] W.length (fun gg nv fv hv sv wr => ∃ (k n gn cn gf cf gh ch : Nat) (ax aa : Option Addr) (cx ca : Nat) (S : List (List Int)) (F : List Int) (R : List (List Int)) (H : List Int) (xs : List Value) (rs : List (Option Rw)),
        gg = W.length - k ∧ sv = .int .i64 k ∧ nv = .slice (some ⟨gn, 0, none⟩) n cn ∧ fv = .slice (some ⟨gf, 0, none⟩) n cf ∧ hv = .slice (some ⟨gh, 0, none⟩) k ch ∧ n = S.length ∧ St W (litL ps) ps k S F R H ∧ Rows8 xs rs R k (ln + 1) ∧
        RF B N wr (some (3, .slice (some ⟨g, 0, none⟩) W.length c, vi (eqsL ps W)) :: some (3, .slice (some ⟨gc, 0, none⟩) 256 256, vi (litC ps)) :: some (5, .slice la ln lc, vu (litL ps)) :: some (28, .slice ax k cx, xs) :: some (4, .slice aa k ca, H.map fun h => .bool (decide (0 < h))) ::
          some (3, .slice (some ⟨gn, 0, none⟩) n cn, vi (S.map fun x => (W.idxOf x : Int))) :: some (3, .slice (some ⟨gf, 0, none⟩) n cf, vi F) :: some (3, .slice (some ⟨gh, 0, none⟩) k ch, vi H) :: rs) ∧
        TN N wr bt bm (.slice (some ⟨g, 0, none⟩) W.length c) W (usedB ps) ∧ QN N wr bq (.slice (some ⟨gc, 0, none⟩) 256 256) (.slice ax k cx) (.slice aa k ca) ∧ QN N wr w.heap.size (.slice none 0 0) (.slice none 0 0) (.slice none 0 0) ∧ Below B w1 wr)
      case atStart =>
        refine ⟨0, 1, gn, W.length, gf, W.length, gh, W.length, none, none, 0, 0, [[]], [0], [], [], [], [], rfl, rfl, rfl, rfl, rfl, rfl, St.start HW.out.closed, ⟨rfl, rfl, fun i hi => by omega⟩, ?_, HTN7.out, HQ7.out, HZ7.out, HBL7.out⟩
        have h0 := HW.out.hd
        have h1 := idx_getD HW.out.nodup (hd_len h0)
        rw [getD_any (hd_len h0) [] [0], h0] at h1
        have h := HR7.out
        simp only [List.cons_append, List.nil_append] at h
        simp only [vi, List.map_cons, List.map_nil, h1]
        exact h
      case round =>
        clear HTN7 HQ7 HZ7 HBL7 HR7
        obtain ⟨k, n, gn, cn, gf, cf, gh, ch, ax, aa, cx, ca, S, F, R, H, xs, rs, rfl, rfl, rfl, rfl, rfl, hn, hst, hrows, hrf, htn, hqn, hzn, hbl⟩ := hrel
        have HS := Lib.hid hst
        have HRS := Lib.hid hrows
        have HR := Lib.hid hrf
        have HTN := Lib.hid htn
        have HQ := Lib.hid hqn
        have HZ := Lib.hid hzn
        have HBL := Lib.hid hbl
        have HNN := Lib.hid hn
        have hnW : n ≤ W.length := by rw [hn]; exact nodup_sub_len (sorted_nodup hst.bfs.srt) hst.bfs.mem
        have hkn := hst.bfs.kle
        rw [← hn] at hkn
        clear hst hrows hrf htn hqn hzn hbl hn
        by_cases hlt : k < n
        · have hkS : k < S.length := by rw [← HNN.out]; exact hlt
          obtain ⟨u, hu⟩ : ∃ u, u = S.getD k [] := ⟨_, rfl⟩
          have huW : u ∈ W := by rw [hu]; exact HS.out.bfs.mem _ (getD_mem' hkS)
          have hcn : wr.cell? ⟨gn, k, none⟩ = some (.int .i64 (W.idxOf u : Nat)) := HR.out.cell (i := 5) rfl (by
            rw [List.getElem?_map, List.getElem?_map, List.getElem?_eq_getElem hkS, hu]; simp [List.getD, hkS])
          have HU := Lib.hid hu
          have HUW := Lib.hid huW
          obtain ⟨henter, hfk⟩ := HS.out.enter HW.out.closed hkS
          have HEN := Lib.hid henter
          have HFK := Lib.hid hfk
          clear hu huW henter hfk
          have hkn2 : (k : Int) < (n : Int) := by omega
          go_upto_if 69 with (at_make; refine RF.make HR.out EIG rfl rfl _ _ rfl _ _ _ _ (ln + 1) rfl rfl (by omega) (by omega) (by omega) (by omega) ?_; intro w5 hrf5 hb5 hsz5; have HR5 := Lib.hid hrf5; have HB5 := Lib.hid hb5; clear hrf5 hb5 hsz5)
          obtain ⟨gr, hgr⟩ : ∃ gr, gr = wr.heap.size := ⟨_, rfl⟩
          rw [← hgr] at HR5 ⊢
          have HTN5 := Lib.hid (HTN.out.below HB5.out)
          have HQ5 := Lib.hid (HQ.out.below HB5.out)
          have HZ5 := Lib.hid (HZ.out.below HB5.out)
          have HBB : Hid (B ≤ w1.heap.size) := Lib.hid (by have := HB1.out.size; have := HBW.out; omega)
          have HBL5 : Hid (Below B w1 w5) := Lib.hid (bow HBL.out HBB.out (HB5.out.mono HBL.out.size))
          obtain ⟨row, hrow⟩ : ∃ row, row = baseRow (litL ps) k F R := ⟨_, rfl⟩
          have HROW := Lib.hid hrow
          have HRL : Hid (row.length = ln + 1) := Lib.hid (by rw [hrow, HLN.out]; exact HEN.out.wl)
          rw [← hrow] at HEN
          clear hcn HTN HQ HZ HBL hgr hrow
          go_cut [] (fun wc => RF B N wc (some (3, .slice (some ⟨g, 0, none⟩) W.length c, vi (eqsL ps W)) :: some (3, .slice (some ⟨gc, 0, none⟩) 256 256, vi (litC ps)) :: some (5, .slice la ln lc, vu (litL ps)) :: some (28, .slice ax k cx, xs) :: some (4, .slice aa k ca, H.map fun h => .bool (decide (0 < h))) ::
              some (3, .slice (some ⟨gn, 0, none⟩) n cn, vi (S.map fun x => (W.idxOf x : Int))) :: some (3, .slice (some ⟨gf, 0, none⟩) n cf, vi F) :: some (3, .slice (some ⟨gh, 0, none⟩) k ch, vi H) :: (rs ++ [some (3, .slice (some ⟨gr, 0, none⟩) (ln + 1) (ln + 1), vi row)])) ∧ Below B w5 wc ∧ Fr (fun b => ¬ N b) w5 wc)
          case first =>
            by_cases hk0 : k = 0
            · subst hk0
              have HE0 : Hid (vi row = List.replicate (ln + 1) (.int .i64 0)) := Lib.hid (by
                rw [HROW.out]; unfold baseRow vi; rw [if_pos rfl, List.map_replicate, HLN.out])
              go_wp2
              go_meet
              rw [HE0.out]
              exact ⟨HR5.out, Below.refl _ _, Fr.refl _ _⟩
            · have hkp : (0 : Int) < (k : Int) := by omega
              have hq2 := HQ5.out.q2
              have hfk := HFK.out (by omega)
              obtain ⟨fk, hfke⟩ : ∃ fk : Nat, F.getD k 0 = (fk : Int) := by
                have h := HS.out.fv k (by rw [← HNN.out]; exact hlt)
                exact ⟨_, h⟩
              rw [hfke, Int.toNat_natCast] at hfk
              have hfl := HS.out.fl
              rw [← HNN.out] at hfl
              have hcf : w5.cell? ⟨gf, k, none⟩ = some (.int .i64 (fk : Int)) := HR5.out.cell (i := 6) rfl (by
                rw [List.getElem?_map, List.getElem?_eq_getElem (show k < F.length by omega)]
                simp only [Option.map_some]
                rw [← hfke]; simp [List.getD, show k < F.length by omega])
              obtain ⟨gk, ck, hx1, hx2⟩ := HRS.out.2.2 fk hfk
              obtain ⟨gx, rfl⟩ := HR5.out.addr (i := 3) rfl (by rw [HRS.out.1]; omega)
              have hcx : w5.cell? ⟨gx, fk, none⟩ = some (.slice (some ⟨gk, 0, none⟩) (ln + 1) ck) := HR5.out.cell (i := 3) rfl hx1
              have hfkk : (fk : Int) < (k : Int) := by omega
              have HRK : Hid (vi row = vi (R.getD fk [])) := Lib.hid (by rw [HROW.out]; unfold baseRow; rw [if_neg hk0, hfke, Int.toNat_natCast])
              have HAK := Lib.hid (at8i (x0 := some (3, .slice (some ⟨g, 0, none⟩) W.length c, vi (eqsL ps W))) (x1 := some (3, .slice (some ⟨gc, 0, none⟩) 256 256, vi (litC ps))) (x2 := some (5, .slice la ln lc, vu (litL ps))) (x3 := some (28, .slice (some ⟨gx, 0, none⟩) k cx, xs)) (x4 := some (4, .slice aa k ca, H.map fun h => .bool (decide (0 < h)))) (x5 := some (3, .slice (some ⟨gn, 0, none⟩) n cn, vi (S.map fun x => (W.idxOf x : Int)))) (x6 := some (3, .slice (some ⟨gf, 0, none⟩) n cf, vi F)) (x7 := some (3, .slice (some ⟨gh, 0, none⟩) k ch, vi H)) (r := some (3, .slice (some ⟨gr, 0, none⟩) (ln + 1) (ln + 1), List.replicate (ln + 1) (.int .i64 0))) hx2)
              have HSRC : Hid (RdG w5.drew 1 (some ⟨gk, 0, none⟩) (ln + 1) (vi (R.getD fk []))) := Lib.hid (by
                have h := HR5.out.own _ _ _ _ HAK.out
                have h2 := HR5.out.len HAK.out
                rw [← h2] at h
                exact (Row.rdG h).drew)
              clear hx1 hx2 hfk hfl hfke
              go_wp2
              go_region_law (refine RF.copy (i := k + 8) (HR5.out.below (Below.drew (Below.refl _ _))) (at8 HRS.out.2.1) rfl (.tmp 70) (.tmp 78) 28 28 rfl EIG rfl ⟨gk, 0, none⟩ (ln + 1) _ _ rfl HSRC.out (by intro v hv; obtain ⟨x, _, rfl⟩ := List.mem_map.1 hv; rfl) rfl ?_; intro w6 hrf6 hg6 hb6 hfr6)
              all_goals
                have HR6 := Lib.hid hrf6
                have HB6 := Lib.hid hb6
                have HF6 := Lib.hid hfr6
                clear hrf6 hb6 hfr6 hg6
                go_wp2
                go_meet
                rw [HRK.out]
                have hrf6 := HR6.out
                simp only [List.cons_append, List.nil_append] at hrf6
                rw [set8 HRS.out.2.1] at hrf6
                exact ⟨hrf6, (Below.drew (Below.refl _ _)).trans HB6.out, (Fr.drew (Fr.refl _ _)).trans HF6.out⟩
          case rest =>
            obtain ⟨hrfc, hbc, hfrc⟩ := hcut
            have HRC := Lib.hid hrfc
            have HTNC := Lib.hid (HTN5.out.frN hfrc)
            have HQC := Lib.hid (HQ5.out.frN hfrc)
            have HZC := Lib.hid (HZ5.out.frN hfrc)
            have HBLC := Lib.hid (HBL5.out.trans hbc)
            have HNN2 := Lib.hid HNN.out
            clear hrfc hbc hfrc HTN5 HQ5 HZ5 HBL5 HR5
            go_wp2
            go_loopg [9, 10, 82] ln (fun gg nv fv jv wr => ∃ (j n gn cn gf cf : Nat) (S : List (List Int)) (F row : List Int), j ≤ ln ∧ gg = ln - j ∧ jv = .int .i64 j ∧ nv = .slice (some ⟨gn, 0, none⟩) n cn ∧ fv = .slice (some ⟨gf, 0, none⟩) n cf ∧ n = S.length ∧ n ≤ W.length ∧ k < n ∧ In W (litL ps) ps k j S u F R H row ∧
              RF B N wr (some (3, .slice (some ⟨g, 0, none⟩) W.length c, vi (eqsL ps W)) :: some (3, .slice (some ⟨gc, 0, none⟩) 256 256, vi (litC ps)) :: some (5, .slice la ln lc, vu (litL ps)) :: some (28, .slice ax k cx, xs) :: some (4, .slice aa k ca, H.map fun h => .bool (decide (0 < h))) ::
              some (3, .slice (some ⟨gn, 0, none⟩) n cn, vi (S.map fun x => (W.idxOf x : Int))) :: some (3, .slice (some ⟨gf, 0, none⟩) n cf, vi F) :: some (3, .slice (some ⟨gh, 0, none⟩) k ch, vi H) :: (rs ++ [some (3, .slice (some ⟨gr, 0, none⟩) (ln + 1) (ln + 1), vi row)])) ∧
              TN N wr bt bm (.slice (some ⟨g, 0, none⟩) W.length c) W (usedB ps) ∧ QN N wr bq (.slice (some ⟨gc, 0, none⟩) 256 256) (.slice ax k cx) (.slice aa k ca) ∧ QN N wr w.heap.size (.slice none 0 0) (.slice none 0 0) (.slice none 0 0) ∧ Below B w1 wr)
            case atStart =>
              refine ⟨0, n, gn, cn, gf, cf, S, F, row, by omega, rfl, rfl, rfl, rfl, HNN2.out, hnW, hlt, ?_, HRC.out, HTNC.out, HQC.out, HZC.out, HBLC.out⟩
              rw [HU.out]; exact HEN.out
            case round =>
              clear HRC HTNC HQC HZC HBLC HEN HFK HROW HRL HS HNN2 HNN HU
              clear hkn2 hkn hnW hlt hkS
              obtain ⟨j, n, gn, cn, gf, cf, S, F, row, hj, rfl, rfl, rfl, rfl, hnS, hnW, hkn, hin, hrf, htn, hqn, hzn, hbl⟩ := hrel
              have HI := Lib.hid hin
              have HR := Lib.hid hrf
              have HTN := Lib.hid htn
              have HQ := Lib.hid hqn
              have HZ := Lib.hid hzn
              have HBL := Lib.hid hbl
              have HNN := Lib.hid hnS
              clear hin hrf htn hqn hzn hbl hnS
              by_cases hlt : j < ln
              · have hjL : j < (litL ps).length := by rw [← HLN.out]; exact hlt
                have hjn : (j : Int) < (ln : Int) := by omega
                obtain ⟨b, hbe, hb256⟩ : ∃ b : Nat, (litL ps).getD j 0 = (b : Int) ∧ b < 256 := by
                  obtain ⟨m, h1, _, h3⟩ := mem_letsTo.1 (getD_mem' (l := letsTo (usedB ps) 256) (d := 0) hjL)
                  exact ⟨m, h3, h1⟩
                obtain ⟨gl, rfl⟩ := HR.out.addr (i := 2) rfl (by rw [List.length_map]; omega)
                have hcl : wr.cell? ⟨gl, j, none⟩ = some (.int .u8 (b : Int)) := HR.out.cell (i := 2) rfl (by
                  rw [List.getElem?_map, List.getElem?_eq_getElem hjL]
                  simp only [Option.map_some]
                  rw [← hbe]; simp [List.getD, hjL])
                have ht0 := HTN.out.c0
                have HBE := Lib.hid hbe
                have HUI := Lib.hid (mem_getD (d := []) HUW.out)
                obtain ⟨xw, hxw⟩ : ∃ xw, xw = u ++ [(litL ps).getD j 0] := ⟨_, rfl⟩
                have HXW : Hid (W.getD (W.idxOf u) [] ++ [(b : Int)] = xw) := Lib.hid (by rw [hxw, HUI.out.2, HBE.out])
                have HXE := Lib.hid hxw
                have HJL := Lib.hid hjL
                clear hxw hjL
                clear hbe
                by_cases hm : xw ∈ W
                · have HM := Lib.hid hm
                  clear hm
                  have HWI := Lib.hid (List.idxOf_lt_length_of_mem HM.out)
                  obtain ⟨x, hx⟩ : ∃ x, x = row.getD (j + 1) 0 := ⟨_, rfl⟩
                  have HX := Lib.hid hx
                  have hrl : row.length = ln + 1 := by rw [HLN.out]; exact HI.out.wl
                  have h9 : j + 1 < row.length := by omega
                  have HRX : Hid ((vi row)[j + 1]? = some (.int .i64 x)) := Lib.hid (by
                    rw [hx, List.getElem?_map, List.getElem?_eq_getElem h9]
                    simp [List.getD, h9])
                  have HRL : Hid (j + 1 < (vi row).length) := Lib.hid (by rw [List.length_map]; omega)
                  have hjn1 : (j : Int) + 1 < (ln : Int) + 1 := by omega
                  have hnI : (n : Int) ≤ 256 := by omega
                  clear hx hrl h9
                  go_wp2_with (first
                    | (at_lookup; refine look_hit rfl _ _ rfl HTN.out.map rfl (W.idxOf u) (b : Int) rfl HUI.out.1 (by omega) (by omega) (by omega) _ HXW.out HM.out ?_)
                    | (at_builtin; refine RF.append HR.out (i := 5) rfl n (HR.out.len (i := 5) rfl) (below_alloc wr _) (.tmp 99) (.tmp 101) EIG rfl rfl rfl _ 1 _ [.int .i64 (W.idxOf xw : Nat)] rfl (RdG.lits wr 1 3 1 [.int .i64 (W.idxOf xw : Nat)] rfl) (by simp [Value.oneCell']) (by omega) (by decide) ?_; intro a6 c6 w6 hrf6 hg6 hbl6 hfr6; have HR6 := Lib.hid hrf6; have HB6 := Lib.hid hbl6; have HF6 := Lib.hid hfr6; have hcr := hrf6.cell (i := k + 8) (at8 HRS.out.2.1) HRX.out; clear hrf6 hg6 hbl6 hfr6)
                    | (at_builtin; refine RF.append HR6.out (i := 6) rfl n (HR6.out.len (i := 6) rfl) (below_alloc w6 _) (.tmp 103) (.tmp 109) EIG rfl rfl rfl _ 1 _ [.int .i64 x] rfl (RdG.lits w6 1 3 1 [.int .i64 x] rfl) (by simp [Value.oneCell']) (by omega) (by decide) ?_; intro a7 c7 w7 hrf7 hg7 hbl7 hfr7; have HR7 := Lib.hid hrf7; have HB7 := Lib.hid hbl7; have HF7 := Lib.hid hfr7; clear hrf7 hg7 hbl7 hfr7)
                    | (refine RF.store HR7.out (i := k + 8) (at8 HRS.out.2.1) rfl 3 (.tmp 117) (.tmp 116) rfl (j + 1) rfl (.int .i64 (n : Int)) (by first | rfl | (show Value.int _ _ = Value.int _ _; congr 1; omega)) rfl rfl (by kernel_rfl) HRL.out ?_; intro w8 hrf8 hg8 hbl8 hfr8; have HR8 := Lib.hid hrf8; have HB8 := Lib.hid hbl8; have HF8 := Lib.hid hfr8; clear hrf8 hg8 hbl8 hfr8))
                  obtain ⟨gn', rfl⟩ := HR6.out.addr (i := 5) rfl (by simp)
                  obtain ⟨gf', rfl⟩ := HR7.out.addr (i := 6) rfl (by simp)
                  go_roundg (ln - (j + 1))
                  case measure => omega
                  case rel =>
                    have hh : In W (litL ps) ps k (j + 1) _ u _ R H _ := HI.out.hit (L := litL ps) (letsTo_sorted _ _) HJL.out (by rw [← HXE.out]; exact HM.out)
                    rw [← HXE.out, ← HX.out, ← HNN.out] at hh
                    have hlen : n + 1 = (S ++ [xw]).length := by rw [List.length_append, ← HNN.out]; rfl
                    refine ⟨j + 1, n + 1, gn', c6, gf', c7, S ++ [xw], F ++ [x], row.set (j + 1) (n : Int), by omega, rfl, by go_num, rfl, rfl, hlen, ?_, by omega, hh, ?_, ((HTN.out.frN HF6.out).frN HF7.out).frN HF8.out, ((HQ.out.frN HF6.out).frN HF7.out).frN HF8.out, ((HZ.out.frN HF6.out).frN HF7.out).frN HF8.out, ((HBL.out.trans HB6.out).trans HB7.out).trans HB8.out⟩
                    · rw [hlen]; exact nodup_sub_len (sorted_nodup hh.bfs.srt) hh.bfs.mem
                    · have h := HR8.out
                      rw [show vi (row.set (j + 1) (n : Int)) = (vi row).set (j + 1) (.int .i64 (n : Int)) from List.map_set, show vi (F ++ [x]) = vi F ++ [.int .i64 x] from List.map_append]
                      rw [show vi ((S ++ [xw]).map fun x => (W.idxOf x : Int)) = vi (S.map fun x => (W.idxOf x : Int)) ++ [.int .i64 (W.idxOf xw : Int)] by simp [vi]]
                      rw [← set8 HRS.out.2.1]
                      exact h
                · have HM := Lib.hid hm
                  clear hm
                  go_wp2_with (at_lookup; refine look_miss rfl _ _ rfl HTN.out.map rfl (W.idxOf u) (b : Int) rfl HUI.out.1 (by omega) (by omega) (by omega) _ HXW.out HM.out ?_)
                  go_roundg (ln - (j + 1))
                  case measure => omega
                  case rel => exact ⟨j + 1, n, gn, cn, gf, cf, S, F, row, by omega, rfl, by go_num, rfl, rfl, HNN.out, hnW, hkn, HI.out.miss HJL.out (by rw [← HXE.out]; exact HM.out), HR.out, HTN.out, HQ.out, HZ.out, HBL.out⟩
              · have hjl : j = ln := by omega
                subst hjl
                have HIL : Hid (In W (litL ps) ps k (litL ps).length S u F R H row) := Lib.hid (by rw [← HLN.out]; exact HI.out)
                have hq2 := HQ.out.q2
                have hxl := HRS.out.1
                have HXL := Lib.hid hxl
                clear hxl
                go_upto_region 31 with (at_builtin; refine RF.append HR.out (i := 3) rfl k HXL.out.symm (below_alloc wr _) (.tmp 120) (.tmp 122) ESI rfl rfl rfl _ 1 _ [.slice (some ⟨gr, 0, none⟩) (j + 1) (j + 1)] rfl (RdG.lits wr 1 28 1 [.slice (some ⟨gr, 0, none⟩) (j + 1) (j + 1)] rfl) (by simp [Value.oneCell']) (by omega) (by decide) ?_; intro a6 c6 w6 hrf6 hg6 hbl6 hfr6; have HR6 := Lib.hid hrf6; have HB6 := Lib.hid hbl6; have HF6 := Lib.hid hfr6; have hq62 := (HQ.out.frN hfr6).q2; have hqf6 := (HQ.out.frN hfr6).fz 2; clear hrf6 hg6 hbl6 hfr6)
                obtain ⟨w7, hw7⟩ : ∃ w7, w7 = w6.setCell ⟨bq, 2, none⟩ (.slice a6 (k + 1) c6) := ⟨_, rfl⟩
                have HR7 : Hid (RF B N w7 _) := Lib.hid (by rw [hw7]; exact HR6.out.cells (fr_setN HQ.out.nq))
                have HQ7 : Hid (QN N w7 bq _ _ _) := Lib.hid (by rw [hw7]; exact (HQ.out.frN HF6.out).set2 (.slice a6 (k + 1) c6))
                have HZ7 : Hid (QN N w7 w.heap.size _ _ _) := Lib.hid (by rw [hw7]; exact (HZ.out.frN HF6.out).setq HNE.out.2.2.1 _ _)
                have HTN7 : Hid (TN N w7 bt bm _ W (usedB ps)) := Lib.hid (by rw [hw7]; exact (HTN.out.frN HF6.out).setq HNE.out.1 HNE.out.2.1 _ _)
                have HB7 : Hid (Below B w1 w7) := Lib.hid (by rw [hw7]; exact (HBL.out.trans HB6.out).setCell HNE.out.2.2.2 _)
                rw [← hw7]
                clear hw7 HR6 HQ HZ HTN HBL hq62 hqf6 hq2
                have ht1 := HTN7.out.c1
                have HUI := Lib.hid (mem_getD (d := []) HUW.out)
                have hce : w7.cell? ⟨g, W.idxOf u, none⟩ = some (.int .i64 (eqs ps u : Nat)) := HR7.out.cell (i := 0) rfl (by rw [List.getElem?_map, eqsL_get HUW.out]; rfl)
                have hui : ((W.idxOf u : Nat) : Int) < (W.length : Nat) := by have := HUI.out.1; omega
                obtain ⟨ct, hct⟩ : ∃ ct : Int, ct = (eqs ps u : Int) + (if k = 0 then 0 else H.getD (F.getD k 0).toNat 0) := ⟨_, rfl⟩
                have HCT := Lib.hid hct
                clear hct
                go_upto_if 133 with fail
                go_cut [19] (fun s19 wc => w7 = wc ∧ s19 = .int .i64 ct)
                case first =>
                  by_cases hk0 : k = 0
                  · have HC0 : Hid (ct = (eqs ps u : Int)) := Lib.hid (by rw [HCT.out, if_pos hk0]; omega)
                    subst hk0
                    go_wp2
                    go_meet
                    exact ⟨rfl, by rw [HC0.out]⟩
                  · have hkp : (0 : Int) < (k : Int) := by omega
                    have hfk := HIL.out.fall (by omega)
                    obtain ⟨fk, hfke⟩ : ∃ fk : Nat, F.getD k 0 = (fk : Int) := by
                      have h := HIL.out.fv k (by rw [← HNN.out]; exact hkn)
                      exact ⟨_, h⟩
                    have HC1 : Hid (ct = (eqs ps u : Int) + H.getD fk 0) := Lib.hid (by rw [HCT.out, if_neg hk0, hfke, Int.toNat_natCast])
                    rw [hfke, Int.toNat_natCast] at hfk
                    have hfl := HIL.out.fl
                    rw [← HNN.out] at hfl
                    have hhl := HIL.out.hl
                    have hcf : w7.cell? ⟨gf, k, none⟩ = some (.int .i64 (fk : Int)) := HR7.out.cell (i := 6) rfl (by
                      rw [List.getElem?_map, List.getElem?_eq_getElem (show k < F.length by omega)]
                      simp only [Option.map_some]
                      rw [← hfke]; simp [List.getD, show k < F.length by omega])
                    have hh2 := HIL.out.hv fk hfk
                    have hch : w7.cell? ⟨gh, fk, none⟩ = some (.int .i64 (H.getD fk 0)) := HR7.out.cell (i := 7) rfl (by
                      rw [List.getElem?_map, List.getElem?_eq_getElem (show fk < H.length by omega)]
                      simp [List.getD, show fk < H.length by omega])
                    have hb1 := eqs_le ps u
                    have hb2 := cnt_le ps (S.getD fk [])
                    have hb3 := HPS.out
                    have hwr : IntKind.i64.wrap ((eqs ps u : Int) + H.getD fk 0) = (eqs ps u : Int) + H.getD fk 0 := IntWalk.i64_in _ (by omega)
                    have hfkk : (fk : Int) < (k : Int) := by omega
                    have hkn3 : (k : Int) < (n : Int) := by omega
                    clear hfk hfke hfl hhl hh2 hb1 hb2 hb3
                    generalize H.getD fk 0 = hq at *
                    go_wp2
                    go_meet
                    exact ⟨rfl, by rw [HC1.out]⟩
                case rest =>
                  obtain ⟨hwc, hs19⟩ := hcut
                  subst hwc
                  subst hs19
                  have HHL : Hid (k = (vi H).length) := Lib.hid (by rw [List.length_map]; exact HIL.out.hl.symm)
                  have HAL : Hid (k = (H.map fun h => Value.bool (decide (0 < h))).length) := Lib.hid (by rw [List.length_map]; exact HIL.out.hl.symm)
                  go_wp2_with (first
                    | (at_builtin; refine RF.append HR7.out (i := 7) rfl k HHL.out (below_alloc w7 _) (.tmp 143) (.tmp 145) EIG rfl rfl rfl _ 1 _ [.int .i64 ct] rfl (RdG.lits w7 1 3 1 [.int .i64 ct] rfl) (by simp [Value.oneCell']) (by omega) (by decide) ?_; intro a8 c8 w8 hrf8 hg8 hbl8 hfr8; have HR8 := Lib.hid hrf8; have HB8 := Lib.hid hbl8; have HF8 := Lib.hid hfr8; have hq83 := (HQ7.out.frN hfr8).q3; clear hrf8 hg8 hbl8 hfr8)
                    | (at_builtin; refine RF.append HR8.out (i := 4) rfl k HAL.out (below_alloc w8 _) (.tmp 148) (.tmp 151) EBG rfl rfl rfl _ 1 _ [.bool (decide (0 < ct))] rfl (RdG.lits w8 1 4 1 [.bool (decide (0 < ct))] rfl) (by simp [Value.oneCell']) (by omega) (by decide) ?_; intro a9 c9 w9 hrf9 hg9 hbl9 hfr9; have HR9 := Lib.hid hrf9; have HB9 := Lib.hid hbl9; have HF9 := Lib.hid hfr9; have hq93 := ((HQ7.out.frN HF8.out).frN hfr9).q3; have hqf9 := ((HQ7.out.frN HF8.out).frN hfr9).fz 3; clear hrf9 hg9 hbl9 hfr9))
                  obtain ⟨w10, hw10⟩ : ∃ w10, w10 = w9.setCell ⟨bq, 3, none⟩ (.slice a9 (k + 1) c9) := ⟨_, rfl⟩
                  have HR10 : Hid (RF B N w10 _) := Lib.hid (by rw [hw10]; exact HR9.out.cells (fr_setN HQ7.out.nq))
                  have HQ10 : Hid (QN N w10 bq _ _ _) := Lib.hid (by rw [hw10]; exact ((HQ7.out.frN HF8.out).frN HF9.out).set3 (.slice a9 (k + 1) c9))
                  have HZ10 : Hid (QN N w10 w.heap.size _ _ _) := Lib.hid (by rw [hw10]; exact ((HZ7.out.frN HF8.out).frN HF9.out).setq HNE.out.2.2.1 _ _)
                  have HTN10 : Hid (TN N w10 bt bm _ W (usedB ps)) := Lib.hid (by rw [hw10]; exact ((HTN7.out.frN HF8.out).frN HF9.out).setq HNE.out.1 HNE.out.2.1 _ _)
                  have HB10 : Hid (Below B w1 w10) := Lib.hid (by rw [hw10]; exact ((HB7.out.trans HB8.out).trans HB9.out).setCell HNE.out.2.2.2 _)
                  rw [← hw10]
                  obtain ⟨gh', rfl⟩ := HR10.out.addr (i := 7) rfl (by simp)
                  clear hw10 HR9 HR8 HR7 HQ7 HZ7 HTN7 HB7 hq83 hq93 hqf9
                  go_roundg (W.length - (k + 1))
                  case measure => omega
                  case rel =>
                    have hrl := HIL.out.rl
                    refine ⟨k + 1, n, gn, cn, gf, cf, gh', c8, a6, a9, c6, c9, S, F, R ++ [row], H ++ [ct], xs ++ [.slice (some ⟨gr, 0, none⟩) (j + 1) (j + 1)], rs ++ [some (3, .slice (some ⟨gr, 0, none⟩) (j + 1) (j + 1), vi row)], rfl, by go_num, rfl, rfl, rfl, HNN.out, ?_, HRS.out.push hrl _ _ _, ?_, HTN10.out, HQ10.out, HZ10.out, HB10.out⟩
                    · refine HIL.out.leave HW.out.closed (fun p hp => (HW.out.mem p).2 (.inr ⟨p, hp, List.prefix_refl p⟩)) (fun v b hv => ?_) ct HCT.out
                      refine lit_letter HBY.out (u := v) ?_
                      exact (mem_prefs ps _).2 ((HW.out.mem _).1 hv)
                    · have h := HR10.out
                      rw [show vi (H ++ [ct]) = vi H ++ [.int .i64 ct] from List.map_append, show ((H ++ [ct]).map fun h => Value.bool (decide (0 < h))) = (H.map fun h => Value.bool (decide (0 < h))) ++ [.bool (decide (0 < ct))] from List.map_append]
                      exact h
        · have hkn3 : n = k := by omega
          subst hkn3
          have hfin : S = prefs ps ∧ R = litN ps ∧ H = litH ps := by
            have h := HS.out
            rw [HNN.out] at h
            exact h.final HW.out
          have HFIN := Lib.hid hfin
          have hrng := HQ.out.range
          have hth : wr.there w.heap.size 0 4 := HZ.out.there
          have HNE3 : Hid (w.heap.size < w1.heap.size) := Lib.hid (by rw [HW1.out]; simp)
          clear hfin
          go_wp2_with (first
            | (refine wpList_load_mid rfl 32 _ rfl bq 0 rfl _ _ hrng Try.underlying32 rfl mach_info ?_; clear hrng)
            | (refine wpList_store_mid rfl 32 _ _ rfl w.heap.size 0 #[.int .i64 0, .slice (some ⟨gc, 0, none⟩) 256 256, .slice ax n cx, .slice aa n ca] rfl rfl hth mach_info (by simp [Value.oneCell']) ?_; clear hth))
          (try simp only [Exit.inBlock, Exit.then])
          obtain ⟨w9, hw9⟩ : ∃ w9, w9 = wr.setCells w.heap.size 0 [.int .i64 0, .slice (some ⟨gc, 0, none⟩) 256 256, .slice ax n cx, .slice aa n ca] := ⟨_, rfl⟩
          rw [← hw9]
          have hres : w9.rangeAt w.heap.size 0 [.int .i64 0, .slice (some ⟨gc, 0, none⟩) 256 256, .slice ax n cx, .slice aa n ca] := by
            rw [hw9]; exact World.rangeAt_setCells_same _ _ _ _ HZ.out.there
          have hfr9 : Fr (fun i => i = w.heap.size) wr w9 := by rw [hw9]; exact fr_setCells _ _ _
          have hR9 := HR.out.cells (hfr9.mono (T := N) fun i hi => hi ▸ HZ.out.nq)
          have hload := run_loadVar_mid (P := Try.prog) w9 w.heap.size 0 32 _ _ hres Try.underlying32 rfl mach_info
          refine bodyPost_ret (v := .tuple #[.agg #[.int .i64 0, .slice (some ⟨gc, 0, none⟩) 256 256, .slice ax n cx, .slice aa n ca], .slice (some ⟨gh, 0, none⟩) n ch]) ?_ rfl ?_
          · rw [results_cell_tmp rfl]
            simp [asAddr, Result.andThen, hload]
          · obtain ⟨rfl, rfl, rfl⟩ := HFIN.out
            have hn : n = (prefs ps).length := HNN.out
            subst hn
            have hpl : (prefs ps).length ≤ 256 := by omega
            refine ⟨some ⟨gc, 0, none⟩, ax, cx, aa, ca, some ⟨gh, 0, none⟩, ch, rfl, fun w10 hf10 => ?_, ?_⟩
            have hR10 := hR9.fr hf10 (fun i e v xs g hi hg hlt => by have := (hR9.lt hi hg).2; omega)
            refine ⟨⟨?_, ?_, ?_⟩, ?_⟩
            · refine hR10.rd (i := 1) rfl fun x hx => ?_
              have h1 := cls_bd (usedB ps) 256 x hx
              have h2 := letsTo_len (usedB ps) 256
              obtain ⟨m, hm⟩ := Int.eq_ofNat_of_zero_le h1.1
              rw [hm]; exact wf_nat (by omega)
            · refine ⟨litN_len ps, by omega, fun i hi => ?_⟩
              obtain ⟨g1, c1, hx1, hx2⟩ := HRS.out.2.2 i hi
              obtain ⟨gx, rfl⟩ := hR10.addr (i := 3) rfl (by rw [HRS.out.1]; omega)
              refine ⟨gx, 0, some ⟨g1, 0, none⟩, ln + 1, c1, rfl, ?_, ?_, ?_⟩
              · rw [Nat.zero_add]; exact hR10.cell (i := 3) rfl hx1
              · refine hR10.rd (i := i + 8) (e := 3) (c := c1) (by show rs[i]? = _; exact hx2) fun x hx => ?_
                have h1 := (litN_row (ps := ps) _ (getD_mem' (by rw [litN_len]; exact hi))).2 x hx
                obtain ⟨m, hm⟩ := Int.eq_ofNat_of_zero_le h1.1
                rw [hm]; exact wf_nat (by omega)
              · exact hR10.cap (i := i + 8) (e := 3) (xs := vi ((litN ps).getD i [])) (by show rs[i]? = _; exact hx2)
            · refine ⟨litA_len ps, by omega, fun i hi => ?_⟩
              have hlh : ((litH ps).map fun h => Value.bool (decide (0 < h))).length = (prefs ps).length := by rw [List.length_map, litH_len]
              obtain ⟨ga, rfl⟩ := hR10.addr (i := 4) rfl (by rw [hlh]; omega)
              refine ⟨ga, 0, rfl, ?_⟩
              rw [Nat.zero_add]
              refine hR10.cell (i := 4) rfl ?_
              unfold litH litA
              simp [List.getD, hi]
            · refine hR10.rd (i := 7) rfl fun x hx => ?_
              unfold litH at hx
              obtain ⟨y, _, rfl⟩ := List.mem_map.1 hx
              exact wf_nat (by have := cnt_le ps y; have := HPS.out; omega)
            · exact ((HB1.out.mono HBW.out).trans HBL.out).trans (hfr9.below (fun i hi => by rw [hi]; exact HBW.out) (by have := HBL.out.size; have := HB1.out.size; have := HBW.out; omega))

end Go.Proofs.Ytflgmodofemifaa
