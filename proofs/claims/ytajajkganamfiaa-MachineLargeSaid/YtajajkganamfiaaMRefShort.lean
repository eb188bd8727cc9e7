/-
  evergreenref29.Shortest on a valid machine.
-/
import Derived.Test.YtajajkganamfiaaMAcc
import Derived.Test.YtajajkganamfiaaGen
namespace Go.Proofs.Ytajajkganamfiaa
open Go.RowKit

theorem EI : Elt Try.prog 22 3 .i64 8 := ⟨Try.underlying22, info_parts (by kernel_rfl)⟩
theorem E8 : Elt Try.prog 28 5 .u8 1 := ⟨Try.underlying28, info_parts (by kernel_rfl)⟩
theorem EB : EltG Try.prog 24 4 (.bool false) 1 1 := ⟨Try.underlying24, info_parts (by kernel_rfl), rfl, by decide⟩
theorem ET : EltG Try.prog 64 28 (.slice none 0 0) 1 24 := ⟨Try.underlying64, info_parts (by kernel_rfl), rfl, by decide⟩

/-- bools in memory of the call's own -/
def OwnB (w : World) (base : Nat) (v : Value) (l : List Bool) : Prop := Row w base 4 1 v l.length (l.map Value.bool)

/-- the texts of the found states -/
def Texts (w : World) (B : Nat) (xs : List Value) (R : Fnd) : Prop := ∀ x ∈ R, ∃ a n c, xs[x.1.toNat]? = some (.slice a n c) ∧ n = x.2.length ∧ Own w B 5 .u8 (.slice a n c) x.2 ∧ ∀ y ∈ x.2, (Lit.int .u8 y).wf = true

/-- the text found, or none -/
def ShortPost (r : Option (List Int)) (w : World) (e : Ending) (w' : World) : Prop :=
  Below w.heap.size w w' ∧ match r with
  | some t => ∃ a c, e = .returned (.tuple #[.slice a t.length c, .bool true]) ∧ Rd w' .u8 a t.length t
  | none => e = .returned (.tuple #[.slice none 0 0, .bool false])

theorem set_cat {α : Type} {l : List α} {j : Nat} {u : α} (hj : j < l.length) : l.take j ++ [u] ++ l.drop (j + 1) = l.set j u := by
  rw [List.set_eq_take_append_cons_drop, if_pos hj]; simp

theorem store_set {w : World} {B g n c j : Nat} {l : List Bool} {u : Bool} (_ : OwnB w B (.slice (some ⟨g, 0, none⟩) n c) l) (hj : j < l.length) :
    (l.map Value.bool).take j ++ [Value.bool u] ++ (l.map Value.bool).drop (j + 1) = (l.set j u).map Value.bool := by
  rw [List.map_set, List.set_eq_take_append_cons_drop, if_pos (by simpa using hj)]; simp

/-- found[j] = u -/
theorem store_bool {P : Program} {w : World} {ops : Array Oper} {rest : List Oper} {o : Oper} {a : Act} {Q : Exit → Act → World → Prop} (hgd : o.guard = none) (x y : Operand) (ho : o.op = .store 4 x y)
    (g j : Nat) (hx : a.eval x = .pointer (some ⟨g, j, none⟩)) (u : Bool) (hy : a.eval y = .bool u) (hi : (P.info? 4).map (·.size) = some 1)
    (base n cap : Nat) (l : List Bool) (hown : OwnB w base (.slice (some ⟨g, 0, none⟩) n cap) l) (hn : n = l.length) (hj : j < l.length)
    (h : ∀ w', OwnB w' base (.slice (some ⟨g, 0, none⟩) n cap) (l.set j u) → w.grownBy w' (some g) → wpList P ops Q rest (a.put o.dst undef) w') : wpList P ops Q (o :: rest) a w := by
  subst hn
  refine store_row hgd _ x y ho g j hx (.bool u) hy [.bool u] rfl hi (by simp [Value.oneCell']) base _ 1 l.length cap _ hown (by simp; omega) ?_
  intro w' hw' hg
  refine h w' ?_ hg
  have e := store_set (u := u) hown hj
  unfold OwnB
  rw [List.length_set, ← e]
  exact hw'

theorem OwnB.cell {w : World} {base g n c : Nat} {l : List Bool} (h : OwnB w base (.slice (some ⟨g, 0, none⟩) n c) l) (hn : n = l.length) {j : Nat} {u : Bool} (hu : l[j]? = some u) : w.cell? ⟨g, j, none⟩ = some (.bool u) := by
  subst hn
  have hj : j < l.length := (List.getElem?_eq_some_iff.1 hu).1
  rw [World.ownsRow.cellAt h j (by simpa using hj), List.getElem?_map, hu]; rfl

theorem Texts.below {w w' : World} {B xs R} (h : Texts w B xs R) (hb : Below w.heap.size w w') : Texts w' B xs R := fun x hx => by
  obtain ⟨a, n, c, h1, h2, h3, h4⟩ := h x hx
  exact ⟨a, n, c, h1, h2, h3.below hb, h4⟩

theorem Texts.keep {w w' : World} {B B' xs R e size v n ys} (h : Texts w B xs R) (h' : Row w B' e size v n ys) (hne : 5 ≠ e) (hg : w.grownBy w' v.ownBlock) : Texts w' B xs R := fun x hx => by
  obtain ⟨a, n, c, h1, h2, h3, h4⟩ := h x hx
  exact ⟨a, n, c, h1, h2, Row.keep h3 h' hne hg, h4⟩

theorem Texts.push {w : World} {B xs R p t a n c nn} (h : Texts w B xs R) (hg : Good nn R) (hp : 0 ≤ p) (hn : has R p = false) (hl : p.toNat < xs.length) (h1 : n = t.length) (h2 : Own w B 5 .u8 (.slice a n c) t) (h3 : ∀ y ∈ t, (Lit.int .u8 y).wf = true) :
    Texts w B (xs.set p.toNat (.slice a n c)) (R ++ [(p, t)]) := fun x hx => by
  rcases List.mem_append.1 hx with hx | hx
  · obtain ⟨a', n', c', g1, g2, g3, g4⟩ := h x hx
    have hb := hg.bd x hx
    have hne : p.toNat ≠ x.1.toNat := by
      intro e
      have : p = x.1 := by omega
      have h5 := has_iff.2 (List.mem_map.2 ⟨x, hx, this.symm⟩)
      rw [hn] at h5; cases h5
    exact ⟨a', n', c', by rw [List.getElem?_set, if_neg hne]; exact g1, g2, g3, g4⟩
  · rw [List.mem_singleton] at hx
    subst hx
    exact ⟨a, n, c, by rw [List.getElem?_set, if_pos rfl, if_pos hl], h1, h2, h3⟩

theorem Row.addr {w : World} {base e size a n c m xs} (h : Row w base e size (.slice a n c) m xs) (hn : 0 < n) : ∃ g, a = some ⟨g, 0, none⟩ ∧ base ≤ g := by
  rcases h.2 with ⟨hv, _⟩ | ⟨g, cap, cur, hv, hb, _⟩
  · cases hv; omega
  · cases hv; exact ⟨g, rfl, hb⟩

theorem Own.addr {w : World} {base e k a n c l} (h : Own w base e k (.slice a n c) l) (hn : 0 < n) : ∃ g, a = some ⟨g, 0, none⟩ ∧ base ≤ g := Row.addr h hn

theorem Own.cellAt {w : World} {base e g n c} {k : IntKind} {l : List Int} (h : Own w base e k (.slice (some ⟨g, 0, none⟩) n c) l) (hn : n = l.length) {i : Nat} {x : Int} (hx : l[i]? = some x) : w.cell? ⟨g, i, none⟩ = some (.int k x) := by
  subst hn
  have hi : i < l.length := (List.getElem?_eq_some_iff.1 hx).1
  rw [World.ownsRow.cellAt h i (by simpa using hi), List.getElem?_map, hx]; rfl

theorem sstep_keep {cls next s t} {R : Fnd} {b i : Nat} {x} (h : R[i]? = some x) : (sstep cls next s t R b)[i]? = some x := by
  unfold sstep
  split
  · exact h
  · rw [List.getElem?_append_left (List.getElem?_eq_some_iff.1 h).1]; exact h

theorem sstep_len {cls next s t R b} : R.length ≤ (sstep cls next s t R b).length := by
  unfold sstep; split <;> simp

/-- what the loops of the reference know -/
structure RefInv (B nn : Nat) (w1 wr : World) (gT gS g q c : Nat) (xs : List Value) (R : Fnd) : Prop where
  ql : q = R.length
  row : Own wr B 3 .i64 (.slice (some ⟨g, 0, none⟩) q c) (R.map (·.1))
  seen : OwnB wr B (.slice (some ⟨gS, 0, none⟩) nn nn) (fbits nn R)
  txt : Row wr B 28 1 (.slice (some ⟨gT, 0, none⟩) nn nn) nn xs
  txts : Texts wr B xs R
  bel : Below B w1 wr
  good : Good nn R
  tl : ∀ x ∈ R, x.2.length < R.length

end Go.Proofs.Ytajajkganamfiaa
