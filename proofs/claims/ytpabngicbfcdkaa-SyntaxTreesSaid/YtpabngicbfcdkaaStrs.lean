/-
  slices of strings as they are read; []byte(s).
-/
import Derived.Test.YtpabngicbfcdkaaRF
import Derived.Lib.ConvBytes
import Derived.SliceStrings
import Derived.WalkLawsBesides
import Derived.Deep.LoopGhost
namespace Go.Proofs.Ytpabngicbfcdkaa
open Go.RowKit
set_option linter.unusedVariables false
set_option linter.unusedSimpArgs false

/-- the bytes of a string as numbers -/
def numsOf (s : ByteArray) : List Int := s.data.toList.map fun x => (x.toNat : Int)
theorem numsOf_len (s : ByteArray) : (numsOf s).length = s.size := by unfold numsOf; rw [List.length_map]; rfl
theorem numsOf_bd (s : ByteArray) : ∀ x ∈ numsOf s, 0 ≤ x ∧ x ≤ 255 := by
  intro x hx
  unfold numsOf at hx
  obtain ⟨y, _, rfl⟩ := List.mem_map.1 hx
  have := y.toNat_lt
  omega
theorem numsOf_inj {s t : ByteArray} (h : numsOf s = numsOf t) : s = t := by
  have inj : ∀ (l m : List UInt8), l.map (fun x => (x.toNat : Int)) = m.map (fun x => (x.toNat : Int)) → l = m := by
    intro l
    induction l with
    | nil => intro m hm; cases m with | nil => rfl | cons b r => cases hm
    | cons a r ih =>
      intro m hm
      cases m with
      | nil => cases hm
      | cons b q =>
        simp only [List.map_cons, List.cons.injEq] at hm
        rw [ih q hm.2, UInt8.toNat_inj.1 (Int.ofNat.inj hm.1)]
  have h1 : s.data.toList = t.data.toList := inj _ _ h
  cases s; cases t; congr; exact Array.toList_inj.1 h1
theorem numsOf_empty : numsOf ByteArray.empty = [] := rfl

/-- the n strings of a slice value -/
structure RdS (w : World) (a : Option Addr) (n : Nat) (ss : List ByteArray) : Prop where
  len : ss.length = n
  max : n ≤ 9223372036854775807
  cell : ∀ i, i < n → ∃ b off, a = some ⟨b, off, none⟩ ∧ w.cell? ⟨b, off + i, none⟩ = some (.string (ss.getD i ByteArray.empty))
  wf : ∀ s ∈ ss, s.size ≤ 9223372036854775807
theorem RdS.below {w w' : World} {a n ss} (h : RdS w a n ss) (hb : Below w.heap.size w w') : RdS w' a n ss :=
  ⟨h.len, h.max, fun i hi => by
    obtain ⟨b, off, ha, hc⟩ := h.cell i hi
    exact ⟨b, off, ha, below_cell hb hc⟩, h.wf⟩
theorem RdS.wfD {w : World} {a n ss} (h : RdS w a n ss) (i : Nat) : (ss.getD i ByteArray.empty).size ≤ 9223372036854775807 := by
  by_cases hi : i < ss.length
  · exact h.wf _ (getD_mem hi)
  · rw [show ss.getD i ByteArray.empty = ByteArray.empty by simp [List.getD, List.getElem?_eq_none (show ss.length ≤ i by omega)]]
    decide

theorem open_rds {H : Type} {enc : TypeId × Value → H} {P : Program} {W : World} {t e : TypeId} {a : Option Addr} {n c : Nat} {d : DataW H} {p : List MemPlace}
    (ht : P.underlying t = some (.slice e)) (he : P.underlying e = some .string) (hc : P.cellsOf e = 1)
    (h : DataW.Trod enc P W 0 (fun _ => true) true t (.slice a n c) d p) : ∃ ss, RdS W a n ss ∧ n ≤ c ∧ ((d = .nil ∧ n = 0) ∨ ∃ elems spare, d = .slice elems spare ∧ elems.length = n) := by
  obtain ⟨fuel, hf⟩ := h
  rcases Go.ChangeShapes.open_strings ht he hc hf with ⟨hcs, hx⟩ | ⟨x, l, c', zs, hcs, _, hl, hm, hz, hx, hcell, hwz⟩
  · simp [Value.cells] at hcs
    obtain ⟨rfl, rfl, rfl⟩ := hcs
    refine ⟨[], ⟨rfl, by omega, fun i hi => by omega, by simp⟩, by omega, .inl ⟨by simpa using congrArg Prod.fst hx, rfl⟩⟩
  · simp [Value.cells] at hcs
    obtain ⟨rfl, rfl, rfl⟩ := hcs
    have hz' : zs.length = c := by simpa using hz
    refine ⟨zs.take n, ⟨by rw [List.length_take]; omega, by unfold maxLen at hm; omega, fun i hi => ?_, fun y hy => by have := hwz y (List.mem_of_mem_take hy); unfold maxLen at this; exact this⟩, hl, .inr ⟨_, _, congrArg Prod.fst hx, by simp [Go.ChangeShapes.strs]; omega⟩⟩
    have h1 := hcell i (by omega)
    have hspot := World.cell?_spot (hcell 0 (by omega))
    obtain ⟨b, off, spot⟩ := x
    have : spot = none := by simpa [Addr.add] using hspot
    subst this
    refine ⟨b, off, rfl, ?_⟩
    rw [Addr.add_lit] at h1
    rw [h1]
    simp [List.getD, hi]

theorem bytesWorld_below (w : World) (e : TypeId) (s : ByteArray) : Below w.heap.size w (Lib.bytesWorld w e s) :=
  ⟨rfl, rfl, rfl, by rw [Lib.bytesWorld_size]; omega, fun k hk => Lib.bytesWorld_at_old w e s k hk⟩
theorem bytesWorld_rd (w : World) (e : TypeId) (s : ByteArray) (hs : s.size ≤ 9223372036854775807) : Rd (Lib.bytesWorld w e s) .u8 (some ⟨w.heap.size, 0, none⟩) s.size (numsOf s) := by
  refine ⟨numsOf_len s, hs, fun i hi => ⟨_, _, rfl, ?_⟩, fun x hx => ?_⟩
  · rw [Nat.zero_add, Lib.bytesWorld_cell w e s i hi]
    have hi2 : i < s.data.toList.length := hi
    unfold numsOf
    simp only [List.getD, List.getElem?_map, List.getElem?_eq_getElem hi2, Option.map_some, Option.getD_some]
  · have := numsOf_bd s x hx
    simp [Lit.wf, IntKind.min, IntKind.max, IntKind.signed, IntKind.bits]; omega

/-- a new block of whatever kind -/
theorem RF.addN' {B N w w' l} (h : RF B N w l) (hb : Below w.heap.size w w') (hs : w.heap.size < w'.heap.size) : RF B (fun b => N b ∨ b = w.heap.size) w' l := by
  have h' := h.below hb
  refine ⟨h'.own, h.ne, fun i e v xs g hi hg hc => ?_, fun b hb => ?_, h'.bw⟩
  · rcases hc with hc | hc
    · exact h.av i e v xs g hi hg hc
    · have := (h.lt hi hg).1; omega
  · rcases hb with hb | hb
    · exact h'.nl b hb
    · rw [hb]; exact hs
theorem Rd.frN {w w' : World} {N : Nat → Prop} {k : IntKind} {b n : Nat} {l : List Int} (h : Rd w k (some ⟨b, 0, none⟩) n l) (hb : N b) (hf : Fr (fun b => ¬ N b) w w') : Rd w' k (some ⟨b, 0, none⟩) n l :=
  ⟨h.len, h.max, fun i hi => by
    obtain ⟨b', off, ha, hc⟩ := h.cell i hi
    cases ha
    exact ⟨b, 0, rfl, hf.cell hc (fun hn => hn hb)⟩, h.wf⟩

end Go.Proofs.Ytpabngicbfcdkaa
