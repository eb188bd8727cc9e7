/-
  the least accepted text by breadth-first search, in plain words.
-/
import Derived.Test.YtajajkganamfiaaMBase
namespace Go.Proofs.Ytajajkganamfiaa

/-- the next state -/
def mgo (cls : List Int) (next : List (List Int)) (q : Int) (b : Nat) : Int := (next.getD q.toNat []).getD (cls.getD b 0).toNat 0

theorem mgo_bd {s cls next acc} (h : Valid s cls next acc) {q : Int} {b : Nat} (h0 : 0 ≤ q) (h1 : q < next.length) (hb : b < 256) :
    0 ≤ cls.getD b 0 ∧ cls.getD b 0 < ncls next ∧ 0 ≤ mgo cls next q b ∧ mgo cls next q b < next.length := by
  have hc := h.let_ (cls.getD b 0) (getD_mem (by rw [h.clsL]; exact hb))
  have hr := h.row (next.getD q.toNat []) (getD_mem (by omega))
  have := hr.2 (mgo cls next q b) (getD_mem (by rw [hr.1]; omega))
  exact ⟨hc.1, hc.2, this.1, this.2⟩

/-- found states with their texts, in order -/
abbrev Fnd := List (Int × List Int)
def has (R : Fnd) (q : Int) : Bool := R.any fun x => x.1 == q
def sstep (cls : List Int) (next : List (List Int)) (s : Int) (t : List Int) (R : Fnd) (b : Nat) : Fnd :=
  if has R (mgo cls next s b) then R else R ++ [(mgo cls next s b, t ++ [(b : Int)])]
def expTo (cls : List Int) (next : List (List Int)) (s : Int) (t : List Int) (R : Fnd) : Nat → Fnd
  | 0 => R
  | k + 1 => sstep cls next s t (expTo cls next s t R k) k
def bfs (cls : List Int) (next : List (List Int)) (acc : List Bool) : Nat → Nat → Fnd → Option (List Int)
  | 0, _, _ => none
  | f + 1, i, R => match R[i]? with
    | none => none
    | some (q, t) => if acc.getD q.toNat false then some t else bfs cls next acc f (i + 1) (expTo cls next q t R 256)
/-- the least accepted text by length, then bytewise -/
def shortest (s : Int) (cls : List Int) (next : List (List Int)) (acc : List Bool) : Option (List Int) := bfs cls next acc (next.length + 1) 0 [(s, [])]

theorem nodup_le : ∀ (n : Nat) (l : List Int), l.Nodup → (∀ x ∈ l, 0 ≤ x ∧ x < (n : Int)) → l.length ≤ n
  | 0, l, _, hb => by
    cases l with
    | nil => simp
    | cons x r => have := hb x (by simp); omega
  | n + 1, l, hd, hb => by
    by_cases h : (n : Int) ∈ l
    · have h1 := nodup_le n (l.erase n) (hd.erase _) (fun x hx => by
        have h2 := (List.Nodup.mem_erase_iff hd).1 hx
        have h3 := hb x h2.2
        omega)
      rw [List.length_erase_of_mem h] at h1
      omega
    · have h1 := nodup_le n l hd (fun x hx => by
        have h3 := hb x hx
        have h4 : x ≠ n := fun e => h (e ▸ hx)
        omega)
      omega

/-- what is known of the found states -/
structure Good (n : Nat) (R : Fnd) : Prop where
  bd : ∀ x ∈ R, 0 ≤ x.1 ∧ x.1 < (n : Int)
  nd : (R.map (·.1)).Nodup

theorem Good.len {n : Nat} {R : Fnd} (h : Good n R) : R.length ≤ n := by
  have := nodup_le n (R.map (·.1)) h.nd (fun x hx => by
    obtain ⟨y, hy, rfl⟩ := List.mem_map.1 hx
    exact h.bd y hy)
  simpa using this

theorem has_iff {R : Fnd} {q : Int} : has R q = true ↔ q ∈ R.map (·.1) := by
  simp only [has, List.any_eq_true, beq_iff_eq, List.mem_map]

theorem has_append {R : Fnd} {q p : Int} {t : List Int} : has (R ++ [(p, t)]) q = (has R q || p == q) := by simp [has]

theorem Good.push {n : Nat} {R : Fnd} (h : Good n R) {q : Int} {t : List Int} (h0 : 0 ≤ q) (h1 : q < n) (hn : has R q = false) : Good n (R ++ [(q, t)]) := by
  refine ⟨fun x hx => ?_, ?_⟩
  · rcases List.mem_append.1 hx with hx | hx
    · exact h.bd x hx
    · rw [List.mem_singleton] at hx; subst hx; exact ⟨h0, h1⟩
  · rw [List.map_append, List.nodup_append]
    refine ⟨h.nd, by simp, fun x hx y hy => ?_⟩
    simp only [List.map_cons, List.map_nil, List.mem_singleton] at hy
    subst hy
    intro e
    subst e
    rw [has_iff.2 hx] at hn; cases hn

theorem expTo_succ (cls next s t R k) : expTo cls next s t R (k + 1) = sstep cls next s t (expTo cls next s t R k) k := rfl

/-- the bits of the found states -/
def fbits (n : Nat) (R : Fnd) : List Bool := (List.range n).map fun (i : Nat) => has R (i : Int)
theorem fbits_len (n : Nat) (R : Fnd) : (fbits n R).length = n := by simp [fbits]
theorem fbits_get {n : Nat} (R : Fnd) {i : Nat} (h : i < n) : (fbits n R)[i]? = some (has R (i : Int)) := by simp [fbits, h]
theorem fbits_push {n : Nat} (R : Fnd) {q : Int} (t : List Int) (h0 : 0 ≤ q) (_h1 : q < n) : (fbits n R).set q.toNat true = fbits n (R ++ [(q, t)]) := by
  apply List.ext_getElem? ; intro i
  by_cases hi : i < n
  · rw [fbits_get _ hi, List.getElem?_set, fbits_get R hi, has_append]
    by_cases h : q.toNat = i
    · rw [if_pos h, if_pos (by rw [fbits_len]; omega)]
      have : q = (i : Int) := by omega
      simp [this]
    · rw [if_neg h]
      have : (q == (i : Int)) = false := by simp; omega
      simp [this]
  · rw [List.getElem?_eq_none (by simp [fbits_len]; omega), List.getElem?_eq_none (by rw [fbits_len]; omega)]
theorem fbits_start {n : Nat} {s : Int} (h0 : 0 ≤ s) (h1 : s < n) : (List.replicate n false).set s.toNat true = fbits n [(s, [])] := by
  have e : List.replicate n false = fbits n [] := by
    apply List.ext_getElem? ; intro i
    by_cases hi : i < n
    · rw [fbits_get _ hi]; simp [hi, has]
    · rw [List.getElem?_eq_none (by simp; omega), List.getElem?_eq_none (by rw [fbits_len]; omega)]
  rw [e]; exact fbits_push [] [] h0 h1

theorem good_start {n : Nat} {s : Int} (h0 : 0 ≤ s) (h1 : s < n) : Good n [(s, [])] :=
  ⟨fun x hx => by rw [List.mem_singleton] at hx; subst hx; exact ⟨h0, h1⟩, by simp⟩

end Go.Proofs.Ytajajkganamfiaa
