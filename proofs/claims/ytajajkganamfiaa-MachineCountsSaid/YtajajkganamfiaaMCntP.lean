/-
  MachineCounts, the plain law: counts of a machine and of its negation; the shortest accepted text against the counts.
-/
import Derived.Test.YtajajkganamfiaaMRefWord
import Derived.Test.YtajajkganamfiaaMNotW
namespace Go.Proofs.Ytajajkganamfiaa
open Go.RowKit
set_option linter.unusedVariables false
set_option linter.unusedSimpArgs false

theorem pw_lett {s cls next acc} (hv : Valid s cls next acc) (k : Nat) (v : Nat → Nat) {q : Nat} (hq : q < next.length) :
    pw next.length (lett cls next) (k + 1) v q = sm 256 (fun x => pw next.length (lett cls next) k v (nxN next q ((nats cls).getD x 0))) := by
  rw [pw_last, lett_mv (fun q x hq hx => nx_lt hv hq hx) _ hq]

theorem sm_const (n c : Nat) : sm n (fun _ => c) = n * c := by
  induction n with
  | zero => simp [sm]
  | succ n ih => rw [sm, ih, Nat.succ_mul]

theorem cnt_not {acc : List Bool} {q : Nat} (h : q < acc.length) : cnt0 acc q + cnt0 (acc.map not) q = 1 := by
  unfold cnt0
  rw [show (acc.map not).getD q false = !(acc.getD q false) by simp [List.getD, h]]
  cases acc.getD q false <;> rfl

/-- both counts together -/
theorem pw_both {s cls next acc} (hv : Valid s cls next acc) : ∀ (k : Nat) {q : Nat}, q < next.length → pw next.length (lett cls next) k (cnt0 acc) q + pw next.length (lett cls next) k (cnt0 (acc.map not)) q = 256 ^ k
  | 0, q, hq => cnt_not (by rw [hv.accL]; exact hq)
  | k + 1, q, hq => by
    rw [pw_lett hv k _ hq, pw_lett hv k _ hq, ← sm_add, sm_congr (g := fun _ => 256 ^ k) (fun x hx => pw_both hv k (nx_lt hv hq hx)), sm_const, Nat.pow_succ, Nat.mul_comm]

theorem nats_nints (l : List Nat) : nats (nints l) = l := by
  unfold nats nints
  rw [List.map_map]
  exact (List.map_congr_left (fun a _ => Int.toNat_natCast a)).trans (List.map_id _)
theorem nxN_nints (R : List (List Nat)) (q c : Nat) : nxN (R.map nints) q c = (R.getD q []).getD c 0 := by
  unfold nxN
  rw [List.getD_eq_getElem?_getD (l := R.map nints), List.getElem?_map]
  cases h : R[q]? with
  | none => simp [List.getD, h]
  | some r =>
    simp only [Option.map_some, Option.getD_some]
    rw [show R.getD q [] = r by simp [List.getD, h]]
    simp only [nints, List.getD_eq_getElem?_getD, List.getElem?_map]
    cases h2 : r[c]? with
    | none => simp
    | some u => simp

section
variable {st : Nat} {cls : List Int} {next : List (List Int)} {acc : List Bool} {b first states fs clsv cols ord : List Nat} {W R : List (List Nat)} {accs : List Bool}

/-- the canonical machine counts alike -/
theorem MinF.count (h : MinF st cls next acc b first states fs clsv cols ord W R accs) : ∀ (k : Nat) {q : Nat}, q ∈ states → b.getD q 0 ∈ ord →
    pw (R.map nints).length (lett (nints clsv) (R.map nints)) k (cnt0 accs) (ix ord (b.getD q 0)) = pw next.length (lett cls next) k (cnt0 acc) q
  | 0, q, hq, hB => by
    show cnt0 accs _ = cnt0 acc q
    unfold cnt0
    rw [h.accept hq hB]
  | k + 1, q, hq, hB => by
    have hv' := h.valid h.v.n1
    have hlt : ix ord (b.getD q 0) < (R.map nints).length := by rw [List.length_map, h.oi.rl]; exact idx_lt hB
    rw [pw_lett h.v k _ (h.rc.lt q hq), pw_lett hv' k _ hlt]
    refine sm_congr (fun x hx => ?_)
    obtain ⟨h1, h2, _, h4⟩ := h.step hq hB hx
    rw [nats_nints, nxN_nints, h4]
    exact h.count k h1 h2
end

/-- where a text of k letters leads -/
def Rch (s : Int) (cls : List Int) (next : List (List Int)) : Nat → Int → Prop
  | 0, q => q = s
  | k + 1, q => ∃ p b, Rch s cls next k p ∧ b < 256 ∧ q = mgo cls next p b
theorem Rch.bd {s cls next acc} (hv : Valid s cls next acc) : ∀ {k : Nat} {q : Int}, Rch s cls next k q → 0 ≤ q ∧ q < next.length
  | 0, q, h => by
    have e : q = s := h
    subst e; exact ⟨hv.s0, hv.s1⟩
  | k + 1, q, h => by
    obtain ⟨p, b, h1, h2, rfl⟩ := h
    have := Rch.bd hv h1
    exact (mgo_bd hv this.1 this.2 h2).2.2

theorem sm_pos {n : Nat} {f : Nat → Nat} : 0 < sm n f ↔ ∃ i, i < n ∧ 0 < f i := by
  induction n with
  | zero => simp [sm]
  | succ n ih =>
    rw [sm]
    constructor
    · intro h
      rcases Nat.eq_zero_or_pos (f n) with e | e
      · obtain ⟨i, hi, h2⟩ := ih.1 (by omega); exact ⟨i, by omega, h2⟩
      · exact ⟨n, by omega, e⟩
    · rintro ⟨i, hi, h⟩
      rcases Nat.lt_or_ge i n with h2 | h2
      · have := ih.2 ⟨i, h2, h⟩; omega
      · obtain rfl : i = n := by omega
        omega

theorem pw_pos {st : Nat} {cls next acc} (hv : Valid (st : Int) cls next acc) : ∀ (k : Nat) (v : Nat → Nat), 0 < pw next.length (lett cls next) k v st ↔ ∃ q : Nat, Rch st cls next k (q : Int) ∧ 0 < v q
  | 0, v => ⟨fun h => ⟨st, rfl, h⟩, fun ⟨q, h1, h2⟩ => by
    have e : (q : Int) = (st : Int) := h1
    obtain rfl : q = st := by omega
    exact h2⟩
  | k + 1, v => by
    rw [pw, pw_pos hv k]
    constructor
    · rintro ⟨p, h1, h2⟩
      have hp := h1.bd hv
      rw [lett_mv (fun q x hq hx => nx_lt hv hq hx) v (show p < next.length by omega)] at h2
      obtain ⟨x, hx, h3⟩ := sm_pos.1 h2
      exact ⟨_, ⟨p, x, h1, hx, (mgo_nx hv (show p < next.length by omega) hx).symm⟩, h3⟩
    · rintro ⟨q, ⟨p, x, h1, hx, h2⟩, h3⟩
      have hp := h1.bd hv
      obtain ⟨P, rfl⟩ := Int.eq_ofNat_of_zero_le hp.1
      refine ⟨P, h1, ?_⟩
      have hPl : P < next.length := by omega
      rw [lett_mv (fun q x hq hx => nx_lt hv hq hx) v hPl]
      rw [mgo_nx hv hPl hx] at h2
      obtain rfl : q = nxN next P ((nats cls).getD x 0) := by omega
      exact sm_pos.2 ⟨x, hx, h3⟩

/-- the search by breadth: what is known at index i -/
structure BI (s : Int) (cls : List Int) (next : List (List Int)) (acc : List Bool) (i : Nat) (R : Fnd) : Prop where
  good : Good next.length R
  zero : R[0]? = some (s, [])
  snd : ∀ (j : Nat) (q : Int) (t : List Int), R[j]? = some (q, t) → Rch s cls next t.length q
  no : ∀ (j : Nat) (q : Int) (t : List Int), j < i → R[j]? = some (q, t) → acc.getD q.toNat false = false
  cl : ∀ (j : Nat) (q : Int) (t : List Int), j < i → R[j]? = some (q, t) → ∀ b : Nat, b < 256 → ∃ (m : Nat) (t' : List Int), R[m]? = some (mgo cls next q b, t') ∧ t'.length ≤ t.length + 1
  mono : ∀ (j m : Nat) (q : Int) (t : List Int) (q' : Int) (t' : List Int), j ≤ m → R[j]? = some (q, t) → R[m]? = some (q', t') → t.length ≤ t'.length
  up : ∀ (q : Int) (t : List Int), R[i]? = some (q, t) → ∀ (m : Nat) (q' : Int) (t' : List Int), R[m]? = some (q', t') → t'.length ≤ t.length + 1
  le : i ≤ R.length

theorem BI.start {s cls next acc} (hv : Valid s cls next acc) : BI s cls next acc 0 [(s, [])] := by
  have get : ∀ {j : Nat} {x}, [((s : Int), ([] : List Int))][j]? = some x → j = 0 ∧ x = (s, []) := by
    intro j x h
    rcases j with _ | j
    · exact ⟨rfl, by simpa using h.symm⟩
    · simp at h
  refine ⟨good_start hv.s0 hv.s1, rfl, fun j q t h => ?_, fun j q t h => by omega, fun j q t h => by omega, fun j m q t q' t' _ h h' => ?_, fun q t h m q' t' h' => ?_, by simp⟩
  · obtain ⟨_, e⟩ := get h; cases e; rfl
  · obtain ⟨_, e⟩ := get h; obtain ⟨_, e'⟩ := get h'; cases e; cases e'; exact Nat.le_refl _
  · obtain ⟨_, e⟩ := get h; obtain ⟨_, e'⟩ := get h'; cases e; cases e'; simp

/-- within a round -/
structure BJ (s : Int) (cls : List Int) (next : List (List Int)) (acc : List Bool) (i : Nat) (q0 : Int) (t0 : List Int) (k : Nat) (R : Fnd) : Prop where
  good : Good next.length R
  zero : R[0]? = some (s, [])
  at_ : R[i]? = some (q0, t0)
  snd : ∀ (j : Nat) (q : Int) (t : List Int), R[j]? = some (q, t) → Rch s cls next t.length q
  no : ∀ (j : Nat) (q : Int) (t : List Int), j < i → R[j]? = some (q, t) → acc.getD q.toNat false = false
  cl : ∀ (j : Nat) (q : Int) (t : List Int), j < i → R[j]? = some (q, t) → ∀ b : Nat, b < 256 → ∃ (m : Nat) (t' : List Int), R[m]? = some (mgo cls next q b, t') ∧ t'.length ≤ t.length + 1
  cl2 : ∀ b : Nat, b < k → ∃ (m : Nat) (t' : List Int), R[m]? = some (mgo cls next q0 b, t') ∧ t'.length ≤ t0.length + 1
  mono : ∀ (j m : Nat) (q : Int) (t : List Int) (q' : Int) (t' : List Int), j ≤ m → R[j]? = some (q, t) → R[m]? = some (q', t') → t.length ≤ t'.length
  up : ∀ (m : Nat) (q' : Int) (t' : List Int), R[m]? = some (q', t') → t'.length ≤ t0.length + 1

theorem app_get {α : Type} {R : List α} {x y : α} {j : Nat} (h : (R ++ [x])[j]? = some y) : (j < R.length ∧ R[j]? = some y) ∨ (j = R.length ∧ y = x) := by
  rw [List.getElem?_append] at h
  split at h
  · exact .inl ⟨by assumption, h⟩
  · rename_i hlt
    have : j - R.length = 0 := by
      rcases Nat.eq_zero_or_pos (j - R.length) with z | z
      · exact z
      · rw [List.getElem?_eq_none (by simp; omega)] at h; cases h
    rw [this] at h
    exact .inr ⟨by omega, by simpa using h.symm⟩
theorem app_old {α : Type} {R : List α} {x y : α} {j : Nat} (h : R[j]? = some y) : (R ++ [x])[j]? = some y := by
  rw [List.getElem?_append_left (List.getElem?_eq_some_iff.1 h).1]; exact h

theorem BJ.step {s cls next acc} (hv : Valid s cls next acc) {i : Nat} {q0 : Int} {t0 : List Int} {k : Nat} {R : Fnd} (h : BJ s cls next acc i q0 t0 k R) (hk : k < 256) : BJ s cls next acc i q0 t0 (k + 1) (sstep cls next q0 t0 R k) := by
  have hq0 := h.snd _ _ _ h.at_
  have hb0 := hq0.bd hv
  have hm := mgo_bd hv hb0.1 hb0.2 hk
  unfold sstep
  split
  · rename_i hh
    refine ⟨h.good, h.zero, h.at_, h.snd, h.no, h.cl, fun b hb => ?_, h.mono, h.up⟩
    by_cases e : b = k
    · subst e
      obtain ⟨⟨q', t'⟩, hx, he⟩ := List.mem_map.1 (has_iff.1 hh)
      obtain ⟨m, hm, he2⟩ := List.getElem_of_mem hx
      have hg : R[m]? = some (q', t') := by rw [List.getElem?_eq_getElem hm, he2]
      simp only at he
      subst he
      exact ⟨m, t', hg, h.up _ _ _ hg⟩
    · exact h.cl2 b (by omega)
  · rename_i hh
    have hh' : has R (mgo cls next q0 k) = false := by simpa using hh
    have hold : ∀ {j x}, R[j]? = some x → (R ++ [(mgo cls next q0 k, t0 ++ [(k : Int)])])[j]? = some x := fun h => app_old h
    refine ⟨h.good.push hm.2.2.1 hm.2.2.2 hh', hold h.zero, hold h.at_, fun j q t hj => ?_, fun j q t hji hj => ?_, fun j q t hji hj b hb => ?_, fun b hb => ?_, fun j m q t q' t' hjm hj hm' => ?_, fun m q' t' hm' => ?_⟩
    · rcases app_get hj with ⟨_, h1⟩ | ⟨_, h1⟩
      · exact h.snd j q t h1
      · cases h1
        rw [List.length_append, List.length_singleton]
        exact ⟨q0, k, hq0, hk, rfl⟩
    · rcases app_get hj with ⟨_, h1⟩ | ⟨h2, h1⟩
      · exact h.no j q t hji h1
      · have := (List.getElem?_eq_some_iff.1 h.at_).1; omega
    · rcases app_get hj with ⟨_, h1⟩ | ⟨h2, h1⟩
      · obtain ⟨m, t', h3, h4⟩ := h.cl j q t hji h1 b hb
        exact ⟨m, t', hold h3, h4⟩
      · have := (List.getElem?_eq_some_iff.1 h.at_).1; omega
    · by_cases e : b = k
      · subst e; exact ⟨R.length, t0 ++ [(b : Int)], by simp, by simp⟩
      · obtain ⟨m, t', h3, h4⟩ := h.cl2 b (by omega)
        exact ⟨m, t', hold h3, h4⟩
    · rcases app_get hj with ⟨h0, h1⟩ | ⟨h0, h1⟩ <;> rcases app_get hm' with ⟨h2, h3⟩ | ⟨h2, h3⟩
      · exact h.mono j m q t q' t' hjm h1 h3
      · cases h3
        have := h.up _ _ _ h1
        rw [List.length_append, List.length_singleton]; exact this
      · omega
      · cases h1; cases h3; exact Nat.le_refl _
    · rcases app_get hm' with ⟨h2, h3⟩ | ⟨h2, h3⟩
      · exact h.up _ _ _ h3
      · cases h3; simp

theorem BJ.exp {s cls next acc} (hv : Valid s cls next acc) {i : Nat} {q0 : Int} {t0 : List Int} {R : Fnd} (h : BJ s cls next acc i q0 t0 0 R) : ∀ (k : Nat), k ≤ 256 → BJ s cls next acc i q0 t0 k (expTo cls next q0 t0 R k)
  | 0, _ => h
  | k + 1, hk => (h.exp hv k (by omega)).step hv (by omega)

theorem BI.round {s cls next acc} (hv : Valid s cls next acc) {i : Nat} {q0 : Int} {t0 : List Int} {R : Fnd} (h : BI s cls next acc i R) (hi : R[i]? = some (q0, t0)) (ha : acc.getD q0.toNat false = false) : BI s cls next acc (i + 1) (expTo cls next q0 t0 R 256) := by
  have h0 : BJ s cls next acc i q0 t0 0 R := ⟨h.good, h.zero, hi, h.snd, h.no, h.cl, fun b hb => by omega, h.mono, h.up q0 t0 hi⟩
  have h1 := h0.exp hv 256 (Nat.le_refl _)
  refine ⟨h1.good, h1.zero, h1.snd, fun j q t hj hg => ?_, fun j q t hj hg b hb => ?_, h1.mono, fun q t hg m q' t' hm => ?_, ?_⟩
  · by_cases e : j = i
    · subst e; rw [h1.at_] at hg; cases hg; exact ha
    · exact h1.no j q t (by omega) hg
  · by_cases e : j = i
    · subst e; rw [h1.at_] at hg; cases hg; exact h1.cl2 b hb
    · exact h1.cl j q t (by omega) hg b hb
  · have := h1.up m q' t' hm
    have := h1.mono i (i + 1) q0 t0 q t (by omega) h1.at_ hg
    omega
  · have := (List.getElem?_eq_some_iff.1 h1.at_).1; omega

/-- all that a short text reaches has been found -/
theorem BI.found {s cls next acc} (hv : Valid s cls next acc) {i : Nat} {R : Fnd} (h : BI s cls next acc i R) {d : Nat} (hd : ∀ (m : Nat) (q : Int) (t : List Int), R[m]? = some (q, t) → t.length < d → m < i) :
    ∀ (k : Nat) {p : Int}, k ≤ d → Rch s cls next k p → ∃ (m : Nat) (t : List Int), R[m]? = some (p, t) ∧ t.length ≤ k
  | 0, p, _, hr => by
    have e : p = s := hr
    subst e; exact ⟨0, [], h.zero, Nat.le_refl _⟩
  | k + 1, p, hk, hr => by
    obtain ⟨p', b, h1, h2, rfl⟩ := hr
    obtain ⟨m, t, h3, h4⟩ := h.found hv hd k (by omega) h1
    obtain ⟨m', t', h5, h6⟩ := h.cl m p' t (hd m _ _ h3 (by omega)) h3 b h2
    exact ⟨m', t', h5, by omega⟩

theorem bfs_law {s cls next acc} (hv : Valid s cls next acc) : ∀ (f i : Nat) (R : Fnd), BI s cls next acc i R → f + i = next.length + 1 →
    match bfs cls next acc f i R with
    | none => ∀ k q, Rch s cls next k q → acc.getD q.toNat false = false
    | some t => (∃ q, Rch s cls next t.length q ∧ acc.getD q.toNat false = true) ∧ ∀ k q, Rch s cls next k q → acc.getD q.toNat false = true → t.length ≤ k
  | 0, i, R, h, hf => by have := h.good.len; have := h.le; omega
  | f + 1, i, R, h, hf => by
    unfold bfs
    cases hR : R[i]? with
    | none =>
      have hl : R.length ≤ i := by simpa using hR
      simp only
      intro k q hr
      obtain ⟨m, t, h1, _⟩ := h.found hv (d := k + 1) (fun m q t h1 _ => by have := (List.getElem?_eq_some_iff.1 h1).1; omega) k (by omega) hr
      exact h.no m q t (by have := (List.getElem?_eq_some_iff.1 h1).1; omega) h1
    | some x =>
      obtain ⟨q0, t0⟩ := x
      simp only
      by_cases ha : acc.getD q0.toNat false = true
      · rw [if_pos ha]
        refine ⟨⟨q0, h.snd i q0 t0 hR, ha⟩, fun k q hr hq => ?_⟩
        rcases Nat.lt_or_ge k t0.length with hlt | hge
        · have hd : ∀ (m : Nat) (q : Int) (t : List Int), R[m]? = some (q, t) → t.length < t0.length → m < i := fun m q t h1 h2 => by
            rcases Nat.lt_or_ge m i with h3 | h3
            · exact h3
            · have := h.mono i m q0 t0 q t h3 hR h1; omega
          obtain ⟨m, t, h1, h2⟩ := h.found hv hd k (by omega) hr
          have h3 := h.no m q t (hd m q t h1 (by omega)) h1
          rw [hq] at h3; cases h3
        · exact hge
      · rw [if_neg ha]
        exact bfs_law hv f (i + 1) _ (h.round hv hR (by simpa using ha)) (by omega)

/-- the shortest text against the counts -/
theorem shortest_count {st : Nat} {cls next acc} (hv : Valid (st : Int) cls next acc) (k : Nat) :
    match shortest st cls next acc with
    | none => pw next.length (lett cls next) k (cnt0 acc) st = 0
    | some t => (0 < pw next.length (lett cls next) t.length (cnt0 acc) st) ∧ (0 < pw next.length (lett cls next) k (cnt0 acc) st → t.length ≤ k) := by
  have h := bfs_law hv (next.length + 1) 0 _ (BI.start hv) rfl
  have hc : ∀ q : Nat, 0 < cnt0 acc q ↔ acc.getD q false = true := fun q => by unfold cnt0; cases acc.getD q false <;> simp
  unfold shortest
  cases hb : bfs cls next acc (next.length + 1) 0 [((st : Int), [])] with
  | none =>
    rw [hb] at h
    simp only at h ⊢
    rcases Nat.eq_zero_or_pos (pw next.length (lett cls next) k (cnt0 acc) st) with e | e
    · exact e
    · obtain ⟨q, h1, h2⟩ := (pw_pos hv k _).1 e
      have h3 := h k q h1
      rw [Int.toNat_natCast, (hc q).1 h2] at h3
      cases h3
  | some t =>
    rw [hb] at h
    simp only at h ⊢
    refine ⟨?_, fun hp => ?_⟩
    · obtain ⟨q, h1, h2⟩ := h.1
      have hq := h1.bd hv
      obtain ⟨Q, rfl⟩ := Int.eq_ofNat_of_zero_le hq.1
      exact (pw_pos hv _ _).2 ⟨Q, h1, (hc Q).2 (by rw [Int.toNat_natCast] at h2; exact h2)⟩
    · obtain ⟨q, h1, h2⟩ := (pw_pos hv k _).1 hp
      exact h.2 k q h1 (by rw [Int.toNat_natCast]; exact (hc q).1 h2)

end Go.Proofs.Ytajajkganamfiaa
