/-
  machines that count letters modulo n, the plain law: each is its own canonical machine.
-/
import Derived.Test.YtajajkganamfiaaMMinE
import Derived.Test.YtajajkganamfiaaMWordR
namespace Go.Proofs.Ytajajkganamfiaa
open Go.RowKit
set_option linter.unusedVariables false
set_option linter.unusedSimpArgs false

/-- Cycle(n): its classes, rows and bits -/
def cycC : List Int := List.replicate 256 0
def cycN (n : Nat) : List (List Int) := (List.range n).map fun i => [(((i + 1) % n : Nat) : Int)]
def cycA (n : Nat) : List Bool := (List.range n).map fun i => decide (i = 0)
theorem cycN_len (n : Nat) : (cycN n).length = n := by simp [cycN]
theorem cycN_get {n i : Nat} (h : i < n) : (cycN n).getD i [] = [(((i + 1) % n : Nat) : Int)] := by simp [cycN, List.getD, h]
theorem cycA_get {n i : Nat} (h : i < n) : (cycA n).getD i false = decide (i = 0) := by simp [cycA, List.getD, h]
theorem cycA_len (n : Nat) : (cycA n).length = n := by simp [cycA]
theorem cyc_ncls {n : Nat} (h : 0 < n) : ncls (cycN n) = 1 := by unfold ncls; rw [cycN_get h]; rfl
theorem cyc_valid {n : Nat} (h0 : 0 < n) (h1 : n ≤ 256) : Valid ((0 : Nat) : Int) cycC (cycN n) (cycA n) := by
  refine ⟨List.length_replicate .., by rw [cycA_len, cycN_len], by omega, by rw [cycN_len]; omega, by rw [cyc_ncls h0]; omega, by rw [cyc_ncls h0]; omega, by rw [cycN_len]; exact h1, fun row hr => ?_, fun q hq => ?_⟩
  · obtain ⟨i, hi, rfl⟩ := List.mem_map.1 hr
    refine ⟨by rw [cyc_ncls h0]; rfl, fun q hq => ?_⟩
    rw [List.mem_singleton] at hq
    subst hq
    have := Nat.mod_lt (i + 1) h0
    rw [cycN_len]; omega
  · rw [List.mem_replicate.1 hq |>.2, cyc_ncls h0]; omega
theorem cyc_cls (x : Nat) : (nats cycC).getD x 0 = 0 := by
  simp only [nats, cycC, List.map_replicate, List.getD_eq_getElem?_getD, List.getElem?_replicate]
  split <;> rfl
theorem cyc_nx {n q : Nat} (h : q < n) : nxN (cycN n) q 0 = (q + 1) % n := by
  unfold nxN; rw [cycN_get h]
  show (((q + 1) % n : Nat) : Int).toNat = _
  exact Int.toNat_natCast _

section
variable {n : Nat} {b first states fs clsv cols ord : List Nat} {W R : List (List Nat)} {accs : List Bool}

/-- the canonical machine of a cycle is that cycle -/
theorem cyc_canon (h0 : 0 < n) (h : MinF 0 cycC (cycN n) (cycA n) b first states fs clsv cols ord W R accs) : nints clsv = cycC ∧ R.map nints = cycN n ∧ accs = cycA n ∧ ord.length = n := by
  have hst : ∀ q, q < n → q ∈ states ∧ b.getD q 0 ∈ ord := by
    intro q
    induction q with
    | zero => intro _; exact ⟨h.start.1, h.start.2.1⟩
    | succ q ih =>
      intro hq
      have := h.step (ih (by omega)).1 (ih (by omega)).2 (x := 0) (by omega)
      rw [cyc_cls, cyc_nx (by omega), Nat.mod_eq_of_lt hq] at this
      exact ⟨this.1, this.2.1⟩
  obtain ⟨f, hf⟩ : ∃ f : Nat → Nat, f = fun q => ix ord (b.getD q 0) := ⟨_, rfl⟩
  have hf0 : f 0 = 0 := by rw [hf]; exact h.start.2.2
  -- all letters have one class
  have hcl : ∀ x, x < 256 → clsv.getD x 0 = 0 := by
    intro x hx
    have hv := h.ri.val x (by rw [List.take_of_length_le (by simp)]; exact List.mem_range.2 hx)
    rw [hv, h.ri.w, List.take_of_length_le (by simp)]
    rw [show (List.range 256).map (fun x => colk (cycN n) b first ((nats cycC).getD x 0)) = List.replicate 256 (colk (cycN n) b first 0) by
      rw [List.eq_replicate_iff]
      refine ⟨by simp, fun y hy => ?_⟩
      obtain ⟨z, _, rfl⟩ := List.mem_map.1 hy
      rw [cyc_cls], cyc_cls]
    have hd : ∀ (m : Nat) (k : List Nat), dd (List.replicate (m + 1) k) = [k] := by
      intro m k
      induction m with
      | zero => rfl
      | succ m ih =>
        rw [List.replicate_succ', dd_snoc, ih]
        exact ddStep_in (by simp)
    rw [hd 255]
    simp [ix]
  have hcols : cols.length = 1 := by
    rw [h.co, List.length_map]
    have hW : W = [colk (cycN n) b first 0] := by
      rw [h.ri.w, List.take_of_length_le (by simp)]
      rw [show (List.range 256).map (fun x => colk (cycN n) b first ((nats cycC).getD x 0)) = List.replicate 256 (colk (cycN n) b first 0) by
        rw [List.eq_replicate_iff]
        refine ⟨by simp, fun y hy => ?_⟩
        obtain ⟨z, _, rfl⟩ := List.mem_map.1 hy
        rw [cyc_cls]]
      have hd : ∀ (m : Nat) (k : List Nat), dd (List.replicate (m + 1) k) = [k] := by
        intro m k
        induction m with
        | zero => rfl
        | succ m ih =>
          rw [List.replicate_succ', dd_snoc, ih]
          exact ddStep_in (by simp)
      exact hd 255 _
    have := h.ri.map
    rw [hW] at this
    have := congrArg List.length this
    simpa using this
  have hstep : ∀ q, q < n → (R.getD (f q) []).getD 0 0 = f ((q + 1) % n) := by
    intro q hq
    have := (h.step (hst q hq).1 (hst q hq).2 (x := 0) (by omega)).2.2.2
    rw [hcl 0 (by omega), cyc_cls, cyc_nx hq] at this
    rw [hf]; exact this
  have hacc : ∀ q, q < n → accs.getD (f q) false = decide (q = 0) := by
    intro q hq
    rw [hf, h.accept (hst q hq).1 (hst q hq).2, cycA_get hq]
  have hlt : ∀ q, q < n → f q < ord.length := fun q hq => by rw [hf]; exact idx_lt (hst q hq).2
  -- two states differ
  have hgo : ∀ t q q', q < n → q' < n → f q = f q' → f ((q + t) % n) = f ((q' + t) % n) := by
    intro t
    induction t with
    | zero => intro q q' h1 h2 h3; rw [Nat.add_zero, Nat.add_zero, Nat.mod_eq_of_lt h1, Nat.mod_eq_of_lt h2]; exact h3
    | succ t ih =>
      intro q q' h1 h2 h3
      have h4 := ih q q' h1 h2 h3
      have h5 := hstep ((q + t) % n) (Nat.mod_lt _ h0)
      have h6 := hstep ((q' + t) % n) (Nat.mod_lt _ h0)
      rw [h4, h6] at h5
      rw [show (q + (t + 1)) % n = ((q + t) % n + 1) % n by rw [Nat.mod_add_mod, Nat.add_assoc], show (q' + (t + 1)) % n = ((q' + t) % n + 1) % n by rw [Nat.mod_add_mod, Nat.add_assoc]]
      exact h5.symm
  have hinj : ∀ q q', q < q' → q' < n → f q ≠ f q' := by
    intro q q' h1 h2 h3
    have h4 := hgo (n - q') q q' (by omega) h2 h3
    rw [show q' + (n - q') = n by omega, Nat.mod_self, Nat.mod_eq_of_lt (by omega), hf0] at h4
    have h5 := hacc (q + (n - q')) (by omega)
    have h6 := hacc 0 h0
    rw [hf0] at h6
    rw [h4, h6] at h5
    simp at h5
    omega
  have hcan : ∀ j, j < ord.length → (R.getD j []).getD 0 0 ≤ j + 1 := by
    intro j hj
    have := h.oi.canon j 0 hj (by omega)
    rw [hcols] at this
    omega
  have hid : ∀ m, m < n → ∀ q, q ≤ m → f q = q := by
    intro m
    induction m with
    | zero => intro _ q hq; obtain rfl : q = 0 := by omega
              exact hf0
    | succ m ih =>
      intro hm q hq
      have ihm := ih (by omega)
      rcases Nat.lt_or_ge q (m + 1) with h1 | h1
      · exact ihm q (by omega)
      · obtain rfl : q = m + 1 := by omega
        have h2 := hstep m (by omega)
        rw [Nat.mod_eq_of_lt (by omega), ihm m (Nat.le_refl _)] at h2
        have h3 := hcan m (by have := hlt m (by omega); rw [ihm m (Nat.le_refl _)] at this; exact this)
        rw [h2] at h3
        rcases Nat.lt_or_ge (f (m + 1)) (m + 1) with h4 | h4
        · have h5 := ihm (f (m + 1)) (by omega)
          exact absurd h5 (fun e => hinj (f (m + 1)) (m + 1) h4 hm (by rw [e]))
        · omega
  have hfid : ∀ q, q < n → f q = q := fun q hq => hid q hq q (Nat.le_refl _)
  have hord : ord.length = n := by
    have h1 : ord.length ≤ first.length := nodup_lt h.oi.nd h.oi.lt
    have h2 := h.pt.len
    have h3 := nodup_lt (n := (cycN n).length) h.rc.nd h.rc.lt
    rw [cycN_len] at h3
    have h4 := hlt (n - 1) (by omega)
    rw [hfid (n - 1) (by omega)] at h4
    omega
  have hRl : R.length = n := by rw [h.oi.rl, hord]
  have hal : accs.length = n := by rw [h.ac, List.length_map, hord]
  refine ⟨?_, ?_, ?_, hord⟩
  · have hcl9 : cycC.length = 256 := List.length_replicate ..
    apply List.ext_getElem (by rw [List.length_map, h.ri.nl, hcl9])
    intro i h1 h2
    have hi : i < 256 := by rw [hcl9] at h2; exact h2
    have := hcl i hi
    have hil : i < clsv.length := by rw [h.ri.nl]; exact hi
    simp only [List.getElem_map, cycC, List.getElem_replicate]
    rw [List.getD_eq_getElem?_getD, List.getElem?_eq_getElem hil] at this
    simp at this
    omega
  · apply List.ext_getElem (by simp [cycN_len, hRl])
    intro j h1 h2
    have hj : j < n := by simpa [cycN_len] using h2
    have hjR : j < R.length := by omega
    obtain ⟨k1, _⟩ := h.oi.row j ord[j] (by omega) (List.getElem?_eq_getElem (by omega))
    have hrl : (R[j]).length = 1 := by
      rw [List.getElem?_eq_getElem hjR] at k1
      rw [Option.some.inj k1, List.length_map, hcols]
    have hst2 := hstep j hj
    rw [hfid j hj, hfid _ (Nat.mod_lt _ h0)] at hst2
    rw [show R.getD j [] = R[j] by simp [List.getD, hjR]] at hst2
    simp only [List.getElem_map, cycN, List.getElem_range]
    match hr : R[j], hrl, hst2 with
    | [x], _, h3 => simp at h3; subst h3; rfl
  · apply List.ext_getElem (by rw [hal, cycA_len])
    intro j h1 h2
    have hj : j < n := by rw [cycA_len] at h2; exact h2
    have := hacc j hj
    rw [hfid j hj] at this
    simp only [cycA, List.getElem_map, List.getElem_range]
    rw [List.getD_eq_getElem?_getD, List.getElem?_eq_getElem h1] at this
    simpa using this
end

end Go.Proofs.Ytajajkganamfiaa
