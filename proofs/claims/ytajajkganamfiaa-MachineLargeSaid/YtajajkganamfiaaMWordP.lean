/-
  The plain law of Words: counting texts by matrices, with a cap.
-/
import Derived.Test.YtajajkganamfiaaMMinH
namespace Go.Proofs.Ytajajkganamfiaa
open Go.RowKit
set_option linter.unusedVariables false
set_option linter.unusedSimpArgs false

/-- all counts above the greatest one are one -/
def capM : Nat := 1152921504606846977
def cp (x : Nat) : Nat := min x capM

theorem cp_le (x : Nat) : cp x ≤ capM := Nat.min_le_right _ _
theorem cp_id {x : Nat} (h : x ≤ capM) : cp x = x := Nat.min_eq_left h
theorem cp_big {x : Nat} (h : capM ≤ x) : cp x = capM := Nat.min_eq_right h
theorem cp_cp (x : Nat) : cp (cp x) = cp x := cp_id (cp_le x)
theorem cp_zero : cp 0 = 0 := rfl
theorem cp_pos {x : Nat} : 0 < cp x ↔ 0 < x := by unfold cp capM; omega
theorem cp_add (a b : Nat) : cp (cp a + b) = cp (a + b) := by unfold cp; omega
theorem cp_add2 (a b : Nat) : cp (a + cp b) = cp (a + b) := by unfold cp; omega

theorem cp_mul (a b : Nat) : cp (cp a * b) = cp (a * b) := by
  by_cases h : a ≤ capM
  · rw [cp_id h]
  · rcases Nat.eq_zero_or_pos b with e | e
    · subst e; simp
    · have h1 : capM ≤ cp a * b := by
        rw [cp_big (by omega)]
        exact Nat.le_mul_of_pos_right _ e
      have h2 : capM ≤ a * b := Nat.le_trans (by omega : capM ≤ a) (Nat.le_mul_of_pos_right _ e)
      rw [cp_big h1, cp_big h2]
theorem cp_mul2 (a b : Nat) : cp (cp a * cp b) = cp (a * b) := by rw [cp_mul, Nat.mul_comm, cp_mul, Nat.mul_comm]

/-- what add returns -/
def addC (s x y : Nat) : Nat := if capM ≤ x * y then capM else min (s + x * y) capM
theorem addC_eq (s x y : Nat) : addC s x y = cp (s + x * y) := by
  unfold addC
  split
  · rename_i h; rw [cp_big (by omega)]
  · rfl

/-- a sum over 0 .. n - 1 -/
def sm (n : Nat) (f : Nat → Nat) : Nat := match n with
  | 0 => 0
  | n + 1 => sm n f + f n

theorem sm_congr {n : Nat} {f g : Nat → Nat} (h : ∀ i, i < n → f i = g i) : sm n f = sm n g := by
  induction n with
  | zero => rfl
  | succ n ih => rw [sm, sm, ih (fun i hi => h i (by omega)), h n (by omega)]
theorem sm_add (n : Nat) (f g : Nat → Nat) : sm n (fun i => f i + g i) = sm n f + sm n g := by
  induction n with
  | zero => rfl
  | succ n ih => simp only [sm, ih]; omega
theorem sm_mul (n c : Nat) (f : Nat → Nat) : sm n (fun i => c * f i) = c * sm n f := by
  induction n with
  | zero => rfl
  | succ n ih => simp only [sm, ih, Nat.mul_add]
theorem sm_zero (n : Nat) : sm n (fun _ => 0) = 0 := by
  induction n with
  | zero => rfl
  | succ n ih => simp only [sm, ih]
theorem sm_swap (n m : Nat) (f : Nat → Nat → Nat) : sm n (fun i => sm m (fun j => f i j)) = sm m (fun j => sm n (fun i => f i j)) := by
  induction n with
  | zero => simp only [sm, sm_zero]
  | succ n ih => simp only [sm, ih, sm_add]
theorem sm_cp (n : Nat) (f g : Nat → Nat) (h : ∀ i, i < n → cp (f i) = cp (g i)) : cp (sm n f) = cp (sm n g) := by
  induction n with
  | zero => rfl
  | succ n ih =>
    simp only [sm]
    rw [← cp_add, ih (fun i hi => h i (by omega)), cp_add, ← cp_add2, h n (by omega), cp_add2]

/-- a matrix at a vector; the product of two matrices; powers -/
def mv (n : Nat) (A : Nat → Nat → Nat) (v : Nat → Nat) : Nat → Nat := fun q => sm n (fun p => A q p * v p)
def mm (n : Nat) (A B : Nat → Nat → Nat) : Nat → Nat → Nat := fun q p => sm n (fun r => A q r * B r p)
def pw (n : Nat) (A : Nat → Nat → Nat) : Nat → (Nat → Nat) → Nat → Nat
  | 0, v => v
  | k + 1, v => pw n A k (mv n A v)

theorem mv_congr {n : Nat} {A : Nat → Nat → Nat} {v w : Nat → Nat} (h : ∀ p, p < n → v p = w p) (q : Nat) : mv n A v q = mv n A w q := sm_congr (fun p hp => by rw [h p hp])
theorem mv_cp {n : Nat} {A B : Nat → Nat → Nat} {v w : Nat → Nat} (hA : ∀ q p, cp (A q p) = cp (B q p)) (h : ∀ p, p < n → cp (v p) = cp (w p)) (q : Nat) : cp (mv n A v q) = cp (mv n B w q) :=
  sm_cp n _ _ (fun p hp => by rw [← cp_mul2, hA, h p hp, cp_mul2])
theorem mv_mm (n : Nat) (A B : Nat → Nat → Nat) (v : Nat → Nat) (q : Nat) : mv n (mm n A B) v q = mv n A (mv n B v) q := by
  unfold mv mm
  rw [show (fun p => sm n (fun r => A q r * B r p) * v p) = fun p => sm n (fun r => A q r * (B r p * v p)) from funext fun p => by
    rw [Nat.mul_comm, ← sm_mul]
    exact sm_congr (fun r _ => by rw [Nat.mul_comm, Nat.mul_assoc])]
  rw [sm_swap]
  exact sm_congr (fun r _ => by rw [sm_mul])
theorem pw_congr {n : Nat} {A : Nat → Nat → Nat} : ∀ (k : Nat) {v w : Nat → Nat}, (∀ p, v p = w p) → ∀ q, pw n A k v q = pw n A k w q
  | 0, v, w, h, q => h q
  | k + 1, v, w, h, q => pw_congr k (fun p => mv_congr (fun r _ => h r) p) q
theorem pw_mat {n : Nat} {A B : Nat → Nat → Nat} : ∀ (k : Nat) (v : Nat → Nat), (∀ w q, mv n A w q = mv n B w q) → ∀ q, pw n A k v q = pw n B k v q
  | 0, v, h, q => rfl
  | k + 1, v, h, q => by
    rw [pw, pw, pw_mat k _ h q]
    exact pw_congr k (fun p => h v p) q
theorem pw_two (n : Nat) (A : Nat → Nat → Nat) : ∀ (k : Nat) (v : Nat → Nat) (q : Nat), pw n (mm n A A) k v q = pw n A (2 * k) v q
  | 0, v, q => rfl
  | k + 1, v, q => by
    rw [pw, pw_two n A k, show 2 * (k + 1) = (2 * k) + 1 + 1 by omega, pw, pw]
    exact pw_congr _ (fun p => mv_mm n A A v p) q
theorem pw_cp {n : Nat} {A B : Nat → Nat → Nat} (hA : ∀ q p, cp (A q p) = cp (B q p)) : ∀ (k : Nat) {v w : Nat → Nat}, (∀ p, p < n → cp (v p) = cp (w p)) → ∀ q, q < n → cp (pw n A k v q) = cp (pw n B k w q)
  | 0, v, w, h, q, hq => h q hq
  | k + 1, v, w, h, q, hq => pw_cp hA k (fun p _ => mv_cp hA h p) q hq
theorem pw_last (n : Nat) (A : Nat → Nat → Nat) : ∀ (k : Nat) (v : Nat → Nat) (q : Nat), pw n A (k + 1) v q = mv n A (pw n A k v) q
  | 0, v, q => rfl
  | k + 1, v, q => by rw [pw, pw_last n A k]; rfl

/-- how many letters lead from a state to another one -/
def lett (cls : List Int) (next : List (List Int)) (q p : Nat) : Nat := sm 256 (fun x => if nxN next q ((nats cls).getD x 0) = p then 1 else 0)

theorem sm_one {n p : Nat} (h : p < n) (v : Nat → Nat) : sm n (fun r => (if p = r then 1 else 0) * v r) = v p := by
  induction n with
  | zero => omega
  | succ n ih =>
    rw [sm]
    by_cases e : p = n
    · subst e
      rw [if_pos rfl, sm_congr (g := fun _ => 0) (fun i hi => by rw [if_neg (by omega), Nat.zero_mul]), sm_zero]; omega
    · rw [if_neg e, ih (by omega)]; omega

/-- by letters, and by states -/
theorem lett_mv {n : Nat} {cls : List Int} {next : List (List Int)} (hn : ∀ q x, q < n → x < 256 → nxN next q ((nats cls).getD x 0) < n) (v : Nat → Nat) {q : Nat} (hq : q < n) :
    mv n (lett cls next) v q = sm 256 (fun x => v (nxN next q ((nats cls).getD x 0))) := by
  unfold mv lett
  rw [show (fun p => sm 256 (fun x => if nxN next q ((nats cls).getD x 0) = p then 1 else 0) * v p) = fun p => sm 256 (fun x => (if nxN next q ((nats cls).getD x 0) = p then 1 else 0) * v p) from funext fun p => by
    rw [Nat.mul_comm, ← sm_mul]
    exact sm_congr (fun x _ => by rw [Nat.mul_comm])]
  rw [sm_swap]
  exact sm_congr (fun x hx => sm_one (hn q x hq hx) v)

end Go.Proofs.Ytajajkganamfiaa
