/-
  Joined texts: syntax.Same, the plain law: a stack of pairs of nodes, and the pairs that have been seen. · tree.All, tree.Finite: the walks. · The reference's Depth, Size, Same. · Equality of trees as a function. · syntax.Same: the walk. · SyntaxStable: the walk.
-/
import Derived.Test.YtpabngicbfcdkaaDoorFo8
import Derived.Test.YtpabngicbfcdkaaDoorFo6
import Derived.Test.YtpabngicbfcdkaaDoorFo1
import Derived.Deep.RegionHeld3
import Derived.Deep.LoopGhost
import Derived.Deep.DeepCutAuto

/- syntax.Same, the plain law: a stack of pairs of nodes, and the pairs that have been seen. -/
namespace Go.Proofs.YtpabngicbfcdkaaDoor
open Go.RowKit
set_option linter.unusedVariables false
set_option linter.unusedSimpArgs false

/-- an entry of the stack: two nodes and their trees -/
structure PE where
  p : Addr
  t : Ex
  q : Addr
  u : Ex
def pw : List PE → Nat
  | [] => 0
  | x :: r => x.t.size + pw r
theorem pw_append (a b : List PE) : pw (a ++ b) = pw a + pw b := by
  induction a with
  | nil => simp [pw]
  | cons x r ih => simp only [List.cons_append, pw, ih]; omega
theorem pw_len (S : List PE) : S.length ≤ pw S := by
  induction S with
  | nil => simp
  | cons x r ih =>
    have := x.t.size_pos
    simp only [pw, List.length_cons]; omega
def cellsPE (S : List PE) : List Value := S.flatMap fun x => [Value.pointer (some x.p), Value.pointer (some x.q)]
theorem cellsPE_len (S : List PE) : (cellsPE S).length = S.length * 2 := by
  induction S with
  | nil => rfl
  | cons p r ih => simp only [cellsPE, List.flatMap_cons, List.length_append, List.length_cons, List.length_nil] at *; omega
theorem cellsPE_snoc (S : List PE) (x : PE) : cellsPE (S ++ [x]) = cellsPE S ++ [.pointer (some x.p), .pointer (some x.q)] := by simp [cellsPE]
theorem cellsPE_last (S : List PE) (x : PE) : (cellsPE (S ++ [x]))[S.length * 2]? = some (.pointer (some x.p)) ∧ (cellsPE (S ++ [x]))[S.length * 2 + 1]? = some (.pointer (some x.q)) := by
  rw [cellsPE_snoc]
  refine ⟨?_, ?_⟩
  · rw [List.getElem?_append_right (by rw [cellsPE_len]; omega), cellsPE_len, Nat.sub_self]; rfl
  · rw [List.getElem?_append_right (by rw [cellsPE_len]; omega), cellsPE_len, show S.length * 2 + 1 - S.length * 2 = 1 by omega]; rfl

/-- the pairs of arguments -/
def kp (b o b' o' : Nat) : List Ex → List Ex → List PE
  | t :: r, u :: r' => ⟨⟨b, o, none⟩, t, ⟨b', o', none⟩, u⟩ :: kp b (o + 4) b' (o' + 4) r r'
  | _, _ => []
theorem kp_len : ∀ (ts us : List Ex) (b o b' o' : Nat), ts.length = us.length → (kp b o b' o' ts us).length = ts.length
  | [], [], _, _, _, _, _ => rfl
  | [], _ :: _, _, _, _, _, h => by simp at h
  | _ :: _, [], _, _, _, _, h => by simp at h
  | t :: r, u :: r', b, o, b', o', h => by
    simp only [kp, List.length_cons]
    rw [kp_len r r' _ _ _ _ (by simpa using h)]
theorem kp_snoc : ∀ (ts us : List Ex) (b o b' o' : Nat) (t u : Ex), ts.length = us.length → kp b o b' o' (ts ++ [t]) (us ++ [u]) = kp b o b' o' ts us ++ [⟨⟨b, o + 4 * ts.length, none⟩, t, ⟨b', o' + 4 * ts.length, none⟩, u⟩]
  | [], [], _, _, _, _, _, _, _ => rfl
  | [], _ :: _, _, _, _, _, _, _, h => by simp at h
  | _ :: _, [], _, _, _, _, _, _, h => by simp at h
  | x :: r, y :: r', b, o, b', o', t, u, h => by
    simp only [List.cons_append, kp]
    rw [kp_snoc r r' _ _ _ _ t u (by simpa using h)]
    simp only [List.length_cons, List.cons.injEq, true_and]
    rw [show o + 4 + 4 * r.length = o + 4 * (r.length + 1) by omega, show o' + 4 + 4 * r.length = o' + 4 * (r.length + 1) by omega]
theorem kp_pw : ∀ (ts us : List Ex) (b o b' o' : Nat), pw (kp b o b' o' ts us) ≤ Ex.sizes ts
  | [], _, _, _, _, _ => by simp [kp, pw]
  | _ :: _, [], _, _, _, _ => by simp [kp, pw]
  | t :: r, u :: r', b, o, b', o' => by
    have := kp_pw r r' b (o + 4) b' (o' + 4)
    simp only [kp, pw, Ex.sizes]; omega
theorem kp_get : ∀ (ts us : List Ex) (b o b' o' i : Nat) (t u : Ex), ts[i]? = some t → us[i]? = some u → (⟨⟨b, o + 4 * i, none⟩, t, ⟨b', o' + 4 * i, none⟩, u⟩ : PE) ∈ kp b o b' o' ts us
  | [], _, _, _, _, _, _, _, _, h, _ => by cases h
  | _ :: _, [], _, _, _, _, _, _, _, _, h => by cases h
  | x :: r, y :: r', b, o, b', o', 0, t, u, h1, h2 => by
    simp at h1 h2; subst h1; subst h2; simp [kp]
  | x :: r, y :: r', b, o, b', o', i + 1, t, u, h1, h2 => by
    have := kp_get r r' b (o + 4) b' (o' + 4) i t u (by simpa using h1) (by simpa using h2)
    rw [show o + 4 + 4 * i = o + 4 * (i + 1) by omega, show o' + 4 + 4 * i = o' + 4 * (i + 1) by omega] at this
    exact List.mem_cons_of_mem _ this
theorem kp_mem : ∀ (ts us : List Ex) (b o b' o' : Nat) (x : PE), x ∈ kp b o b' o' ts us → ∃ i, ts[i]? = some x.t ∧ us[i]? = some x.u ∧ x.p = ⟨b, o + 4 * i, none⟩ ∧ x.q = ⟨b', o' + 4 * i, none⟩
  | [], _, _, _, _, _, _, h => by simp [kp] at h
  | _ :: _, [], _, _, _, _, _, h => by simp [kp] at h
  | t :: r, u :: r', b, o, b', o', x, h => by
    rcases List.mem_cons.1 h with rfl | h
    · exact ⟨0, rfl, rfl, rfl, rfl⟩
    · obtain ⟨i, h1, h2, h3, h4⟩ := kp_mem r r' _ _ _ _ x h
      exact ⟨i + 1, by simpa using h1, by simpa using h2, by rw [h3]; congr 1; omega, by rw [h4]; congr 1; omega⟩

/-- two nodes are alike but for their arguments -/
def ndq (t u : Ex) : Prop := t.kind = u.kind ∧ t.text = u.text ∧ t.num = u.num ∧ t.args.length = u.args.length

/-- what the walk of Same knows -/
structure SI (T T' : Nat → Prop) (w : World) (root root' : Ex) (p0 q0 : Addr) (S : List PE) (f : Addr × Addr → Option Value) : Prop where
  rd : ∀ x ∈ S, RdP T w x.t x.p ∧ RdP T' w x.u x.q
  sn : ∀ p q v, f (p, q) = some v → v = .bool true ∧ ∃ t u, RdP T w t p ∧ RdP T' w u q ∧ ndq t u ∧ ∀ i t' u', t.args[i]? = some t' → u.args[i]? = some u' → ∃ pk qk, KidAt w p i pk ∧ KidAt w q i qk ∧ (f (pk, qk) ≠ none ∨ ∃ x ∈ S, x.p = pk ∧ x.q = qk)
  rt : f (p0, q0) ≠ none ∨ ∃ x ∈ S, x.p = p0 ∧ x.q = q0
  eqv : root = root' → ∀ x ∈ S, x.t = x.u

theorem SI.start {T T' w root root' p0 q0} (h : RdP T w root p0) (h' : RdP T' w root' q0) : SI T T' w root root' p0 q0 [⟨p0, root, q0, root'⟩] (fun _ => none) :=
  ⟨fun x hx => (by simp at hx; subst hx; exact ⟨h, h'⟩), fun p q v hv => (by cases hv), .inr ⟨_, List.mem_singleton.2 rfl, rfl, rfl⟩, fun e x hx => (by simp at hx; subst hx; exact e)⟩
theorem SI.skip {T T' w root root' p0 q0 S x f} (h : SI T T' w root root' p0 q0 (S ++ [x]) f) (hf : f (x.p, x.q) ≠ none) : SI T T' w root root' p0 q0 S f := by
  have cov : ∀ pk qk, (f (pk, qk) ≠ none ∨ ∃ y ∈ S ++ [x], y.p = pk ∧ y.q = qk) → (f (pk, qk) ≠ none ∨ ∃ y ∈ S, y.p = pk ∧ y.q = qk) := by
    rintro pk qk (h | ⟨y, hy, rfl, rfl⟩)
    · exact .inl h
    · rcases List.mem_append.1 hy with hy | hy
      · exact .inr ⟨y, hy, rfl, rfl⟩
      · simp at hy; subst hy; exact .inl hf
  refine ⟨fun y hy => h.rd y (List.mem_append_left _ hy), fun p q v hv => ?_, cov _ _ h.rt, fun e y hy => h.eqv e y (List.mem_append_left _ hy)⟩
  obtain ⟨h1, t, u, h2, h3, h4, h5⟩ := h.sn p q v hv
  exact ⟨h1, t, u, h2, h3, h4, fun i t' u' ht hu => by
    obtain ⟨pk, qk, k1, k2, k3⟩ := h5 i t' u' ht hu
    exact ⟨pk, qk, k1, k2, cov _ _ k3⟩⟩
theorem SI.bad {T T' w root root' p0 q0 S x f} (h : SI T T' w root root' p0 q0 (S ++ [x]) f) (hb : ¬ ndq x.t x.u) : root ≠ root' := fun e => hb (by
  rw [h.eqv e x (by simp)]
  exact ⟨rfl, rfl, rfl, rfl⟩)
theorem SI.open {T T' w root root' p0 q0 S x f} (h : SI T T' w root root' p0 q0 (S ++ [x]) f) (hn : ndq x.t x.u) {b o b' o' : Nat}
    (hk : ∀ i t, x.t.args[i]? = some t → KidAt w x.p i ⟨b, o + 4 * i, none⟩) (hk' : ∀ i t, x.u.args[i]? = some t → KidAt w x.q i ⟨b', o' + 4 * i, none⟩) :
    SI T T' w root root' p0 q0 (S ++ kp b o b' o' x.t.args x.u.args) (fun y => if y = (x.p, x.q) then some (.bool true) else f y) := by
  obtain ⟨hrx, hrx'⟩ := h.rd x (by simp)
  have cov : ∀ pk qk, (f (pk, qk) ≠ none ∨ ∃ y ∈ S ++ [x], y.p = pk ∧ y.q = qk) → ((fun y => if y = (x.p, x.q) then some (Value.bool true) else f y) (pk, qk) ≠ none ∨ ∃ y ∈ S ++ kp b o b' o' x.t.args x.u.args, y.p = pk ∧ y.q = qk) := by
    rintro pk qk (h | ⟨y, hy, rfl, rfl⟩)
    · refine .inl ?_
      simp only
      split
      · simp
      · exact h
    · rcases List.mem_append.1 hy with hy | hy
      · exact .inr ⟨y, List.mem_append_left _ hy, rfl, rfl⟩
      · simp at hy; subst hy; exact .inl (by simp)
  refine ⟨fun y hy => ?_, fun p q v hv => ?_, cov _ _ h.rt, fun e y hy => ?_⟩
  · rcases List.mem_append.1 hy with hy | hy
    · exact h.rd y (List.mem_append_left _ hy)
    · obtain ⟨i, h1, h2, h3, h4⟩ := kp_mem _ _ _ _ _ _ y hy
      obtain ⟨r1, k1, k2⟩ := hrx.kid h1
      obtain ⟨r2, k3, k4⟩ := hrx'.kid h2
      rw [h3, h4, ← k1.uniq (hk i _ h1), ← k3.uniq (hk' i _ h2)]
      exact ⟨k2, k4⟩
  · by_cases e : (p, q) = (x.p, x.q)
    · simp only [if_pos e, Option.some.injEq] at hv
      cases e
      refine ⟨hv.symm, x.t, x.u, hrx, hrx', hn, fun i t' u' ht hu => ⟨_, _, hk i t' ht, hk' i u' hu, .inr ⟨_, List.mem_append_right _ (kp_get _ _ b o b' o' i t' u' ht hu), rfl, rfl⟩⟩⟩
    · simp only [if_neg e] at hv
      obtain ⟨h1, t, u, h2, h3, h4, h5⟩ := h.sn p q v hv
      exact ⟨h1, t, u, h2, h3, h4, fun i t' u' ht hu => by
        obtain ⟨pk, qk, k1, k2, k3⟩ := h5 i t' u' ht hu
        exact ⟨pk, qk, k1, k2, cov _ _ k3⟩⟩
  · rcases List.mem_append.1 hy with hy | hy
    · exact h.eqv e y (List.mem_append_left _ hy)
    · obtain ⟨i, h1, h2, _, _⟩ := kp_mem _ _ _ _ _ _ y hy
      rw [h.eqv e x (by simp)] at h1
      rw [h1] at h2
      exact Option.some.inj h2
theorem SI.end_ {T T' w root root' p0 q0 f} (h : SI T T' w root root' p0 q0 [] f) (hr : RdP T w root p0) (hr' : RdP T' w root' q0) : root = root' := by
  have key : ∀ (n : Nat) (t u : Ex) (p q : Addr), t.size ≤ n → RdP T w t p → RdP T' w u q → f (p, q) ≠ none → t = u := by
    intro n
    induction n with
    | zero => intro t u p q hn; have := t.size_pos; omega
    | succ n ih =>
      intro t u p q hn h1 h2 hf
      cases hv : f (p, q) with
      | none => exact absurd hv hf
      | some v =>
        obtain ⟨_, t1, u1, k1, k2, ⟨n1, n2, n3, n4⟩, k4⟩ := h.sn p q v hv
        obtain rfl := h1.uniq k1
        obtain rfl := h2.uniq k2
        have ha : t.args = u.args := by
          refine List.ext_getElem? fun i => ?_
          cases ht : t.args[i]? with
          | none =>
            rw [List.getElem?_eq_none_iff] at ht
            exact (List.getElem?_eq_none (by omega)).symm
          | some t' =>
            have hi := (List.getElem?_eq_some_iff.1 ht).1
            obtain ⟨u', hu⟩ : ∃ u', u.args[i]? = some u' := ⟨_, List.getElem?_eq_getElem (by omega)⟩
            obtain ⟨pk, qk, a1, a2, a3⟩ := k4 i t' u' ht hu
            obtain ⟨r1, b1, b2⟩ := h1.kid ht
            obtain ⟨r2, b3, b4⟩ := h2.kid hu
            rw [hu, ih t' u' pk qk (by have := Ex.size_kid ht; have := t.size_eq; omega) (by rw [← b1.uniq a1]; exact b2) (by rw [← b3.uniq a2]; exact b4) (by
              rcases a3 with a3 | ⟨x, hx, _⟩
              · exact a3
              · cases hx)]
        cases t; cases u
        simp only [Ex.kind, Ex.text, Ex.num, Ex.args] at n1 n2 n3 ha
        rw [n1, n2, n3, ha]
  refine key root.size root root' p0 q0 (Nat.le_refl _) hr hr' ?_
  rcases h.rt with h | ⟨x, hx, _⟩
  · exact h
  · cases hx

end Go.Proofs.YtpabngicbfcdkaaDoor

/- tree.All, tree.Finite: the walks. -/
namespace Go.Proofs.YtpabngicbfcdkaaDoor
open Go.RowKit
set_option linter.unusedVariables false
set_option linter.unusedSimpArgs false

theorem cf_fin (args : Array Value) (w : World) : (callFunc 52 args).run Tryd.prog w = .ok (.enter 52 args) w := by
  obtain ⟨c, hc⟩ : ∃ c, Tryd.f52.body = some c := ⟨_, rfl⟩
  exact cf_enter Tryd.func52 (by kernel_rfl) hc args w
theorem true_fin (p : Addr) (w : World) : Calls Tryd.prog 52 #[.pointer (some p)] w fun e w' => e = .returned (.bool true) ∧ w = w' := by
  go_enter Tryd.func52, Tryd.ntmps52
  go_wp2
  go_ret
  exact ⟨rfl, rfl⟩

set_option maxRecDepth 100000 in
theorem AllT_any (T : Nat → Prop) (root : Ex) (p0 : Addr) (w : World) (hr : RdP T w root p0) (hsz : root.size ≤ 1000000000) :
    Calls Tryd.prog 21 #[.pointer (some p0), .func (.func 52) #[] #[]] w fun e w' => e = .returned (.bool true) ∧ Below w.heap.size w w' := by
  have HO := Lib.hid (order_any 52 (fun _ => true) T root p0 w hr hsz cf_fin (fun wx t p _ _ _ _ => (true_fin p wx).mono fun e w' h => ⟨h.1, by rw [h.2]; exact Below.refl _ _⟩))
  clear hr hsz
  go_enter Tryd.func21, Tryd.ntmps21
  go_wp2_with fail
  refine HO.out.mono ?_
  rintro e w2 ⟨hb, ⟨L, a, c, rfl, h1, h2, h3, h4, h5⟩ | ⟨rfl, h1⟩⟩
  · have HF := Lib.hid hb
    clear hb h1 h2 h3 h4 h5
    go_wp2
    go_ret
    exact ⟨rfl, HF.out⟩
  · exact absurd (Ex.all_true root) h1

set_option maxRecDepth 100000 in
theorem Finite_any (T : Nat → Prop) (root : Ex) (p0 : Addr) (w : World) (hr : RdP T w root p0) (hsz : root.size ≤ 1000000000) :
    Calls Tryd.prog 32 #[.pointer (some p0)] w fun e w' => e = .returned (.bool true) ∧ Below w.heap.size w w' := by
  have HO := Lib.hid (AllT_any T root p0 w hr hsz)
  clear hr hsz
  go_enter Tryd.func32, Tryd.ntmps32
  go_wp2_with (go_at_call 21; refine HO.out.mono ?_; rintro e w2 ⟨rfl, hb⟩; have HB := Lib.hid hb; clear hb)
  go_ret
  exact ⟨rfl, HB.out⟩

end Go.Proofs.YtpabngicbfcdkaaDoor

/- The reference's Depth, Size, Same. -/
namespace Go.Proofs.YtpabngicbfcdkaaDoor
open Go.RowKit
set_option linter.unusedVariables false
set_option linter.unusedSimpArgs false

/-- the child behind an address, cell by cell -/
theorem RdA.kid {T : Nat → Prop} {w : World} {us : List Ex} {a : Option Addr} (h : RdA T w us a) {i : Nat} {u : Ex} (hu : us[i]? = some u) : ∃ b o ka kc, a = some ⟨b, o, none⟩ ∧ w.cell? ⟨b, o + i * 4, none⟩ = some (.int .i64 u.kind) ∧ w.cell? ⟨b, o + i * 4 + 1, none⟩ = some (.string u.text) ∧ w.cell? ⟨b, o + i * 4 + 2, none⟩ = some (.int .i64 u.num) ∧ w.cell? ⟨b, o + i * 4 + 3, none⟩ = some (.slice ka u.args.length kc) ∧ u.args.length ≤ kc ∧ RdA T w u.args ka := by
  obtain ⟨b, o, ha, hk⟩ := h.get hu
  obtain ⟨_, ka, kc, hn, hc, hr⟩ := hk.node
  have e : o + 4 * i = o + i * 4 := by omega
  rw [e] at hn
  exact ⟨b, o, ka, kc, ha, hn.cells.1, hn.cells.2.1, hn.cells.2.2.1, hn.cells.2.2.2, hc, hr⟩
theorem take_snoc' {α : Type} {l : List α} {i : Nat} {v : α} (h : l[i]? = some v) : l.take (i + 1) = l.take i ++ [v] := by
  obtain ⟨hi, rfl⟩ := List.getElem?_eq_some_iff.1 h
  exact List.take_succ_eq_append_getElem hi
theorem Ex.depths_take_le (us : List Ex) (i : Nat) : Ex.depths (us.take i) ≤ Ex.depths us := by
  have h := Ex.depths_append (us.take i) (us.drop i)
  rw [List.take_append_drop] at h; omega
theorem Ex.sizes_take_le (us : List Ex) (i : Nat) : Ex.sizes (us.take i) ≤ Ex.sizes us := by
  have h := Ex.sizes_append (us.take i) (us.drop i)
  rw [List.take_append_drop] at h; omega

set_option maxRecDepth 100000 in
set_option maxHeartbeats 1500000 in
theorem rdepth_any : ∀ (m : Nat) (T : Nat → Prop) (t : Ex) (a : Option Addr) (c : Nat) (w : World), t.size ≤ m → t.size ≤ 1000000 → RdA T w t.args a →
    Calls Tryd.prog 25 #[exV t a c] w fun e w' => e = .returned (.int .i64 (t.depth : Nat)) ∧ Below w.heap.size w w'
  | 0, _, t, _, _, _, h, _, _ => absurd t.size_pos (by omega)
  | m + 1, T, t, a, c, w, hm, hsz, ha => by
    have IH := Lib.hid (rdepth_any m)
    obtain ⟨w1, hw1⟩ : ∃ w1, w1 = w.alloc (.cells #[.int .i64 t.kind, .string t.text, .int .i64 t.num, .slice a t.args.length c] 25) := ⟨_, rfl⟩
    have HB1 : Hid (Below w.heap.size w w1) := Lib.hid (by rw [hw1]; exact below_alloc _ _)
    have HRA := Lib.hid (ha.below HB1.out)
    obtain ⟨N, hN⟩ : ∃ N, N = t.args.length := ⟨_, rfl⟩
    have HN := Lib.hid hN
    have HSZ := Lib.hid hsz
    have HM := Lib.hid hm
    obtain ⟨g, hg⟩ : ∃ g, g = w.heap.size := ⟨_, rfl⟩
    have hc3 : w1.cell? ⟨g, 3, none⟩ = some (.slice a N c) := by rw [hw1, hg, hN]; simp
    have hNi : (N : Int) ≤ 1000000 := by have h1 := Ex.sizes_len t.args; have h2 := t.size_eq; omega
    have HW1 := Lib.hid hw1
    have HG := Lib.hid hg
    have HC3 := Lib.hid hc3
    clear hm hsz ha hN hw1 hg hc3
    unfold exV
    go_enter Tryd.func25, Tryd.ntmps25
    go_upto_region 1 with fail
    rw [← HW1.out, ← HG.out]
    go_wp2
    go_loopw [3, 4] (fun nv iv wr => ∃ i : Nat, iv = .int .i64 i ∧ i ≤ N ∧ nv = .int .i64 ((Ex.depths (t.args.take i) : Nat) : Int) ∧ Below w1.heap.size w1 wr) (fun _ iv _ => N - (intOf iv).toNat)
    case atStart => exact ⟨0, rfl, by omega, by simp [Ex.depths], Below.refl _ _⟩
    case round =>
      obtain ⟨i, rfl, hi, rfl, hb⟩ := hrel
      have hc3 : wr.cell? ⟨g, 3, none⟩ = some (.slice a N c) := below_cell hb HC3.out
      have HB := Lib.hid hb
      by_cases hlt : i < N
      · obtain ⟨u, hu⟩ : ∃ u, t.args[i]? = some u := ⟨_, List.getElem?_eq_getElem (by rw [← HN.out]; exact hlt)⟩
        obtain ⟨b, o, ka, kc, haa, x0, x1, x2, x3, hkc, hkr⟩ := (HRA.out.below hb).kid hu
        have husz := Ex.size_kid hu
        have hud := Ex.depth_le u
        obtain ⟨s, hs⟩ : ∃ s, s = Ex.depths (t.args.take i) := ⟨_, rfl⟩
        obtain ⟨sv, hsv⟩ : ∃ sv, sv = u.depth := ⟨_, rfl⟩
        have hs9 : (s : Int) ≤ 1000000 := by have : s ≤ 1000000 := (by have h1 := Ex.depths_take_le t.args i; have h2 := Ex.depths_le t.args; have h3 := t.size_eq; have h9 := HSZ.out; omega)
                                             omega
        have hsv9 : (sv : Int) ≤ 1000000 := by have h9 := HSZ.out; have := t.size_eq; omega
        have HK := Lib.hid (IH.out T u ka kc wr (by have := t.size_eq; have := HM.out; omega) (by have := t.size_eq; have := HSZ.out; omega) hkr)
        rw [← hsv] at HK
        have HS : Hid (max s sv = Ex.depths (t.args.take (i + 1))) := Lib.hid (by rw [hs, hsv, take_snoc' hu, Ex.depths_append]; simp [Ex.depths])
        have hmx : max (s : Int) (sv : Int) = ((max s sv : Nat) : Int) := by omega
        rw [← hs]
        have hii : (i : Int) < (N : Int) := by omega
        have HLT := Lib.hid hlt
        subst haa
        unfold exV at HK
        clear hu hkr hkc husz hud hs hsv hlt hi hb
        go_wp2_with (go_at_call 25; refine HK.out.mono ?_; rintro e w5 ⟨rfl, hb5⟩; have HB5 := Lib.hid hb5; clear hb5)
        exact ⟨⟨i + 1, by go_num, HLT.out, by rw [← HS.out, ← hmx], bthen HB.out HB5.out⟩, by have := HLT.out; simp only [intOf]; omega⟩
      · obtain rfl : i = N := by omega
        have HF : Hid (Ex.depths (t.args.take i) + 1 = t.depth) := Lib.hid (by rw [List.take_of_length_le (by rw [HN.out]; exact Nat.le_refl _)]; have := t.depth_eq; omega)
        obtain ⟨s, hs⟩ : ∃ s, s = Ex.depths (t.args.take i) := ⟨_, rfl⟩
        have hs9 : (s : Int) ≤ 1000000 := by have : s ≤ 1000000 := (by have h1 := Ex.depths_take_le t.args i; have h2 := Ex.depths_le t.args; have h3 := t.size_eq; have h9 := HSZ.out; omega)
                                             omega
        rw [← hs] at HF ⊢
        clear hlt hi hs hb
        go_wp2
        go_ret
        exact ⟨by rw [← HF.out]; go_num, bthen HB1.out HB.out⟩

end Go.Proofs.YtpabngicbfcdkaaDoor

/- Equality of trees as a function. -/
namespace Go.Proofs.YtpabngicbfcdkaaDoor
open Go.RowKit
set_option linter.unusedVariables false
set_option linter.unusedSimpArgs false

mutual
/-- two trees are equal -/
def exq : Ex → Ex → Bool
  | .mk k s n us, .mk k' s' n' us' => k == k' && s.toList == s'.toList && n == n' && us.length == us'.length && exqs us us'
def exqs : List Ex → List Ex → Bool
  | t :: r, t' :: r' => exq t t' && exqs r r'
  | _, _ => true
end
theorem toList_inj {s s' : ByteArray} (h : s.toList = s'.toList) : s = s' := by
  rw [Go.ByteArray.toList_eq, Go.ByteArray.toList_eq] at h
  cases s; cases s'
  congr
  exact Array.toList_inj.1 h
mutual
theorem exq_iff : ∀ t t' : Ex, exq t t' = true ↔ t = t'
  | .mk k s n us, .mk k' s' n' us' => by
    simp only [exq, Bool.and_eq_true, beq_iff_eq, Ex.mk.injEq]
    constructor
    · rintro ⟨⟨⟨⟨h1, h2⟩, h3⟩, h4⟩, h5⟩
      exact ⟨h1, toList_inj h2, h3, (exqs_iff us us' h4).1 h5⟩
    · rintro ⟨rfl, rfl, rfl, rfl⟩
      exact ⟨⟨⟨⟨rfl, rfl⟩, rfl⟩, rfl⟩, (exqs_iff us us rfl).2 rfl⟩
theorem exqs_iff : ∀ us us' : List Ex, us.length = us'.length → (exqs us us' = true ↔ us = us')
  | [], [], _ => by simp [exqs]
  | [], _ :: _, h => by simp at h
  | _ :: _, [], h => by simp at h
  | t :: r, t' :: r', h => by
    simp only [exqs, Bool.and_eq_true, List.cons.injEq]
    rw [exq_iff t t', exqs_iff r r' (by simpa using h)]
end
theorem exq_self (t : Ex) : exq t t = true := (exq_iff t t).2 rfl
theorem exq_comm (t t' : Ex) : exq t t' = exq t' t := by
  rw [Bool.eq_iff_iff, exq_iff, exq_iff]; exact eq_comm
theorem exq_eq (t t' : Ex) : exq t t' = (t.kind == t'.kind && t.text.toList == t'.text.toList && t.num == t'.num && t.args.length == t'.args.length && exqs t.args t'.args) := by
  cases t; cases t'; rfl
theorem exqs_take : ∀ (us us' : List Ex) (i : Nat), us.length = us'.length → (∀ (j : Nat) u u', j < i → us[j]? = some u → us'[j]? = some u' → exq u u' = true) → us.length ≤ i → exqs us us' = true
  | [], [], _, _, _, _ => rfl
  | [], _ :: _, _, h, _, _ => by simp at h
  | _ :: _, [], _, h, _, _ => by simp at h
  | t :: r, t' :: r', i, h, ha, hi => by
    simp only [exqs, Bool.and_eq_true]
    refine ⟨ha 0 t t' (by simp at hi; omega) rfl rfl, exqs_take r r' (i - 1) (by simpa using h) (fun j u u' hj h1 h2 => ha (j + 1) u u' (by omega) (by simpa using h1) (by simpa using h2)) (by simp at hi; omega)⟩
theorem exqs_no : ∀ (us us' : List Ex) (i : Nat) (u u' : Ex), us[i]? = some u → us'[i]? = some u' → exq u u' = false → exqs us us' = false
  | t :: r, t' :: r', 0, u, u', h1, h2, h => by
    simp at h1 h2; subst h1; subst h2; simp [exqs, h]
  | t :: r, t' :: r', i + 1, u, u', h1, h2, h => by
    simp [exqs, exqs_no r r' i u u' (by simpa using h1) (by simpa using h2) h]
  | [], _, i, _, _, h1, _, _ => by cases h1
  | _ :: _, [], i, _, _, _, h2, _ => by cases h2

end Go.Proofs.YtpabngicbfcdkaaDoor

/- syntax.Same: the walk. -/
namespace Go.Proofs.YtpabngicbfcdkaaDoor
open Go.RowKit
set_option linter.unusedVariables false
set_option linter.unusedSimpArgs false

theorem EPair : EltG Tryd.prog 76 75 (.agg #[.pointer none, .pointer none]) 2 16 := ⟨Tryd.underlying76, info_parts (by kernel_rfl), rfl, by decide⟩
theorem zeroB (w : World) : (zeroValue 4).run Tryd.prog w = .ok (.bool false) w := by kernel_rfl

/-- what Same keeps in memory -/
structure SM (w0 : World) (bm : Nat) (S : List PE) (f : Addr × Addr → Option Value) (sv : Value) (wr : World) : Prop where
  stk : Row wr w0.heap.size 75 2 sv S.length (cellsPE S)
  mp : PMap wr penc2 bm f
  bel : Below w0.heap.size w0 wr
  lo : w0.heap.size ≤ bm
theorem SM.below {w0 bm S f sv w w'} (h : SM w0 bm S f sv w) (hb : Below w.heap.size w w') : SM w0 bm S f sv w' :=
  ⟨h.stk.below hb, h.mp.below hb, bthen h.bel hb, h.lo⟩
theorem SM.push {w0 bm S f sv w w'} (h : SM w0 bm S f sv w) {x : PE} {sv'} (hr : Row w' w0.heap.size 75 2 sv' (S.length + 1) (cellsPE S ++ [.pointer (some x.p), .pointer (some x.q)])) (hg : w.grownBy w' sv.ownBlock) : SM w0 bm (S ++ [x]) f sv' w' := by
  refine ⟨?_, h.mp.fr (S := fun b => sv.ownBlock = some b) (Fr.of_grown hg (fun k hk => hk)) (Row.ne_map h.stk h.mp), Row.grown h.stk hg h.bel.size |> h.bel.trans, h.lo⟩
  rw [List.length_append, cellsPE_snoc]; exact hr
theorem SM.map {w0 bm S f f' sv w w'} (h : SM w0 bm S f sv w) (hm : PMap w' penc2 bm f') (hg : w.grownBy w' (some bm)) : SM w0 bm S f' sv w' := by
  have hf : Fr (fun b => b = bm) w w' := Fr.of_grown hg (fun k hk => (Option.some.inj hk).symm)
  exact ⟨Row.fr h.stk hf (fun g hg2 e => Row.ne_map h.stk h.mp (by rw [hg2, e])), hm, h.bel.trans (hf.below (fun b e => by rw [e]; exact h.lo) h.bel.size), h.lo⟩
theorem SM.pop {w0 bm S x f a n c w} (h : SM w0 bm (S ++ [x]) f (.slice a n c) w) : SM w0 bm S f (.slice a S.length c) w := by
  refine ⟨?_, h.mp, h.bel, h.lo⟩
  have hs := h.stk
  obtain ⟨a', c', hv⟩ := Row.form hs
  simp only [Value.slice.injEq] at hv
  obtain ⟨rfl, rfl, rfl⟩ := hv
  rw [List.length_append, List.length_singleton] at hs
  have := Row.pop hs
  rw [cellsPE_snoc, List.take_left' (by rw [cellsPE_len])] at this
  exact this
theorem SM.top {w0 bm S x f a n c w} (h : SM w0 bm (S ++ [x]) f (.slice a n c) w) : ∃ g, a = some ⟨g, 0, none⟩ ∧ w.cell? ⟨g, S.length * 2, none⟩ = some (.pointer (some x.p)) ∧ w.cell? ⟨g, S.length * 2 + 1, none⟩ = some (.pointer (some x.q)) := by
  have hs := h.stk
  obtain ⟨a', c', hv⟩ := Row.form hs
  simp only [Value.slice.injEq] at hv
  obtain ⟨rfl, rfl, rfl⟩ := hv
  obtain ⟨h1, h2⟩ := cellsPE_last S x
  have hr := Row.rdG hs
  obtain ⟨b, off, ha, hc⟩ := hr.cell _ _ h1
  obtain ⟨b', off', ha', hc'⟩ := hr.cell _ _ h2
  rcases hs.2 with ⟨hv, h0⟩ | ⟨g, cap, cur, hv, _⟩
  · simp at h0
  · simp only [Value.slice.injEq] at hv
    obtain ⟨rfl, _, _⟩ := hv
    simp only [Option.some.injEq, Addr.mk.injEq, and_true] at ha ha'
    obtain ⟨rfl, rfl⟩ := ha
    obtain ⟨rfl, rfl⟩ := ha'
    rw [Nat.zero_add] at hc hc'
    exact ⟨g, rfl, hc, hc'⟩
theorem SI.ok {T T' w root root' p0 q0 S f} (h : SI T T' w root root' p0 q0 S f) : ∀ y v, f y = some v → OkA2 w y := fun y v hv => by
  obtain ⟨p, q⟩ := y
  obtain ⟨_, t, u, h1, h2, _⟩ := h.sn p q v hv
  exact ⟨h1.ok, h2.ok⟩
theorem OkA2.below {w w' : World} {y} (h : OkA2 w y) (hb : Below w.heap.size w w') : OkA2 w' y := ⟨h.1.fr (S := fun _ => False) (.of_below hb) (fun h => h), h.2.fr (S := fun _ => False) (.of_below hb) (fun h => h)⟩
theorem RdP.below {T : Nat → Prop} {w w' : World} {t p} (h : RdP T w t p) (hb : Below w.heap.size w w') : RdP T w' t p := ⟨h.1, RdE.below hb t h.2⟩
theorem kidbase {T : Nat → Prop} {w : World} {t : Ex} {pb po : Nat} {aa : Option Addr} {ac : Nat} (hnd : NodeAt w pb po t.kind t.text t.num (.slice aa t.args.length ac)) (hra : RdA T w t.args aa) :
    ∃ kb ko, (t.args.length ≠ 0 → aa = some ⟨kb, ko, none⟩) ∧ ∀ (i : Nat) (u : Ex), t.args[i]? = some u → KidAt w ⟨pb, po, none⟩ i ⟨kb, ko + 4 * i, none⟩ := by
  rcases hra with h0 | ⟨b', o', h1, h2⟩
  · exact ⟨0, 0, fun h => absurd (by rw [h0]; rfl) h, fun i u hu => by rw [h0] at hu; cases hu⟩
  · subst h1
    exact ⟨b', o', fun _ => rfl, fun i u hu => ⟨_, _, _, b', o', _, ac, hnd, rfl⟩⟩

set_option maxRecDepth 100000 in
set_option maxHeartbeats 4000000 in
theorem same_any (T T' : Nat → Prop) (t u : Ex) (a a' : Option Addr) (c c' : Nat) (w : World) (ha : RdA T w t.args a) (hc : t.args.length ≤ c) (ha' : RdA T' w u.args a') (hc' : u.args.length ≤ c') (hsz : t.size ≤ 1000000) (hsz' : u.size ≤ 1000000) :
    Calls Tryd.prog 16 #[exV t a c, exV u a' c'] w fun e w' => e = .returned (.bool (exq t u)) ∧ Below w.heap.size w w' := by
  obtain ⟨w1, hw1⟩ : ∃ w1, w1 = w.alloc (.cells #[.int .i64 t.kind, .string t.text, .int .i64 t.num, .slice a t.args.length c] 25) := ⟨_, rfl⟩
  obtain ⟨w2, hw2⟩ : ∃ w2, w2 = w1.alloc (.cells #[.int .i64 u.kind, .string u.text, .int .i64 u.num, .slice a' u.args.length c'] 25) := ⟨_, rfl⟩
  have HB1 : Hid (Below w.heap.size w w1) := Lib.hid (by rw [hw1]; exact below_alloc _ _)
  have HB12 : Hid (Below w1.heap.size w1 w2) := Lib.hid (by rw [hw2]; exact below_alloc _ _)
  have HB2 : Hid (Below w.heap.size w w2) := Lib.hid (bthen HB1.out HB12.out)
  obtain ⟨g, hg⟩ : ∃ g, g = w.heap.size := ⟨_, rfl⟩
  obtain ⟨g', hg'⟩ : ∃ g', g' = g + 1 := ⟨_, rfl⟩
  have hgs : w1.heap.size = g' := by rw [hg', hg, hw1]; simp
  have HRT : Hid (RdP (fun b => T b ∨ b = w.heap.size) w2 t ⟨g, 0, none⟩) := Lib.hid ⟨rfl, RdE.below HB12.out t (by rw [hw1, hg]; exact exV_boxed ha hc _)⟩
  have HRU : Hid (RdP (fun b => T' b ∨ b = w1.heap.size) w2 u ⟨g', 0, none⟩) := Lib.hid ⟨rfl, by rw [hw2, ← hgs]; exact exV_boxed (ha'.below HB1.out) hc' _⟩
  have HFP := Lib.hid (Finite_any _ t ⟨g, 0, none⟩ w2 HRT.out (by omega))
  have HFQ : Hid (∀ wx, Below w2.heap.size w2 wx → Calls Tryd.prog 32 #[.pointer (some ⟨g', 0, none⟩)] wx fun e w' => e = .returned (.bool true) ∧ Below wx.heap.size wx w') := Lib.hid (fun wx hb => Finite_any _ u ⟨g', 0, none⟩ wx (HRU.out.below hb) (by omega))
  have HSZ := Lib.hid hsz
  have HSZ' := Lib.hid hsz'
  have HW1 := Lib.hid hw1
  have HW2 := Lib.hid hw2
  have HG := Lib.hid hg
  have HG' := Lib.hid hg'
  have hmm := @run_makeMap Tryd.prog
  clear ha hc ha' hc' hsz hsz' hw1 hw2 hg hg' hgs
  unfold exV
  go_enter Tryd.func16, Tryd.ntmps16
  go_upto_region 1 with fail
  rw [← HW1.out, ← HW2.out, ← HG.out, ← HG'.out]
  go_upto_region 3 with (first | (go_at_call 32; refine HFP.out.mono ?_; rintro e w3 ⟨rfl, hb3⟩; have HB3 := Lib.hid hb3; clear hb3) | (go_at_call 32; refine (HFQ.out _ HB3.out).mono ?_; rintro e w4 ⟨rfl, hb34⟩; have HB34 := Lib.hid hb34; clear hb34))
  have HB24 : Hid (Below w2.heap.size w2 w4) := Lib.hid (bthen HB3.out HB34.out)
  have HB4 : Hid (Below w.heap.size w w4) := Lib.hid (bthen HB2.out HB24.out)
  have HRT4 := Lib.hid (HRT.out.below HB24.out)
  have HRU4 := Lib.hid (HRU.out.below HB24.out)
  go_wp2
  obtain ⟨w5, hw5⟩ : ∃ w5, w5 = (w4.alloc (.cells #[.pointer (some ⟨g, 0, none⟩), .pointer (some ⟨g', 0, none⟩)] 75)).alloc (.map #[] 0) := ⟨_, rfl⟩
  obtain ⟨bm, hbm⟩ : ∃ bm, bm = w4.heap.size + 1 := ⟨_, rfl⟩
  have HSM : Hid (SM w4 bm [⟨⟨g, 0, none⟩, t, ⟨g', 0, none⟩, u⟩] (fun _ => none) (.slice (some ⟨w4.heap.size, 0, none⟩) 1 1) w5) := Lib.hid (by
    have hb1 := below_alloc w4 (.cells #[.pointer (some ⟨g, 0, none⟩), .pointer (some ⟨g', 0, none⟩)] 75)
    have hb2 := below_alloc (w4.alloc (.cells #[.pointer (some ⟨g, 0, none⟩), .pointer (some ⟨g', 0, none⟩)] 75)) (.map #[] 0)
    rw [hw5, hbm]
    refine ⟨?_, ?_, bthen hb1 hb2, by omega⟩
    · have := World.ownsRow_lit (e := 75) (base := w4.heap.size) (size := 2) w4 #[.pointer (some ⟨g, 0, none⟩), .pointer (some ⟨g', 0, none⟩)] 1 (by simp) (by unfold maxLen; omega) rfl
      simp at this
      exact (show Row _ _ _ _ _ _ _ from this).below hb2
    · have := PMap.made (w4.alloc (.cells #[.pointer (some ⟨g, 0, none⟩), .pointer (some ⟨g', 0, none⟩)] 75)) penc2
      simpa using this)
  have HSI := Lib.hid (SI.start HRT4.out HRU4.out)
  have HBM := Lib.hid hbm
  rw [← hw5]
  rw [← hbm] at ⊢
  clear hw5 hbm
  go_loopg [5] t.size (fun gg sv wr => ∃ (S : List PE) (f : Addr × Addr → Option Value) (sa : Option Addr) (sc : Nat), pw S ≤ gg ∧ sv = .slice sa S.length sc ∧ SI (fun b => T b ∨ b = w.heap.size) (fun b => T' b ∨ b = w1.heap.size) w4 t u ⟨g, 0, none⟩ ⟨g', 0, none⟩ S f ∧ SM w4 bm S f sv wr ∧ pw S ≤ 1000000 ∧ ∀ x ∈ S, x.u.size ≤ 1000000)
  case atStart => exact ⟨[⟨⟨g, 0, none⟩, t, ⟨g', 0, none⟩, u⟩], fun _ => none, _, 1, by simp [pw], rfl, HSI.out, HSM.out, by have := HSZ.out; simp [pw]; omega, fun x hx => by simp at hx; subst hx; exact HSZ'.out⟩
  case round =>
    clear HSI HSM
    obtain ⟨S, f, sa, sc, hgg, rfl, hsi, hsm, hpw, hus⟩ := hrel
    rcases List.eq_nil_or_concat S with rfl | ⟨S', x, rfl⟩
    · have HSM := Lib.hid hsm
      have HE : Hid (exq t u = true) := Lib.hid ((exq_iff t u).2 (hsi.end_ HRT4.out HRU4.out))
      clear hsi hsm hpw hgg hus
      go_wp2
      go_ret
      exact ⟨by rw [HE.out]; rfl, bthen HB4.out HSM.out.bel⟩
    · rw [List.concat_eq_append] at *
      obtain ⟨gs, rfl, hc0, hc1⟩ := hsm.top
      obtain ⟨n, hn⟩ : ∃ n, n = S'.length := ⟨_, rfl⟩
      have hlen : (S' ++ [x]).length = n + 1 := by rw [hn]; simp
      have hn9 : (n : Int) ≤ 2000000000 := by
        have h1 := pw_len (S' ++ [x])
        omega
      have HN0 := Lib.hid hn
      have HSM := Lib.hid hsm
      have HSI := Lib.hid hsi
      have HGG := Lib.hid hgg
      have HPW := Lib.hid hpw
      have HUS := Lib.hid hus
      have hcap : n ≤ sc := by have := Row.cap hsm.stk; omega
      rw [← hn] at hc0 hc1
      rw [hlen]
      obtain ⟨hrp, hrq⟩ := hsi.rd x (by simp)
      clear hlen hn hsi hsm hgg hpw hus
      obtain ⟨p, t1, q, u1⟩ := x
      simp only at hc0 hc1 hrp hrq
      obtain ⟨pb, po, rfl⟩ : ∃ pb po, p = ⟨pb, po, none⟩ := ⟨_, _, addr_eta hrp.1⟩
      obtain ⟨qb, qo, rfl⟩ : ∃ qb qo, q = ⟨qb, qo, none⟩ := ⟨_, _, addr_eta hrq.1⟩
      obtain ⟨w3', hw3⟩ : ∃ w3', w3' = wr.alloc (.cells #[.pointer (some ⟨pb, po, none⟩), .pointer (some ⟨qb, qo, none⟩)] 75) := ⟨_, rfl⟩
      have hb3 : Below wr.heap.size wr w3' := by rw [hw3]; exact below_alloc _ _
      have x0 : w3'.cell? ⟨wr.heap.size, 0, none⟩ = some (.pointer (some ⟨pb, po, none⟩)) := by rw [hw3]; simp
      have x1 : w3'.cell? ⟨wr.heap.size, 1, none⟩ = some (.pointer (some ⟨qb, qo, none⟩)) := by rw [hw3]; simp
      have HSM3 := Lib.hid (HSM.out.pop.below hb3)
      have HBXM : Hid (¬ (bm = wr.heap.size)) := Lib.hid (by have h1 := HSM.out.mp.lt; omega)
      have HB3X : Hid (Below w4.heap.size w4 w3') := Lib.hid (bthen HSM.out.bel hb3)
      have HOKP : Hid (OkA2 w3' (⟨pb, po, none⟩, ⟨qb, qo, none⟩)) := Lib.hid (OkA2.below ⟨hrp.ok, hrq.ok⟩ HB3X.out)
      have HOK := Lib.hid (fun (y : Addr × Addr) (v : Value) (hv : f y = some v) => (HSI.out.ok y v hv).below HB3X.out)
      have HW3 := Lib.hid hw3
      have HRP := Lib.hid hrp
      have HRQ := Lib.hid hrq
      have HPW2 : Hid (pw S' + t1.size ≤ 1000000) := Lib.hid (by have := HPW.out; rw [pw_append] at this; simpa [pw] using this)
      rw [← HN0.out] at HSM3
      clear hb3 hw3 hrp hrq
      cases hf : f (⟨pb, po, none⟩, ⟨qb, qo, none⟩) with
      | some v =>
        obtain ⟨rfl, -⟩ := HSI.out.sn _ _ _ hf
        have HF := Lib.hid hf
        have HSI3 := Lib.hid (HSI.out.skip (by simp [hf]))
        clear hf
        go_upto_region 8 with fail
        rw [← HW3.out]
        go_wp2_with (refine PMap.wpLook HSM3.out.mp pk2 HOK.out Tryd.underlying77 (zeroB _) rfl (.tmp 34) (.tmp 35) rfl rfl (⟨pb, po, none⟩, ⟨qb, qo, none⟩) HOKP.out rfl ?_; rw [HF.out, Option.getD_some])
        go_roundg (pw S')
        case measure => have h1 := HGG.out; have := t1.size_pos; rw [pw_append] at h1; simp [pw] at h1; omega
        case rel => exact ⟨S', f, some ⟨gs, 0, none⟩, sc, Nat.le_refl _, by rw [HN0.out], HSI3.out, HSM3.out, by have := HPW2.out; omega, fun x hx => HUS.out x (List.mem_append_left _ hx)⟩
      | none =>
        have HF := Lib.hid hf
        have HBAD : Hid (¬ ndq t1 u1 → exq t u = false) := Lib.hid (fun h => by
          have h9 := HSI.out.bad (x := ⟨⟨pb, po, none⟩, t1, ⟨qb, qo, none⟩, u1⟩) h
          cases e : exq t u with
          | false => rfl
          | true => exact absurd ((exq_iff t u).1 e) h9)
        clear hf
        obtain ⟨-, aa, ac, hnd, hac, hra⟩ := HRP.out.2.node
        obtain ⟨-, aa', ac', hnd', hac', hra'⟩ := HRQ.out.2.node
        obtain ⟨N, hN⟩ : ∃ N, N = t1.args.length := ⟨_, rfl⟩
        obtain ⟨N', hN'⟩ : ∃ N', N' = u1.args.length := ⟨_, rfl⟩
        have HN := Lib.hid hN
        have HN' := Lib.hid hN'
        have HNT : Hid (∀ wx, Below w4.heap.size w4 wx → wx.cell? ⟨pb, po, none⟩ = some (.int .i64 t1.kind) ∧ wx.cell? ⟨pb, po + 1, none⟩ = some (.string t1.text) ∧ wx.cell? ⟨pb, po + 2, none⟩ = some (.int .i64 t1.num) ∧ wx.cell? ⟨pb, po + 3, none⟩ = some (.slice aa N ac)) := Lib.hid (fun wx hb => by
          obtain ⟨h0, h1, h2, h3⟩ := hnd.cells
          rw [← HN.out] at h3
          exact ⟨below_cell hb h0, below_cell hb h1, below_cell hb h2, below_cell hb h3⟩)
        have HNU : Hid (∀ wx, Below w4.heap.size w4 wx → wx.cell? ⟨qb, qo, none⟩ = some (.int .i64 u1.kind) ∧ wx.cell? ⟨qb, qo + 1, none⟩ = some (.string u1.text) ∧ wx.cell? ⟨qb, qo + 2, none⟩ = some (.int .i64 u1.num) ∧ wx.cell? ⟨qb, qo + 3, none⟩ = some (.slice aa' N' ac')) := Lib.hid (fun wx hb => by
          obtain ⟨h0, h1, h2, h3⟩ := hnd'.cells
          rw [← HN'.out] at h3
          exact ⟨below_cell hb h0, below_cell hb h1, below_cell hb h2, below_cell hb h3⟩)
        have HKB := Lib.hid (kidbase hnd hra)
        have HKB' := Lib.hid (kidbase hnd' hra')
        have hNi : (N : Int) ≤ 1000000 := by have h1 := Ex.sizes_len t1.args; have h2 := t1.size_eq; have h3 := HPW2.out; omega
        have HUZ : Hid (u1.size ≤ 1000000) := Lib.hid (HUS.out ⟨⟨pb, po, none⟩, t1, ⟨qb, qo, none⟩, u1⟩ (by simp))
        have hNi' : (N' : Int) ≤ 1000000 := by have h1 := Ex.sizes_len u1.args; have h2 := u1.size_eq; have h3 := HUZ.out; omega
        clear hnd hac hra hnd' hac' hra' hN hN'
        obtain ⟨q0, hq0⟩ : ∃ q, (t1.kind == u1.kind) = q := ⟨_, rfl⟩
        obtain ⟨q1, hq1⟩ : ∃ q, (t1.text.toList == u1.text.toList) = q := ⟨_, rfl⟩
        obtain ⟨q2, hq2⟩ : ∃ q, (t1.num == u1.num) = q := ⟨_, rfl⟩
        have hq0n : (t1.kind != u1.kind) = !q0 := by rw [bne, hq0]
        have hq1n : (t1.text.toList != u1.text.toList) = !q1 := by rw [bne, hq1]
        have hq2n : (t1.num != u1.num) = !q2 := by rw [bne, hq2]
        have hq1s : (!(t1.text.toList == u1.text.toList)) = !q1 := by rw [hq1]
        cases q0 with
        | false =>
          have HND : Hid (¬ ndq t1 u1) := Lib.hid (fun h => by rw [h.1] at hq0; simp at hq0)
          simp only [Bool.not_false] at hq0n
          clear hq0 hq1 hq2 hq1n hq2n hq1s
          have HE : Hid (exq t u = false) := Lib.hid (HBAD.out (by exact HND.out))
          go_upto_region 8 with fail
          rw [← HW3.out]
          go_upto_region 10 with (first | (refine PMap.wpLook HSM3.out.mp pk2 HOK.out Tryd.underlying77 (zeroB _) rfl (.tmp 34) (.tmp 35) rfl rfl (⟨pb, po, none⟩, ⟨qb, qo, none⟩) HOKP.out rfl ?_; rw [HF.out, Option.getD_none]) | (refine PMap.wpUpdate HSM3.out.mp pk2 HOK.out Tryd.underlying77 rfl (.tmp 37) (.tmp 38) (.const (.bool true)) rfl rfl (⟨pb, po, none⟩, ⟨qb, qo, none⟩) HOKP.out rfl (.bool true) rfl ?_; intro w7 hm7 hg7; have HSM7 := Lib.hid (HSM3.out.map hm7 hg7); have x0 : w7.cell? ⟨wr.heap.size, 0, none⟩ = some (.pointer (some ⟨pb, po, none⟩)) := hg7.cell x0 (fun e => by have h1 := HBXM.out; simp at e; omega); have x1 : w7.cell? ⟨wr.heap.size, 1, none⟩ = some (.pointer (some ⟨qb, qo, none⟩)) := hg7.cell x1 (fun e => by have h1 := HBXM.out; simp at e; omega); have HSZ7 := Lib.hid hg7.size; obtain ⟨m0, m1, m2, m3⟩ := HNT.out w7 HSM7.out.bel; obtain ⟨k0, k1, k2, k3⟩ := HNU.out w7 HSM7.out.bel; clear hm7 hg7))
          go_quiet (fail)
          go_wp2
          go_quiet (fail)
          go_wp2
          go_ret
          exact ⟨by rw [HE.out]; rfl, bthen HB4.out (bdrewN (bdrewN HSM7.out.bel _) _)⟩
        | true =>
        simp only [Bool.not_true] at hq0n
        cases q1 with
        | false =>
          have HND : Hid (¬ ndq t1 u1) := Lib.hid (fun h => by rw [h.2.1] at hq1; simp at hq1)
          simp only [Bool.not_false] at hq1n hq1s
          clear hq0 hq1 hq2 hq2n
          have HE : Hid (exq t u = false) := Lib.hid (HBAD.out (by exact HND.out))
          go_upto_region 8 with fail
          rw [← HW3.out]
          go_upto_region 10 with (first | (refine PMap.wpLook HSM3.out.mp pk2 HOK.out Tryd.underlying77 (zeroB _) rfl (.tmp 34) (.tmp 35) rfl rfl (⟨pb, po, none⟩, ⟨qb, qo, none⟩) HOKP.out rfl ?_; rw [HF.out, Option.getD_none]) | (refine PMap.wpUpdate HSM3.out.mp pk2 HOK.out Tryd.underlying77 rfl (.tmp 37) (.tmp 38) (.const (.bool true)) rfl rfl (⟨pb, po, none⟩, ⟨qb, qo, none⟩) HOKP.out rfl (.bool true) rfl ?_; intro w7 hm7 hg7; have HSM7 := Lib.hid (HSM3.out.map hm7 hg7); have x0 : w7.cell? ⟨wr.heap.size, 0, none⟩ = some (.pointer (some ⟨pb, po, none⟩)) := hg7.cell x0 (fun e => by have h1 := HBXM.out; simp at e; omega); have x1 : w7.cell? ⟨wr.heap.size, 1, none⟩ = some (.pointer (some ⟨qb, qo, none⟩)) := hg7.cell x1 (fun e => by have h1 := HBXM.out; simp at e; omega); have HSZ7 := Lib.hid hg7.size; obtain ⟨m0, m1, m2, m3⟩ := HNT.out w7 HSM7.out.bel; obtain ⟨k0, k1, k2, k3⟩ := HNU.out w7 HSM7.out.bel; clear hm7 hg7))
          go_quiet (fail)
          go_wp2
          go_quiet (fail)
          go_wp2
          go_ret
          exact ⟨by rw [HE.out]; rfl, bthen HB4.out (bdrewN (bdrewN HSM7.out.bel _) _)⟩
        | true =>
        simp only [Bool.not_true] at hq1n hq1s
        cases q2 with
        | false =>
          have HND : Hid (¬ ndq t1 u1) := Lib.hid (fun h => by rw [h.2.2.1] at hq2; simp at hq2)
          simp only [Bool.not_false] at hq2n
          clear hq0 hq1 hq2
          have HE : Hid (exq t u = false) := Lib.hid (HBAD.out (by exact HND.out))
          go_upto_region 8 with fail
          rw [← HW3.out]
          go_upto_region 10 with (first | (refine PMap.wpLook HSM3.out.mp pk2 HOK.out Tryd.underlying77 (zeroB _) rfl (.tmp 34) (.tmp 35) rfl rfl (⟨pb, po, none⟩, ⟨qb, qo, none⟩) HOKP.out rfl ?_; rw [HF.out, Option.getD_none]) | (refine PMap.wpUpdate HSM3.out.mp pk2 HOK.out Tryd.underlying77 rfl (.tmp 37) (.tmp 38) (.const (.bool true)) rfl rfl (⟨pb, po, none⟩, ⟨qb, qo, none⟩) HOKP.out rfl (.bool true) rfl ?_; intro w7 hm7 hg7; have HSM7 := Lib.hid (HSM3.out.map hm7 hg7); have x0 : w7.cell? ⟨wr.heap.size, 0, none⟩ = some (.pointer (some ⟨pb, po, none⟩)) := hg7.cell x0 (fun e => by have h1 := HBXM.out; simp at e; omega); have x1 : w7.cell? ⟨wr.heap.size, 1, none⟩ = some (.pointer (some ⟨qb, qo, none⟩)) := hg7.cell x1 (fun e => by have h1 := HBXM.out; simp at e; omega); have HSZ7 := Lib.hid hg7.size; obtain ⟨m0, m1, m2, m3⟩ := HNT.out w7 HSM7.out.bel; obtain ⟨k0, k1, k2, k3⟩ := HNU.out w7 HSM7.out.bel; clear hm7 hg7))
          go_quiet (fail)
          go_wp2
          go_quiet (fail)
          go_wp2
          go_ret
          exact ⟨by rw [HE.out]; rfl, bthen HB4.out (bdrewN (bdrewN HSM7.out.bel _) _)⟩
        | true =>
        simp only [Bool.not_true] at hq2n
        by_cases hl : N = N'
        · subst hl
          have HNDQ : Hid (ndq t1 u1) := Lib.hid ⟨by simpa using hq0, toList_inj (by simpa using hq1), by simpa using hq2, by rw [← HN.out, ← HN'.out]⟩
          obtain ⟨kb, ko, hka, hkk⟩ := HKB.out
          obtain ⟨kb', ko', hka', hkk'⟩ := HKB'.out
          have HKA := Lib.hid hka
          have HKA' := Lib.hid hka'
          have HOPEN := Lib.hid (SI.open HSI.out HNDQ.out (b := kb) (o := ko) (b' := kb') (o' := ko') hkk hkk')
          have HS9 : Hid (S'.length + N ≤ 1000000) := Lib.hid (by have h1 := HPW2.out; have h2 := pw_len S'; have h3 := Ex.sizes_len t1.args; have h4 := t1.size_eq; have h5 := HN.out; omega)
          clear hq0 hq1 hq2 hka hkk hka' hkk'
          go_upto_region 8 with fail
          rw [← HW3.out]
          go_upto_region 10 with (first | (refine PMap.wpLook HSM3.out.mp pk2 HOK.out Tryd.underlying77 (zeroB _) rfl (.tmp 34) (.tmp 35) rfl rfl (⟨pb, po, none⟩, ⟨qb, qo, none⟩) HOKP.out rfl ?_; rw [HF.out, Option.getD_none]) | (refine PMap.wpUpdate HSM3.out.mp pk2 HOK.out Tryd.underlying77 rfl (.tmp 37) (.tmp 38) (.const (.bool true)) rfl rfl (⟨pb, po, none⟩, ⟨qb, qo, none⟩) HOKP.out rfl (.bool true) rfl ?_; intro w7 hm7 hg7; have HSM7 := Lib.hid (HSM3.out.map hm7 hg7); have x0 : w7.cell? ⟨wr.heap.size, 0, none⟩ = some (.pointer (some ⟨pb, po, none⟩)) := hg7.cell x0 (fun e => by have h1 := HBXM.out; simp at e; omega); have x1 : w7.cell? ⟨wr.heap.size, 1, none⟩ = some (.pointer (some ⟨qb, qo, none⟩)) := hg7.cell x1 (fun e => by have h1 := HBXM.out; simp at e; omega); have HSZ7 := Lib.hid hg7.size; obtain ⟨m0, m1, m2, m3⟩ := HNT.out w7 HSM7.out.bel; obtain ⟨k0, k1, k2, k3⟩ := HNU.out w7 HSM7.out.bel; clear hm7 hg7))
          go_quiet (fail)
          obtain ⟨wq, hwq⟩ : ∃ wq, wq = w7.drewN nq := ⟨_, rfl⟩
          rw [← hwq]
          have HSMQ : Hid (SM w4 bm S' (fun y => if y = ((⟨pb, po, none⟩ : Addr), (⟨qb, qo, none⟩ : Addr)) then some (Value.bool true) else f y) (.slice (some ⟨gs, 0, none⟩) n sc) wq) := Lib.hid (by rw [hwq]; exact HSM7.out.below (bdrewN (Below.refl _ _) nq))
          clear hwq m0 m1 m2 m3 k0 k1 k2 k3 x0 x1
          obtain ⟨m0, m1, m2, m3⟩ := HNT.out wq HSMQ.out.bel
          obtain ⟨k0, k1, k2, k3⟩ := HNU.out wq HSMQ.out.bel
          go_wp2
          go_quiet (fail)
          obtain ⟨wp, hwp⟩ : ∃ wp, wp = wq.drewN nq := ⟨_, rfl⟩
          rw [← hwp]
          have HSMP : Hid (SM w4 bm S' (fun y => if y = ((⟨pb, po, none⟩ : Addr), (⟨qb, qo, none⟩ : Addr)) then some (Value.bool true) else f y) (.slice (some ⟨gs, 0, none⟩) n sc) wp) := Lib.hid (by rw [hwp]; exact HSMQ.out.below (bdrewN (Below.refl _ _) nq))
          clear hwp m0 m1 m2 m3 k0 k1 k2 k3
          obtain ⟨m0, m1, m2, m3⟩ := HNT.out wp HSMP.out.bel
          have hn2 := HN0.out
          subst hn2
          go_wp2
          clear m0 m1 m2 m3
          obtain ⟨wo, hwo⟩ : ∃ wo : World, wo = wr := ⟨_, rfl⟩
          subst hwo
          go_loopw [5, 92] (fun sv jv wx => ∃ (i : Nat) (sa : Option Addr) (sc' : Nat), jv = .int .i64 i ∧ i ≤ N ∧ sv = .slice sa (S'.length + i) sc' ∧ SM w4 bm (S' ++ kp kb ko kb' ko' (t1.args.take i) (u1.args.take i)) (fun y => if y = ((⟨pb, po, none⟩ : Addr), (⟨qb, qo, none⟩ : Addr)) then some (Value.bool true) else f y) sv wx) (fun _ jv _ => N - (intOf jv).toNat)
          case atStart => exact ⟨0, some ⟨gs, 0, none⟩, sc, rfl, by omega, rfl, by simpa [kp] using HSMP.out⟩
          case round =>
            obtain ⟨i, sa, sc', rfl, hi, rfl, hsm⟩ := hrel
            have HTL : Hid (∀ j, j ≤ N → (t1.args.take j).length = (u1.args.take j).length) := Lib.hid (fun j hj => by simp [← HN.out, ← HN'.out])
            have HLEN : Hid ((S' ++ kp kb ko kb' ko' (t1.args.take i) (u1.args.take i)).length = S'.length + i) := Lib.hid (by rw [List.length_append, kp_len _ _ _ _ _ _ (HTL.out i hi)]; simp [← HN.out]; omega)
            have HSMI := Lib.hid hsm
            have m3 := (HNT.out wr hsm.bel).2.2.2
            have k3 := (HNU.out wr hsm.bel).2.2.2
            by_cases hlt : i < N
            · obtain ⟨tt, htt⟩ : ∃ u, t1.args[i]? = some u := ⟨_, List.getElem?_eq_getElem (by rw [← HN.out]; exact hlt)⟩
              obtain ⟨uu, huu⟩ : ∃ u, u1.args[i]? = some u := ⟨_, List.getElem?_eq_getElem (by rw [← HN'.out]; exact hlt)⟩
              obtain rfl := HKA.out (by rw [← HN.out]; omega)
              obtain rfl := HKA'.out (by rw [← HN'.out]; omega)
              have HTT := Lib.hid htt
              have HUU := Lib.hid huu
              have HLT := Lib.hid hlt
              have hlti : (i : Int) < (N : Int) := by omega
              have HSTK : Hid (Row wr w4.heap.size 75 2 (.slice sa (S'.length + i) sc') (S'.length + i) (cellsPE (S' ++ kp kb ko kb' ko' (t1.args.take i) (u1.args.take i)))) := Lib.hid (by have h := hsm.stk; rw [HLEN.out] at h; exact h)
              have HGEW : Hid (w4.heap.size ≤ wr.heap.size) := Lib.hid hsm.bel.size
              clear htt huu hlt hsm hi
              go_upto_region 16 with fail
              go_region_held3 (fun w' => w'.cell? ⟨pb, po + 3, none⟩ = some (.slice (some ⟨kb, ko, none⟩) N ac) ∧ w'.cell? ⟨qb, qo + 3, none⟩ = some (.slice (some ⟨kb', ko', none⟩) N ac')) (go_keep) (first | (refine step_app_row_at (.tmp 95) (.tmp 109) EPair rfl rfl w4.heap.size (.slice sa (S'.length + i) sc') (S'.length + i) (cellsPE (S' ++ kp kb ko kb' ko' (t1.args.take i) (u1.args.take i))) rfl (Row.drew (Row.alloc HSTK.out _)) (some ⟨_, 0, none⟩) 1 1 [.pointer (some ⟨kb, ko + i * 4, none⟩), .pointer (some ⟨kb', ko' + i * 4, none⟩)] rfl (RdG.drew (RdG.lits wr 2 75 1 [.pointer (some ⟨kb, ko + i * 4, none⟩), .pointer (some ⟨kb', ko' + i * 4, none⟩)] rfl)) (by simp [Value.oneCell']) (by have h1 := HS9.out; have h2 := HLT.out; omega) (by decide) (by have := HGEW.out; simp; omega) ?_; intro a6 c6 w6 hr6 hg6 hat6; rw [← HLEN.out] at hr6; have HSM6 := Lib.hid ((HSMI.out.below (below_alloc _ _).drew).push (x := ⟨⟨kb, ko + i * 4, none⟩, tt, ⟨kb', ko' + i * 4, none⟩, uu⟩) hr6 hg6); have p3 := (HNT.out w6 HSM6.out.bel).2.2.2; have r3 := (HNU.out w6 HSM6.out.bel).2.2.2; clear hr6 hg6 hat6))
              all_goals
                go_wp2
                go_roundw
                case rel => exact ⟨i + 1, a6, c6, by go_num, HLT.out, rfl, by
                  have h := HSM6.out
                  rw [List.append_assoc, show (⟨⟨kb, ko + i * 4, none⟩, tt, ⟨kb', ko' + i * 4, none⟩, uu⟩ : PE) = ⟨⟨kb, ko + 4 * (t1.args.take i).length, none⟩, tt, ⟨kb', ko' + 4 * (t1.args.take i).length, none⟩, uu⟩ by simp [← HN.out, Nat.min_eq_left (Nat.le_of_lt HLT.out), Nat.mul_comm], ← kp_snoc _ _ _ _ _ _ _ _ (HTL.out i (Nat.le_of_lt HLT.out)), ← take_snoc HTT.out, ← take_snoc HUU.out] at h
                  rw [HLEN.out] at h
                  exact h⟩
                case measure => have := HLT.out; simp [intOf]; omega
            · obtain rfl : N = i := by omega
              have HAT : Hid (t1.args.take N = t1.args) := Lib.hid (List.take_of_length_le (by rw [HN.out]; exact Nat.le_refl _))
              have HAU : Hid (u1.args.take N = u1.args) := Lib.hid (List.take_of_length_le (by rw [HN'.out]; exact Nat.le_refl _))
              rw [HAT.out, HAU.out] at HSMI HLEN
              have HPK := Lib.hid (kp_pw t1.args u1.args kb ko kb' ko')
              clear hsm hlt hi m3 k3
              go_wp2
              go_roundg (pw (S' ++ kp kb ko kb' ko' t1.args u1.args))
              case measure => have h1 := HGG.out; have h2 := HPK.out; have h3 := t1.size_eq; rw [pw_append] at h1 ⊢; simp only [pw] at h1; omega
              case rel => exact ⟨S' ++ kp kb ko kb' ko' t1.args u1.args, _, sa, sc', Nat.le_refl _, by rw [HLEN.out], HOPEN.out, HSMI.out, by have h1 := HPW2.out; have h2 := HPK.out; have h3 := t1.size_eq; rw [pw_append]; omega, fun x hx => by
                rcases List.mem_append.1 hx with hx | hx
                · exact HUS.out x (List.mem_append_left _ hx)
                · obtain ⟨j, _, h2, _, _⟩ := kp_mem _ _ _ _ _ _ x hx
                  have h3 := Ex.size_kid h2
                  have h4 := u1.size_eq
                  have h5 := HUZ.out
                  omega⟩
        · have HND : Hid (¬ ndq t1 u1) := Lib.hid (fun h => hl (by rw [HN.out, HN'.out]; exact h.2.2.2))
          have hlb : ((N : Int) != (N' : Int)) = true := by simp; omega
          have hlb2 : ((N : Int) == (N' : Int)) = false := by rw [beq_eq_false_iff_ne]; omega
          have hlb3 : decide (N = N') = false := decide_eq_false hl
          have hlb4 : (N == N') = false := by rw [beq_eq_false_iff_ne]; exact hl
          clear hq0 hq1 hq2 hl
          have HE : Hid (exq t u = false) := Lib.hid (HBAD.out (by exact HND.out))
          go_upto_region 8 with fail
          rw [← HW3.out]
          go_upto_region 10 with (first | (refine PMap.wpLook HSM3.out.mp pk2 HOK.out Tryd.underlying77 (zeroB _) rfl (.tmp 34) (.tmp 35) rfl rfl (⟨pb, po, none⟩, ⟨qb, qo, none⟩) HOKP.out rfl ?_; rw [HF.out, Option.getD_none]) | (refine PMap.wpUpdate HSM3.out.mp pk2 HOK.out Tryd.underlying77 rfl (.tmp 37) (.tmp 38) (.const (.bool true)) rfl rfl (⟨pb, po, none⟩, ⟨qb, qo, none⟩) HOKP.out rfl (.bool true) rfl ?_; intro w7 hm7 hg7; have HSM7 := Lib.hid (HSM3.out.map hm7 hg7); have x0 : w7.cell? ⟨wr.heap.size, 0, none⟩ = some (.pointer (some ⟨pb, po, none⟩)) := hg7.cell x0 (fun e => by have h1 := HBXM.out; simp at e; omega); have x1 : w7.cell? ⟨wr.heap.size, 1, none⟩ = some (.pointer (some ⟨qb, qo, none⟩)) := hg7.cell x1 (fun e => by have h1 := HBXM.out; simp at e; omega); have HSZ7 := Lib.hid hg7.size; obtain ⟨m0, m1, m2, m3⟩ := HNT.out w7 HSM7.out.bel; obtain ⟨k0, k1, k2, k3⟩ := HNU.out w7 HSM7.out.bel; clear hm7 hg7))
          go_quiet (fail)
          go_wp2
          go_quiet (fail)
          go_wp2
          go_ret
          exact ⟨by rw [HE.out]; rfl, bthen HB4.out (bdrewN (bdrewN HSM7.out.bel _) _)⟩

end Go.Proofs.YtpabngicbfcdkaaDoor

/- SyntaxStable: the walk. -/
namespace Go.Proofs.YtpabngicbfcdkaaDoor
open Go.RowKit
set_option linter.unusedVariables false
set_option linter.unusedSimpArgs false

theorem parseP_err {s : ByteArray} (h : (parseP s).1 ≠ 0) : ∃ k, (k = 4 ∨ k = 9) ∧ parseP s = (k, eE) := by
  unfold parseP at h ⊢
  split
  · exact ⟨9, .inr rfl, rfl⟩
  · rename_i hs
    split
    · exact ⟨4, .inl rfl, rfl⟩
    · rename_i ts hts
      rw [if_neg hs, hts] at h
      simp only at h
      split
      · rename_i u hr
        rw [hr] at h
        simp only at h
        split
        · exact ⟨9, .inr rfl, rfl⟩
        · rename_i hd; rw [if_neg hd] at h; exact absurd rfl h
      · exact ⟨4, .inl rfl, rfl⟩
theorem errN_pos {k : Nat} (h : k = 4 ∨ k = 9) : errN k = .iface 39 (.int .i64 k) := by unfold errN; rw [if_neg (by omega)]

set_option maxRecDepth 100000 in
set_option maxHeartbeats 2000000 in
/-- the text is no query -/
theorem stable_err (s : ByteArray) (W : World) (hs : s.size ≤ 600) (k : Nat) (hk : k = 4 ∨ k = 9) (hp : parseP s = (k, eE)) :
    Calls Tryd.prog 5 #[.string s] W fun e W' => e = .returned (.bool true) ∧ Below W.heap.size W W' := by
  have HP := Lib.hid (parse_any s W (by omega))
  unfold ParsePost at HP
  rw [hp, errN_pos hk] at HP
  have hne : ∀ w, (binOp .neq 29 (.iface 39 (.int .i64 k)) .nilIface).run Tryd.prog w = .ok (.bool true) w := fun w => by kernel_rfl
  have HAW := Lib.hid (fun (w : World) => awake_any w)
  have hsi : decide ((600 : Int) < (s.size : Int)) = false := decide_eq_false (by omega)
  clear hs hk hp
  go_enter Tryd.func5, Tryd.ntmps5
  go_upto_region 4 with (go_at_call 15; refine HP.out.mono ?_; rintro e w1 ⟨aa, cc, rfl, hcc, hra, hb1⟩; have HB1 := Lib.hid hb1; clear hcc hra hb1; simp only [exV])
  obtain ⟨w2, hw2⟩ : ∃ w2, w2 = w1.alloc (.cells #[.int .i64 eE.kind, .string eE.text, .int .i64 eE.num, .slice aa eE.args.length cc] 25) := ⟨_, rfl⟩
  rw [← hw2]
  have HB2 : Hid (Below w1.heap.size w1 w2) := Lib.hid (by rw [hw2]; exact below_alloc _ _)
  clear hw2
  go_wp2_with (first
    | (go_at_call 11; refine (HAW.out w3).mono ?_; rintro e w4 ⟨rfl, hb4⟩; have HB4 := Lib.hid hb4; clear hb4)
    | (go_at_call 11; refine (HAW.out w2).mono ?_; rintro e w3 ⟨rfl, hb3⟩; have HB3 := Lib.hid hb3; clear hb3))
  refine bodyPost_ret (v := .bool true) (by simp [results, Tryd.results5, go_sem]; try rfl) rfl ?_
  exact ⟨rfl, bthen (bthen (bthen HB1.out HB2.out) HB3.out) HB4.out⟩

theorem is9_any (w : World) : Calls Tryd.prog 14 #[.iface 39 (.int .i64 9), .int .i64 9] w fun e w' => e = .returned (.bool true) ∧ Below w.heap.size w w' := by
  have HN := Lib.hid (num_errno 9 w)
  go_enter Tryd.func14, Tryd.ntmps14
  go_wp2_with (go_at_call 12; refine HN.out.mono ?_; rintro e w1 ⟨rfl, rfl⟩)
  refine bodyPost_ret (v := .bool true) (by simp [results, Tryd.results14, go_sem]; try rfl) rfl ?_
  exact ⟨rfl, Below.refl _ _⟩
theorem parseP_size (s : ByteArray) : (parseP s).2.size ≤ 4097 := by
  have h0 : eE.size ≤ 4097 := by simp [eE, Ex.size, Ex.sizes]
  unfold parseP
  split
  · exact h0
  · rename_i hs
    split
    · exact h0
    · rename_i ts hts
      have hl : ts.length ≤ 4096 := by
        have := toks_len _ [] 0 (ns s) ts (Nat.le_refl _) hts
        rw [ns_len] at this
        simp at this; omega
      split
      · rename_i u hr
        have h1 := runJ_sz hr
        simp only [Job.sz, Job.ts] at h1
        split
        · exact h0
        · simp only; omega
      · exact h0

/-- format, parse, the same of one tree, whose value is spelt out -/
structure TrV (B : Nat) (w : World) (t : Ex) (k m : Int) (x : ByteArray) (n : Nat) (a : Option Addr) (c : Nat) : Prop where
  hk : k = t.kind
  hx : x = t.text
  hm : m = t.num
  hn : n = t.args.length
  ra : ∃ T, RdA T w t.args a
  cc : t.args.length ≤ c
theorem TrV.val {B w t k m x n a c} (h : TrV B w t k m x n a c) : (.agg #[.int .i64 k, .string x, .int .i64 m, .slice a n c] : Value) = exV t a c := by
  rw [h.hk, h.hx, h.hm, h.hn]; rfl
theorem TrV.below {B w w' t k m x n a c} (h : TrV B w t k m x n a c) (hb : Below w.heap.size w w') : TrV B w' t k m x n a c :=
  ⟨h.hk, h.hx, h.hm, h.hn, by obtain ⟨T, hT⟩ := h.ra; exact ⟨T, hT.below hb⟩, h.cc⟩
theorem TrV.fmt {B w t k m x n a c} (h : TrV B w t k m x n a c) (hwt : wt t ≤ 4000000000) (ht : TAB w.heap.size w) :
    Calls Tryd.prog 9 #[.agg #[.int .i64 k, .string x, .int .i64 m, .slice a n c]] w fun e w' => e = .returned (.tuple #[.string (bs (fmtP t).2), errN (fmtP t).1]) ∧ Below w.heap.size w w' := by
  rw [h.val]
  obtain ⟨T, hT⟩ := h.ra
  exact format_any T t a c w hT h.cc hwt ht
theorem TrV.same {B w t k m x n a c} {B' t' k' m' x' n' a' c'} (h : TrV B w t k m x n a c) (h' : TrV B' w t' k' m' x' n' a' c') (hs : t.size ≤ 1000000) (hs' : t'.size ≤ 1000000) :
    Calls Tryd.prog 16 #[.agg #[.int .i64 k, .string x, .int .i64 m, .slice a n c], .agg #[.int .i64 k', .string x', .int .i64 m', .slice a' n' c']] w fun e w' => e = .returned (.bool (exq t t')) ∧ Below w.heap.size w w' := by
  rw [h.val, h'.val]
  obtain ⟨T, hT⟩ := h.ra
  obtain ⟨T', hT'⟩ := h'.ra
  exact same_any T T' t t' a a' c c' w hT h.cc hT' h'.cc hs hs'

set_option maxRecDepth 100000 in
set_option maxHeartbeats 2000000 in
/-- the text is a query -/
theorem stable_ok (s : ByteArray) (W : World) (hs : s.size ≤ 600) (t : Ex) (hp : parseP s = (0, t)) (ht : TAB W.heap.size W) :
    Calls Tryd.prog 5 #[.string s] W fun e W' => e = .returned (.bool true) ∧ Below W.heap.size W W' := by
  have HP := Lib.hid (parse_any s W (by omega))
  unfold ParsePost at HP
  rw [hp, errN_zero] at HP
  have hwt : wt t ≤ 100000000 := by have := parseP_wt s; rw [hp] at this; exact this
  have hsz : t.size ≤ 4097 := by have := parseP_size s; rw [hp] at this; exact this
  have HWT := Lib.hid hwt
  have HSZ := Lib.hid hsz
  have HT := Lib.hid ht
  have hwl := parseP_well hp
  have HWL := Lib.hid hwl
  have HAW := Lib.hid (fun (w : World) => awake_any w)
  have hsi : decide ((600 : Int) < (s.size : Int)) = false := decide_eq_false (by omega)
  obtain ⟨k1, hk1⟩ : ∃ k, k = t.kind := ⟨_, rfl⟩
  obtain ⟨x1, hx1⟩ : ∃ k, k = t.text := ⟨_, rfl⟩
  obtain ⟨m1, hm1⟩ : ∃ k, k = t.num := ⟨_, rfl⟩
  obtain ⟨n1, hn1⟩ : ∃ k, k = t.args.length := ⟨_, rfl⟩
  have HK1 := Lib.hid hk1
  have HX1 := Lib.hid hx1
  have HM1 := Lib.hid hm1
  have HN1 := Lib.hid hn1
  unfold exV at HP
  rw [← hk1, ← hx1, ← hm1, ← hn1] at HP
  have hfm := fmtP_cases t
  clear hs hp hwt hsz ht hwl hk1 hx1 hm1 hn1
  rcases hfm with ⟨hnw, -⟩ | ⟨-, hf⟩ | ⟨-, hd, hl, hf⟩
  · exact absurd HWL.out.1 hnw
  · have HF := Lib.hid hf
    have hne : ∀ w, (binOp .neq 29 (.iface 39 (.int .i64 9)) .nilIface).run Tryd.prog w = .ok (.bool true) w := fun w => by kernel_rfl
    clear hf
    go_enter Tryd.func5, Tryd.ntmps5
    go_upto_region 4 with (go_at_call 15; refine HP.out.mono ?_; rintro e w1 ⟨aa, cc, rfl, hcc, hra, hb1⟩; have HB1 := Lib.hid hb1; have HCC := Lib.hid hcc; have HRA := Lib.hid hra; clear hcc hra hb1)
    obtain ⟨w2, hw2⟩ : ∃ w2, w2 = w1.alloc (.cells #[.int .i64 k1, .string x1, .int .i64 m1, .slice aa n1 cc] 25) := ⟨_, rfl⟩
    obtain ⟨be, hbe⟩ : ∃ be, be = w1.heap.size := ⟨_, rfl⟩
    have HEC : Hid (EC w2 be t aa cc) := Lib.hid (by rw [hw2, hbe, HK1.out, HX1.out, HM1.out, HN1.out]; exact alloc_ec _ _ _ _ _)
    have HB2 : Hid (Below W.heap.size W w2) := Lib.hid (bthen HB1.out (by rw [hw2]; exact below_alloc _ _))
    have HTC : Hid (TrV 0 w2 t k1 m1 x1 n1 aa cc) := Lib.hid ⟨HK1.out, HX1.out, HM1.out, HN1.out, ⟨_, HRA.out.below (by rw [hw2]; exact below_alloc _ _)⟩, by rw [← HN1.out]; exact HCC.out⟩
    rw [← hw2, ← hbe]
    clear hw2 hbe
    go_wp2_with (first
      | (go_at_call 11; refine (HAW.out _).mono ?_; rintro e w3 ⟨rfl, hb3⟩; have HB3 := Lib.hid hb3; obtain ⟨y0, y1, y2, y3, yf⟩ := HEC.out.below hb3; rw [← HK1.out] at y0; rw [← HX1.out] at y1; rw [← HM1.out] at y2; rw [← HN1.out] at y3; clear hb3 yf)
      | (go_at_call 9; refine ((HTC.out.below HB3.out).fmt (by have := HWT.out; omega) ((HT.out.next (bthen HB2.out HB3.out)).mono (bthen HB2.out HB3.out).size)).mono ?_; rw [HF.out]; rintro e w4 ⟨rfl, hb4⟩; have HB4 := Lib.hid hb4; clear hb4 y0 y1 y2 y3; rw [show errN (9, ([] : List Nat)).1 = .iface 39 (.int .i64 9) from rfl])
      | (go_at_call 14; refine (is9_any _).mono ?_; rintro e w5 ⟨rfl, hb5⟩; have HB5 := Lib.hid hb5; clear hb5))
    refine bodyPost_ret (v := .bool true) (by simp [results, Tryd.results5, go_sem]; try rfl) rfl ?_
    exact ⟨rfl, bthen (bthen (bthen HB2.out HB3.out) HB4.out) HB5.out⟩
  · have HF := Lib.hid hf
    obtain ⟨S, hS⟩ : ∃ S, S = bs (txI (wI t)) := ⟨_, rfl⟩
    have HS := Lib.hid hS
    have hS1 : S.size ≤ 4096 := by rw [hS, fm_size HWL.out.1]; exact hl
    have HP2 : Hid (∀ w, Calls Tryd.prog 15 #[.string S] w fun e w' => ∃ aa cc, e = .returned (.tuple #[.agg #[.int .i64 k1, .string x1, .int .i64 m1, .slice aa n1 cc], .nilIface]) ∧ TrV 0 w' t k1 m1 x1 n1 aa cc ∧ Below w.heap.size w w') := Lib.hid (fun w => by
      refine (parse_any S w (by omega)).mono ?_
      unfold ParsePost
      rw [hS, parse_fmt HWL.out.1 hd hl]
      rintro e w' ⟨aa, cc, rfl, h1, h2, h3⟩
      exact ⟨aa, cc, by rw [HK1.out, HX1.out, HM1.out, HN1.out]; rfl, ⟨HK1.out, HX1.out, HM1.out, HN1.out, ⟨_, h2⟩, h1⟩, h3⟩)
    have HFM : Hid (∀ w aa cc, TrV 0 w t k1 m1 x1 n1 aa cc → TAB w.heap.size w → Calls Tryd.prog 9 #[.agg #[.int .i64 k1, .string x1, .int .i64 m1, .slice aa n1 cc]] w fun e w' => e = .returned (.tuple #[.string S, .nilIface]) ∧ Below w.heap.size w w') := Lib.hid (fun w aa cc h ht => by
      have h1 := h.fmt (by have := HWT.out; omega) ht
      rw [hf] at h1
      rw [hS]
      exact h1)
    have HSM : Hid (∀ w aa cc aa' cc', TrV 0 w t k1 m1 x1 n1 aa cc → TrV 0 w t k1 m1 x1 n1 aa' cc' → Calls Tryd.prog 16 #[.agg #[.int .i64 k1, .string x1, .int .i64 m1, .slice aa n1 cc], .agg #[.int .i64 k1, .string x1, .int .i64 m1, .slice aa' n1 cc']] w fun e w' => e = .returned (.bool true) ∧ Below w.heap.size w w') := Lib.hid (fun w aa cc aa' cc' h h' => by
      have h1 := h.same h' (by have := HSZ.out; omega) (by have := HSZ.out; omega)
      rw [exq_self] at h1
      exact h1)
    have hss : (S.toList == S.toList) = true := by simp
    clear hf hS hd hl
    go_enter Tryd.func5, Tryd.ntmps5
    go_upto_region 4 with (go_at_call 15; refine HP.out.mono ?_; rintro e w1 ⟨aa, cc, rfl, hcc, hra, hb1⟩; have HB1 := Lib.hid hb1; have HCC := Lib.hid hcc; have HRA := Lib.hid hra; clear hcc hra hb1)
    obtain ⟨w2, hw2⟩ : ∃ w2, w2 = w1.alloc (.cells #[.int .i64 k1, .string x1, .int .i64 m1, .slice aa n1 cc] 25) := ⟨_, rfl⟩
    obtain ⟨be, hbe⟩ : ∃ be, be = w1.heap.size := ⟨_, rfl⟩
    have HEC : Hid (EC w2 be t aa cc) := Lib.hid (by rw [hw2, hbe, HK1.out, HX1.out, HM1.out, HN1.out]; exact alloc_ec _ _ _ _ _)
    have HB2 : Hid (Below W.heap.size W w2) := Lib.hid (bthen HB1.out (by rw [hw2]; exact below_alloc _ _))
    have HTC : Hid (TrV 0 w2 t k1 m1 x1 n1 aa cc) := Lib.hid ⟨HK1.out, HX1.out, HM1.out, HN1.out, ⟨_, HRA.out.below (by rw [hw2]; exact below_alloc _ _)⟩, by rw [← HN1.out]; exact HCC.out⟩
    rw [← hw2, ← hbe]
    clear hw2 hbe
    go_upto_region 10 with (first
      | (go_at_call 11; refine (HAW.out _).mono ?_; rintro e w3 ⟨rfl, hb3⟩; have HB3 : Hid (Below w2.heap.size w2 w3) := Lib.hid hb3; obtain ⟨y0, y1, y2, y3, yf⟩ := HEC.out.below hb3; rw [← HK1.out] at y0; rw [← HX1.out] at y1; rw [← HM1.out] at y2; rw [← HN1.out] at y3; clear hb3 yf)
      | (go_at_call 9; refine (HFM.out _ _ _ (HTC.out.below HB3.out) ((HT.out.next (bthen HB2.out HB3.out)).mono (bthen HB2.out HB3.out).size)).mono ?_; rintro e w4 ⟨rfl, hb4⟩; have HB4 : Hid (Below w2.heap.size w2 w4) := Lib.hid (bthen HB3.out hb4); clear hb4 y0 y1 y2 y3)
      | (go_at_call 15; refine (HP2.out _).mono ?_; rintro e w5 ⟨ab, cb, rfl, htb, hb5⟩; have HB5 : Hid (Below w2.heap.size w2 w5) := Lib.hid (bthen HB4.out hb5); have HTB := Lib.hid htb; clear htb hb5))
    obtain ⟨w6, hw6⟩ : ∃ w6, w6 = w5.alloc (.cells #[.int .i64 k1, .string x1, .int .i64 m1, .slice ab n1 cb] 25) := ⟨_, rfl⟩
    obtain ⟨bf, hbf⟩ : ∃ bf, bf = w5.heap.size := ⟨_, rfl⟩
    have HB56 : Hid (Below w5.heap.size w5 w6) := Lib.hid (by rw [hw6]; exact below_alloc _ _)
    have HB6 : Hid (Below w2.heap.size w2 w6) := Lib.hid (bthen HB5.out HB56.out)
    have HE6 : Hid (EC w6 bf t ab cb) := Lib.hid (by rw [hw6, hbf, HK1.out, HX1.out, HM1.out, HN1.out]; exact alloc_ec _ _ _ _ _)
    have HTB6 := Lib.hid (HTB.out.below HB56.out)
    rw [← hw6, ← hbf]
    clear hw6 hbf HTB HB56
    have HCL : Hid (∀ wx, Below w6.heap.size w6 wx → wx.cell? ⟨be, 0, none⟩ = some (.int .i64 k1) ∧ wx.cell? ⟨be, 1, none⟩ = some (.string x1) ∧ wx.cell? ⟨be, 2, none⟩ = some (.int .i64 m1) ∧ wx.cell? ⟨be, 3, none⟩ = some (.slice aa n1 cc) ∧ wx.cell? ⟨bf, 0, none⟩ = some (.int .i64 k1) ∧ wx.cell? ⟨bf, 1, none⟩ = some (.string x1) ∧ wx.cell? ⟨bf, 2, none⟩ = some (.int .i64 m1) ∧ wx.cell? ⟨bf, 3, none⟩ = some (.slice ab n1 cb)) := Lib.hid (fun wx hb => by
      obtain ⟨y0, y1, y2, y3, -⟩ := (HEC.out.below HB6.out).below hb
      obtain ⟨z0, z1, z2, z3, -⟩ := HE6.out.below hb
      rw [HK1.out, HX1.out, HM1.out, HN1.out]
      exact ⟨y0, y1, y2, y3, z0, z1, z2, z3⟩)
    obtain ⟨y0, y1, y2, y3, z0, z1, z2, z3⟩ := HCL.out w6 (Below.refl _ _)
    go_upto_region 11 with (go_at_call 9; refine (HFM.out _ _ _ HTB6.out ((HT.out.next (bthen HB2.out HB6.out)).mono (bthen HB2.out HB6.out).size)).mono ?_; rintro e w7 ⟨rfl, hb7⟩; have HB7 : Hid (Below w6.heap.size w6 w7) := Lib.hid hb7; clear hb7 y0 y1 y2 y3 z0 z1 z2 z3; obtain ⟨y0, y1, y2, y3, z0, z1, z2, z3⟩ := HCL.out w7 HB7.out)
    go_wp2_with (go_at_call 16; refine (HSM.out _ _ _ _ _ (HTB6.out.below HB7.out) ((HTC.out.below HB6.out).below HB7.out)).mono ?_; rintro e w8 ⟨rfl, hb8⟩; have HB8 : Hid (Below w6.heap.size w6 w8) := Lib.hid (bthen HB7.out hb8); clear hb8)
    refine bodyPost_ret (v := .bool true) (by simp [results, Tryd.results5, go_sem]; try rfl) rfl ?_
    exact ⟨rfl, bthen (bthen HB2.out HB6.out) HB8.out⟩

set_option maxRecDepth 100000 in
set_option maxHeartbeats 2000000 in
theorem walk_SyntaxStable (s : ByteArray) (W : World) (hs0 : s.size ≤ 140737488351232) (ht : TAB W.heap.size W) :
    Calls Tryd.prog 5 #[.string s] W fun e W' => e = .returned (.bool true) ∧ Below W.heap.size W W' := by
  by_cases hs : s.size ≤ 600
  · by_cases he : (parseP s).1 = 0
    · exact stable_ok s W hs (parseP s).2 (by rw [← he]) ht
    · obtain ⟨k, hk, hp⟩ := parseP_err he
      exact stable_err s W hs k hk hp
  · have hsi : decide ((600 : Int) < (s.size : Int)) = true := decide_eq_true (by omega)
    clear hs hs0 ht
    go_enter Tryd.func5, Tryd.ntmps5
    go_wp2
    refine bodyPost_ret (v := .bool true) (by simp [results, Tryd.results5, go_sem]; try rfl) rfl ?_
    exact ⟨rfl, Below.refl _ _⟩

end Go.Proofs.YtpabngicbfcdkaaDoor
