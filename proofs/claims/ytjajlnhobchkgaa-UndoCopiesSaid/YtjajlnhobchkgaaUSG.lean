/-
  The state while step runs: the tree, the reference's tree, apart; three blocks of the call's own between.
-/
import Derived.Test.YtjajlnhobchkgaaUSt
namespace Go.Proofs.Ytjajlnhobchkgaa
open Go.RowKit
set_option linter.unusedVariables false
set_option linter.unusedSimpArgs false

structure SG (w : World) (S T : Nat → Prop) (bt : Nat) (l1 : List Nd) (n1 : Nat) (v : Value) (l2 : List Nd) (n2 : Nat) (x : World) : Prop where
  ex : ∃ S1 T1 : Nat → Prop, TI x S1 bt l1 n1 ∧ RT x T1 v l2 n2 ∧ (∀ i, T1 i → ¬ S1 i) ∧ (∀ i, S1 i → (S i ∧ i < w.heap.size) ∨ w.heap.size + 3 ≤ i) ∧ (∀ i, T1 i → (T i ∧ i < w.heap.size) ∨ w.heap.size + 3 ≤ i)
  fr : Fr S w x
  sz : w.heap.size + 3 ≤ x.heap.size

abbrev Kp (w x x' : World) : Prop := Fr (fun i => i < w.heap.size ∨ w.heap.size + 3 ≤ i) x x'

theorem SG.fr' {w S T bt l1 n1 v l2 n2 x x'} (h : SG w S T bt l1 n1 v l2 n2 x) (F : Nat → Prop) (hf : Fr F x x') (hF : ∀ i, F i → w.heap.size ≤ i ∧ i < w.heap.size + 3) : SG w S T bt l1 n1 v l2 n2 x' := by
  obtain ⟨S1, T1, a1, a2, a3, a4, a5⟩ := h.ex
  have hs := hf.size
  have hz := h.sz
  refine ⟨⟨S1, T1, a1.fr hf (fun i hi e => ?_), a2.fr hf (fun i hi e => ?_), a3, a4, a5⟩, ?_, by omega⟩
  · have := hF i e; rcases a4 i hi with k | k <;> omega
  · have := hF i e; rcases a5 i hi with k | k <;> omega
  · exact ⟨hf.os.trans h.fr.os, hf.tape.trans h.fr.tape, hf.output.trans h.fr.output, by have := h.fr.size; omega, fun i hi hn => (hf.block i (by omega) (fun e => by have := hF i e; omega)).trans (h.fr.block i hi hn)⟩

theorem SG.below {w S T bt l1 n1 v l2 n2 x x'} (h : SG w S T bt l1 n1 v l2 n2 x) (hb : Below x.heap.size x x') : SG w S T bt l1 n1 v l2 n2 x' := by
  obtain ⟨S1, T1, a1, a2, a3, a4, a5⟩ := h.ex
  have hz := h.sz
  have hs := hb.size
  exact ⟨⟨S1, T1, a1.below hb, a2.below hb, a3, a4, a5⟩, h.fr.trans (.of_below (hb.mono (by have := h.fr.size; omega))), by omega⟩

theorem SG.st4 {w S T bt l1 n1 v l2 n2 x} (h : SG w S T bt l1 n1 v l2 n2 x) (b : Nat) (v0 v1 v2 : Value) (k : Int) (h0 : w.heap.size ≤ b) (h1 : b < w.heap.size + 3) : SG w S T bt l1 n1 v l2 n2 (st4 x b v0 v1 v2 k) :=
  h.fr' (fun g => g = b) (st4_fr x b v0 v1 v2 k) (fun i e => by omega)

theorem SG.prog {w S T bt l1 n1 v l2 n2 x} (h : SG w S T bt l1 n1 v l2 n2 x) :
    ∃ S1 : Nat → Prop, TI x S1 bt l1 n1 ∧ ∀ x' l n, PSt S1 bt l n x x' → SG w S T bt l n v l2 n2 x' ∧ Kp w x x' := by
  obtain ⟨S1, T1, a1, a2, a3, a4, a5⟩ := h.ex
  have hz := h.sz
  refine ⟨S1, a1, fun x' l n hp => ?_⟩
  obtain ⟨S', b1, b2, b3⟩ := hp
  have hs := b2.size
  refine ⟨⟨⟨S', fun i => T1 i ∧ i < x.heap.size, b1, a2.lt.fr b2 (fun i hi => a3 i hi.1), fun i hi e => ?_, fun i hi => ?_, fun i hi => a5 i hi.1⟩, ?_, by omega⟩, ?_⟩
  · rcases b3 i e with k | k
    · exact a3 i hi.1 k
    · omega
  · rcases b3 i hi with k | k
    · exact a4 i k
    · exact .inr (by omega)
  · exact ⟨b2.os.trans h.fr.os, b2.tape.trans h.fr.tape, b2.output.trans h.fr.output, by have := h.fr.size; omega, fun i hi hn => (b2.block i (by omega) (fun e => by rcases a4 i e with k | k; exact hn k.1; omega)).trans (h.fr.block i hi hn)⟩
  · exact ⟨b2.os, b2.tape, b2.output, b2.size, fun i hi hn => b2.block i hi (fun e => hn (by rcases a4 i e with k | k; exact .inl k.2; exact .inr k))⟩

theorem SG.ref {w S T bt l1 n1 v l2 n2 x} (h : SG w S T bt l1 n1 v l2 n2 x) :
    ∃ T1 : Nat → Prop, RT x T1 v l2 n2 ∧ ∀ x' v' l n, RPost T1 l (n : Nat) x v' x' → SG w S T bt l1 n1 v' l n x' ∧ Kp w x x' := by
  obtain ⟨S1, T1, a1, a2, a3, a4, a5⟩ := h.ex
  have hz := h.sz
  refine ⟨T1, a2, fun x' v' l n hp => ?_⟩
  obtain ⟨b1, b2⟩ := hp
  have hs := b2.size
  refine ⟨⟨⟨fun i => S1 i ∧ i < x.heap.size, _, a1.cut.below b2, b1, fun i hi e => ?_, fun i hi => a4 i hi.1, fun i hi => ?_⟩, h.fr.trans (.of_below (b2.mono (by have := h.fr.size; omega))), by omega⟩, ?_⟩
  · rcases hi with k | k
    · exact a3 i k e.1
    · omega
  · rcases hi with k | k
    · exact a5 i k
    · exact .inr (by omega)
  · exact .of_below b2

theorem SG.start {w : World} {S T : Nat → Prop} {bt : Nat} {l1 : List Nd} {n1 : Nat} {v : Value} {l2 : List Nd} {n2 : Nat} {x : World} (ht : TI w S bt l1 n1) (hr : RT w T v l2 n2) (hd : ∀ i, T i → ¬ S i) (hb : Below w.heap.size w x) (hs : w.heap.size + 3 ≤ x.heap.size) : SG w S T bt l1 n1 v l2 n2 x :=
  ⟨⟨fun i => S i ∧ i < w.heap.size, fun i => T i ∧ i < w.heap.size, ht.cut.below hb, hr.lt.below hb, fun i hi e => hd i hi.1 e.1, fun i hi => .inl hi, fun i hi => .inl hi⟩, .of_below hb, hs⟩

theorem CT.kp {w x x' : World} {g : Nat} {v0 v1 v2 : Value} {k : Int} (h : CT x g v0 v1 v2 k) (hk : Kp w x x') (h0 : w.heap.size ≤ g) (h1 : g < w.heap.size + 3) : CT x' g v0 v1 v2 k :=
  h.fr hk (fun e => by omega)

theorem CT.st {w : World} {g : Nat} {u0 u1 u2 v0 v1 v2 : Value} {k k' : Int} (h : CT w g u0 u1 u2 k) : CT (st4 w g v0 v1 v2 k') g v0 v1 v2 k' :=
  (((h.set0 v0).set1 v1).set2 v2).set3 k'

theorem CT.st' {w : World} {g b : Nat} {u0 u1 u2 v0 v1 v2 : Value} {k k' : Int} (h : CT w g u0 u1 u2 k) (hb : g ≠ b) : CT (st4 w b v0 v1 v2 k') g u0 u1 u2 k :=
  h.fr (st4_fr w b v0 v1 v2 k') (fun e => hb e)

section
variable {w : World} {S T : Nat → Prop} {bt : Nat} {l1 : List Nd} {n1 : Nat} {v : Value} {l2 : List Nd} {n2 : Nat} {x : World}

theorem SG.form (h : SG w S T bt l1 n1 v l2 n2 x) : ∃ ta tc pa pc fa fc, v = .agg #[.slice ta l2.length tc, .slice pa l2.length pc, .slice fa l2.length fc, .int .i64 n2] := by
  obtain ⟨S1, T1, a1, a2, a3, a4, a5⟩ := h.ex
  obtain ⟨ta, tc, pa, pc, fa, fc, h, _⟩ := a2.ex
  exact ⟨ta, tc, pa, pc, fa, fc, h⟩

theorem sg_do (r d t : Int) (hr : r < 2) (h : SG w S T bt l1 n1 v l2 n2 x) (hi : Inv l1 n1) (hlen : l1.length ≤ 999) :
    Calls Try.prog 30 #[.pointer (some ⟨bt, 0, none⟩), .int .i64 t] x fun e x' => e = .returned (.int .i64 (stC r d t l1 n1)) ∧ SG w S T bt (stL r d t l1 n1) (stN r d t l1 n1) v l2 n2 x' ∧ Kp w x x' := by
  obtain ⟨S1, a1, a2⟩ := h.prog
  refine (do_st r d t hr S1 bt l1 n1 x a1 hi hlen).mono ?_
  rintro e x' ⟨rfl, hp⟩
  exact ⟨rfl, a2 _ _ _ hp⟩

theorem sg_undo (d t : Int) (h : SG w S T bt l1 n1 v l2 n2 x) (hi : Inv l1 n1) (hlen : l1.length ≤ 999) :
    Calls Try.prog 10 #[.pointer (some ⟨bt, 0, none⟩)] x fun e x' => e = .returned (errV (stC 2 d t l1 n1)) ∧ SG w S T bt (stL 2 d t l1 n1) (stN 2 d t l1 n1) v l2 n2 x' ∧ Kp w x x' := by
  obtain ⟨S1, a1, a2⟩ := h.prog
  refine (undo_st d t S1 bt l1 n1 x a1 hi hlen).mono ?_
  rintro e x' ⟨rfl, hp⟩
  exact ⟨rfl, a2 _ _ _ hp⟩

theorem sg_redo (d t : Int) (h : SG w S T bt l1 n1 v l2 n2 x) (hi : Inv l1 n1) (hlen : l1.length ≤ 999) :
    Calls Try.prog 11 #[.pointer (some ⟨bt, 0, none⟩)] x fun e x' => e = .returned (errV (stC 3 d t l1 n1)) ∧ SG w S T bt (stL 3 d t l1 n1) (stN 3 d t l1 n1) v l2 n2 x' ∧ Kp w x x' := by
  obtain ⟨S1, a1, a2⟩ := h.prog
  refine (redo_st d t S1 bt l1 n1 x a1 hi hlen).mono ?_
  rintro e x' ⟨rfl, hp⟩
  exact ⟨rfl, a2 _ _ _ hp⟩

theorem sg_redoto (d t : Int) (h : SG w S T bt l1 n1 v l2 n2 x) (hi : Inv l1 n1) (hlen : l1.length ≤ 999) :
    Calls Try.prog 32 #[.pointer (some ⟨bt, 0, none⟩), .int .i64 d] x fun e x' => e = .returned (errV (stC 4 d t l1 n1)) ∧ SG w S T bt (stL 4 d t l1 n1) (stN 4 d t l1 n1) v l2 n2 x' ∧ Kp w x x' := by
  obtain ⟨S1, a1, a2⟩ := h.prog
  refine (redoto_st d t S1 bt l1 n1 x a1 hi hlen).mono ?_
  rintro e x' ⟨rfl, hp⟩
  exact ⟨rfl, a2 _ _ _ hp⟩

theorem sg_goto (d t : Int) (h : SG w S T bt l1 n1 v l2 n2 x) (hi : Inv l1 n1) (hlen : l1.length ≤ 999) :
    Calls Try.prog 25 #[.pointer (some ⟨bt, 0, none⟩), .int .i64 d] x fun e x' => e = .returned (errV (stC 5 d t l1 n1)) ∧ SG w S T bt (stL 5 d t l1 n1) (stN 5 d t l1 n1) v l2 n2 x' ∧ Kp w x x' := by
  obtain ⟨S1, a1, a2⟩ := h.prog
  refine (goto_st d t S1 bt l1 n1 x a1 hi hlen).mono ?_
  rintro e x' ⟨rfl, hp⟩
  exact ⟨rfl, a2 _ _ _ hp⟩

theorem sg_rdo (r d t : Int) (hr : r < 2) (h : SG w S T bt l1 n1 v l2 n2 x) (hi : Inv l2 n2) (hlen : l2.length ≤ 999) (hid : (Lit.int .i64 t).wf = true) :
    Calls Try.prog 35 #[v, .int .i64 t] x fun e x' => ∃ v', e = .returned v' ∧ SG w S T bt l1 n1 v' (stL r d t l2 n2) (stN r d t l2 n2) x' ∧ Kp w x x' := by
  obtain ⟨T1, a1, a2⟩ := h.ref
  refine (rdo_st r d t hr T1 v l2 n2 x a1 hi hlen hid).mono ?_
  rintro e x' ⟨v', rfl, hp⟩
  exact ⟨v', rfl, a2 _ _ _ _ hp⟩

theorem sg_rundo (d t : Int) (h : SG w S T bt l1 n1 v l2 n2 x) (hi : Inv l2 n2) (hlen : l2.length ≤ 999) :
    Calls Try.prog 36 #[v] x fun e x' => ∃ v', e = .returned (.tuple #[v', .int .i64 (stC 2 d t l2 n2)]) ∧ SG w S T bt l1 n1 v' (stL 2 d t l2 n2) (stN 2 d t l2 n2) x' ∧ Kp w x x' := by
  obtain ⟨T1, a1, a2⟩ := h.ref
  refine (rundo_st d t T1 v l2 n2 x a1 hi hlen).mono ?_
  rintro e x' ⟨v', rfl, hp⟩
  exact ⟨v', rfl, a2 _ _ _ _ hp⟩

theorem sg_rredo (d t : Int) (h : SG w S T bt l1 n1 v l2 n2 x) (hi : Inv l2 n2) (hlen : l2.length ≤ 999) :
    Calls Try.prog 37 #[v] x fun e x' => ∃ v', e = .returned (.tuple #[v', .int .i64 (stC 3 d t l2 n2)]) ∧ SG w S T bt l1 n1 v' (stL 3 d t l2 n2) (stN 3 d t l2 n2) x' ∧ Kp w x x' := by
  obtain ⟨T1, a1, a2⟩ := h.ref
  refine (rredo_st d t T1 v l2 n2 x a1 hi hlen).mono ?_
  rintro e x' ⟨v', rfl, hp⟩
  exact ⟨v', rfl, a2 _ _ _ _ hp⟩

theorem sg_rredoto (d t : Int) (h : SG w S T bt l1 n1 v l2 n2 x) (hi : Inv l2 n2) (hlen : l2.length ≤ 999) :
    Calls Try.prog 38 #[v, .int .i64 d] x fun e x' => ∃ v', e = .returned (.tuple #[v', .int .i64 (stC 4 d t l2 n2)]) ∧ SG w S T bt l1 n1 v' (stL 4 d t l2 n2) (stN 4 d t l2 n2) x' ∧ Kp w x x' := by
  obtain ⟨T1, a1, a2⟩ := h.ref
  refine (rredoto_st d t T1 v l2 n2 x a1 hi hlen).mono ?_
  rintro e x' ⟨v', rfl, hp⟩
  exact ⟨v', rfl, a2 _ _ _ _ hp⟩

theorem sg_rgoto (d t : Int) (h : SG w S T bt l1 n1 v l2 n2 x) (hi : Inv l2 n2) (hlen : l2.length ≤ 999) (hm : hasN l2.length d = true) :
    Calls Try.prog 39 #[v, .int .i64 d] x fun e x' => ∃ v', e = .returned v' ∧ SG w S T bt l1 n1 v' (stL 5 d t l2 n2) (stN 5 d t l2 n2) x' ∧ Kp w x x' := by
  obtain ⟨T1, a1, a2⟩ := h.ref
  refine (rgoto_st d t T1 v l2 n2 x a1 hi hlen hm).mono ?_
  rintro e x' ⟨v', rfl, hp⟩
  exact ⟨v', rfl, a2 _ _ _ _ hp⟩

theorem sg_rhas (d : Int) (h : SG w S T bt l1 n1 v l2 n2 x) :
    Calls Try.prog 17 #[v, .int .i64 d] x fun e x' => e = .returned (.bool (hasN l2.length d)) ∧ SG w S T bt l1 n1 v l2 n2 x' ∧ Kp w x x' := by
  obtain ⟨ta, tc, pa, pc, fa, fc, rfl⟩ := h.form
  refine (rhas_any ta pa fa l2.length tc l2.length pc l2.length fc n2 d x).mono ?_
  rintro e x' ⟨rfl, hb⟩
  exact ⟨rfl, h.below hb, .of_below hb⟩
end

end Go.Proofs.Ytjajlnhobchkgaa
