/-
  Several trees and the reference's tree side by side.
-/
import Derived.Test.YtjajlnhobchkgaaUSc
namespace Go.Proofs.Ytjajlnhobchkgaa
open Go.RowKit
set_option linter.unusedVariables false
set_option linter.unusedSimpArgs false

structure ST (w0 w : World) (mb : Nat) (ts : List (Nat × Sn)) (m : Value) (sm : Sn) : Prop where
  ex : ∃ (S : Nat → Nat → Prop) (T : Nat → Prop), (∀ i t, ts[i]? = some t → TI w (S i) t.1 t.2.1 t.2.2) ∧ RT w T m sm.1 sm.2 ∧ (∀ i j b, S i b → S j b → i = j) ∧ (∀ i b, S i b → ¬ T b ∧ b ≠ mb ∧ w0.heap.size ≤ b) ∧ ¬ T mb
  mb0 : w0.heap.size ≤ mb
  mb1 : mb < w.heap.size
  bel : Below w0.heap.size w0 w

theorem ST.below {w0 w w' : World} {mb ts m sm} (h : ST w0 w mb ts m sm) (hb : Below w.heap.size w w') : ST w0 w' mb ts m sm := by
  obtain ⟨S, T, a1, a2, a3, a4, a5⟩ := h.ex
  exact ⟨⟨S, T, fun i t ht => (a1 i t ht).below hb, a2.below hb, a3, a4, a5⟩, h.mb0, by have := h.mb1; have := hb.size; omega, bthen h.bel hb⟩

theorem ST.st {w0 w : World} {mb ts m sm} (h : ST w0 w mb ts m sm) (v0 v1 v2 : Value) (k : Int) : ST w0 (st4 w mb v0 v1 v2 k) mb ts m sm := by
  obtain ⟨S, T, a1, a2, a3, a4, a5⟩ := h.ex
  have hf := st4_fr w mb v0 v1 v2 k
  exact ⟨⟨S, T, fun i t ht => (a1 i t ht).fr hf (fun b hb e => (a4 i b hb).2.1 e), a2.fr hf (fun b hb e => a5 (e ▸ hb)), a3, a4, a5⟩, h.mb0, by have := h.mb1; have := hf.size; omega, h.bel.trans (hf.below (fun i e => e ▸ h.mb0) h.bel.size)⟩

theorem ST.at {w0 w : World} {mb ts m sm} (h : ST w0 w mb ts m sm) {i : Nat} {t : Nat × Sn} (ht : ts[i]? = some t) : ∃ S, TI w S t.1 t.2.1 t.2.2 := by
  obtain ⟨S, T, a1, a2, a3, a4, a5⟩ := h.ex
  exact ⟨S i, a1 i t ht⟩

theorem ST.rt {w0 w : World} {mb ts m sm} (h : ST w0 w mb ts m sm) : ∃ T, RT w T m sm.1 sm.2 := by
  obtain ⟨S, T, a1, a2, a3, a4, a5⟩ := h.ex
  exact ⟨T, a2⟩

theorem ST.form {w0 w : World} {mb ts m sm} (h : ST w0 w mb ts m sm) : ∃ ta tc pa pc fa fc, m = .agg #[.slice ta sm.1.length tc, .slice pa sm.1.length pc, .slice fa sm.1.length fc, .int .i64 sm.2] := by
  obtain ⟨T, h⟩ := h.rt
  obtain ⟨ta, tc, pa, pc, fa, fc, h, _⟩ := h.ex
  exact ⟨ta, tc, pa, pc, fa, fc, h⟩

/-- a call on the i-th tree -/
theorem ST.act {w0 w : World} {mb ts m sm} (h : ST w0 w mb ts m sm) {i : Nat} {t : Nat × Sn} (ht : ts[i]? = some t) :
    ∃ S, TI w S t.1 t.2.1 t.2.2 ∧ ∀ w' (s' : Sn), PSt S t.1 s'.1 s'.2 w w' → ST w0 w' mb (ts.set i (t.1, s')) m sm ∧ ∀ v0 v1 v2 k, CT w mb v0 v1 v2 k → CT w' mb v0 v1 v2 k := by
  obtain ⟨S, T, a1, a2, a3, a4, a5⟩ := h.ex
  refine ⟨S i, a1 i t ht, fun w' s' hp => ?_⟩
  obtain ⟨S', b1, b2, b3⟩ := hp
  have hs := b2.size
  have hm := h.mb1
  have h0 := h.bel.size
  have hcut : ∀ j u, ts[j]? = some u → j ≠ i → TI w' (fun b => S j b ∧ b < w.heap.size) u.1 u.2.1 u.2.2 := fun j u hu hne => (a1 j u hu).cut.fr b2 (fun b hb e => hne (a3 j i b hb.1 e))
  refine ⟨⟨⟨fun j b => if j = i then S' b else (S j b ∧ b < w.heap.size), fun b => T b ∧ b < w.heap.size, ?_, a2.lt.fr b2 (fun b hb e => (a4 i b e).1 hb.1), ?_, ?_, fun e => a5 e.1⟩, h.mb0, by omega, h.bel.trans (b2.below (fun b hb => (a4 i b hb).2.2) h0)⟩, fun v0 v1 v2 k hc => hc.fr b2 (fun e => (a4 i mb e).2.1 rfl)⟩
  · intro j u hu
    rcases set_at hu with ⟨rfl, rfl⟩ | ⟨hne, hu⟩
    · simpa using b1
    · simpa [hne] using hcut j u hu hne
  · intro j1 j2 b h1 h2
    by_cases e1 : j1 = i <;> by_cases e2 : j2 = i
    · omega
    · simp only [e1, if_true, e2, if_false] at h1 h2
      rcases b3 b h1 with q | q
      · exact absurd (a3 i j2 b q h2.1) (fun e => e2 e.symm)
      · omega
    · simp only [e2, if_true, e1, if_false] at h1 h2
      rcases b3 b h2 with q | q
      · exact absurd (a3 i j1 b q h1.1) (fun e => e1 e.symm)
      · omega
    · simp only [e1, e2, if_false] at h1 h2
      exact a3 j1 j2 b h1.1 h2.1
  · intro j b hb
    by_cases e : j = i
    · simp only [e, if_true] at hb
      rcases b3 b hb with q | q
      · exact ⟨fun e => (a4 i b q).1 e.1, (a4 i b q).2⟩
      · exact ⟨fun e => by omega, by omega, by omega⟩
    · simp only [e, if_false] at hb
      exact ⟨fun e => (a4 j b hb.1).1 e.1, (a4 j b hb.1).2⟩

/-- a tree more -/
theorem ST.push {w0 w w' : World} {mb ts m sm} (h : ST w0 w mb ts m sm) {bt : Nat} {s : Sn} (ht : TI w' (fun b => w.heap.size ≤ b) bt s.1 s.2) (hb : Below w.heap.size w w') : ST w0 w' mb (ts ++ [(bt, s)]) m sm := by
  obtain ⟨S, T, a1, a2, a3, a4, a5⟩ := h.ex
  have hs := hb.size
  have hm := h.mb1
  have h0 := h.bel.size
  refine ⟨⟨fun j b => if j = ts.length then w.heap.size ≤ b else (S j b ∧ b < w.heap.size), fun b => T b ∧ b < w.heap.size, ?_, a2.lt.below hb, ?_, ?_, fun e => a5 e.1⟩, h.mb0, by omega, bthen h.bel hb⟩
  · intro j u hu
    rw [List.getElem?_append] at hu
    split at hu
    · rename_i hlt
      simpa [show j ≠ ts.length by omega] using (a1 j u hu).cut.below hb
    · rename_i hlt
      have h1 := (List.getElem?_eq_some_iff.1 hu).1
      simp at h1
      have e : j = ts.length := by omega
      subst e
      simp at hu
      subst hu
      simpa using ht
  · intro j1 j2 b h1 h2
    by_cases e1 : j1 = ts.length <;> by_cases e2 : j2 = ts.length
    · omega
    · simp only [e1, if_true, e2, if_false] at h1 h2; omega
    · simp only [e2, if_true, e1, if_false] at h1 h2; omega
    · simp only [e1, e2, if_false] at h1 h2
      exact a3 j1 j2 b h1.1 h2.1
  · intro j b hb
    by_cases e : j = ts.length
    · simp only [e, if_true] at hb
      exact ⟨fun e => by omega, by omega, by omega⟩
    · simp only [e, if_false] at hb
      exact ⟨fun e => (a4 j b hb.1).1 e.1, (a4 j b hb.1).2⟩

/-- step on a new tree: only the reference's tree is told -/
theorem ST.stepm {w0 w w2 : World} {mb ts m sm} (h : ST w0 w mb ts m sm) (hb2 : Below w.heap.size w w2) {bf : Nat} (hf : TI w2 (fun b => w.heap.size ≤ b) bf newS.1 newS.2) (hi : Inv sm.1 sm.2) (hlen : sm.1.length ≤ 999) (k d t : Int) (hid : (Lit.int .i64 t).wf = true) :
    Calls Try.prog 15 #[.pointer (some ⟨bf, 0, none⟩), m, .agg #[.int .i64 k, .int .i64 d, .int .i64 t]] w2 fun e x =>
      ∃ m' b, e = .returned (.tuple #[m', .bool b]) ∧ ST w0 x mb ts m' (stA sm (k, d, t)) ∧ ∀ v0 v1 v2 k, CT w mb v0 v1 v2 k → CT x mb v0 v1 v2 k := by
  obtain ⟨S, T, a1, a2, a3, a4, a5⟩ := h.ex
  have hs := hb2.size
  have hm := h.mb1
  have h0 := h.bel.size
  refine (step_any w2 (fun b => w.heap.size ≤ b) (fun b => T b ∧ b < w.heap.size) bf newS.1 newS.2 m sm.1 sm.2 k d t hf newS_inv (a2.lt.below hb2) hi (fun i hi e => by have := hi.2; omega) (by simp [newS]) hlen hid).mono ?_
  rintro e x ⟨m', rfl, hg⟩
  obtain ⟨S1, T1, b1, b2, b3, b4, b5⟩ := hg.ex
  have hz := hg.sz
  have hbx : Below w.heap.size w x := hb2.trans (hg.fr.below (fun b hb => hb) hs)
  refine ⟨m', _, rfl, ⟨⟨fun j b => S j b ∧ b < w.heap.size, T1, fun i u hu => (a1 i u hu).cut.below hbx, b2, fun i j b h1 h2 => a3 i j b h1.1 h2.1, fun i b hb => ⟨fun e => ?_, (a4 i b hb.1).2⟩, fun e => ?_⟩, h.mb0, by omega, bthen h.bel hbx⟩, fun v0 v1 v2 k hc => hc.below hbx⟩
  · rcases b5 b e with q | q
    · exact (a4 i b hb.1).1 q.1.1
    · omega
  · rcases b5 mb e with q | q
    · exact a5 q.1.1
    · omega

end Go.Proofs.Ytjajlnhobchkgaa
