/-
  the statements' build: the graph and the reference's list of the same commits, apart from each other.
-/
import Derived.Test.YtoakelgjofdmpaaHRAdd
namespace Go.Proofs.Ytoakelgjofdmpaa
open Go.RowKit
set_option linter.unusedVariables false
set_option linter.unusedSimpArgs false

def buildL (l : List Cm) : List Cm := l.foldl addC []
theorem buildL_snoc {l : List Cm} {i : Nat} {x : Cm} (h : l[i]? = some x) : buildL (l.take (i + 1)) = addC (buildL (l.take i)) x := by
  have hi : i < l.length := (List.getElem?_eq_some_iff.1 h).1
  have e : l[i] = x := (List.getElem?_eq_some_iff.1 h).2
  unfold buildL
  rw [List.take_succ_eq_append_getElem hi, List.foldl_append, e]; rfl
theorem goodL_nil : GoodL [] := fun i x h => by simp at h
theorem buildL_good (l : List Cm) : GoodL (buildL l) := by
  unfold buildL
  have : ∀ (l a : List Cm), GoodL a → GoodL (l.foldl addC a) := by
    intro l
    induction l with
    | nil => intro a h; exact h
    | cons x r ih => intro a h; exact ih _ (h.add x)
  exact this l [] goodL_nil
theorem addC_len (L : List Cm) (c : Cm) : (addC L c).length ≤ L.length + 1 := by
  unfold addC; split <;> simp
theorem buildL_len (l : List Cm) : (buildL l).length ≤ l.length := by
  unfold buildL
  have : ∀ (l a : List Cm), (l.foldl addC a).length ≤ a.length + l.length := by
    intro l
    induction l with
    | nil => intro a; simp
    | cons x r ih => intro a; have := ih (addC a x); have := addC_len a x; simp only [List.foldl_cons, List.length_cons]; omega
  simpa using this l []

/-- the graph and the list, apart -/
structure Two (w0 w : World) (T0 S T : Nat → Prop) (bg : Nat) (al : Option Addr) (L : List Cm) : Prop where
  g : GI w S bg L
  l : RdC w T al L.length L
  ap : ∀ i, T i → ¬ S i
  s0 : ∀ i, S i → w0.heap.size ≤ i
  t0 : ∀ i, T i → T0 i ∨ w0.heap.size ≤ i
  bel : Below w0.heap.size w0 w

theorem Two.step {w0 w w2 w3 : World} {T0 S S' T : Nat → Prop} {bg al a3} {L L' : List Cm} (h : Two w0 w T0 S T bg al L) (hT0 : ∀ i, T0 i → i < w0.heap.size)
    (hg : GI w2 S' bg L') (hf : Fr S w w2) (hs : ∀ i, S' i → S i ∨ w.heap.size ≤ i)
    (hl : RdC w3 (fun i => ((T i ∧ i < w.heap.size) ∨ T0 i) ∨ w2.heap.size ≤ i) a3 L'.length L') (hb : Below w2.heap.size w2 w3) :
    ∃ S'' T'', Two w0 w3 T0 S'' T'' bg a3 L' := by
  have hsz := h.bel.size
  have hsz2 := hf.size
  have hbl := hg.lt
  refine ⟨fun i => S' i ∧ i < w2.heap.size, _, ⟨?_, hl, ?_, ?_, ?_, ?_⟩⟩
  · have hg3 := hg.below hb
    obtain ⟨P, a, c, h1, h2, h3, h4⟩ := hg.ex
    refine ⟨⟨fun i => P i ∧ i < w2.heap.size, a, c, below_cell hb h1, ?_, fun hh => h3 hh.1, h4⟩, hg3.fr0, ⟨hg.foot, hg.lt⟩, hg.n1⟩
    obtain ⟨⟨vs, hvs, hrow, hpar⟩, hfoot, hsub, hwf⟩ := h2
    exact ⟨⟨vs, hvs, Row.below hrow hb, fun x hx => (hpar x hx).lt.below hb⟩, fun g hg => ⟨⟨(hfoot g hg).1, (Row.block_lt hrow hg).1⟩, fun hh => (hfoot g hg).2 hh.1⟩, fun i hi => ⟨hsub i hi.1, hi.2⟩, hwf⟩
  · rintro i ((hi | hi) | hi) ⟨hS, hlt⟩
    · rcases hs i hS with hh | hh
      · exact h.ap i hi.1 hh
      · omega
    · have := hT0 i hi
      rcases hs i hS with hh | hh
      · have := h.s0 i hh; omega
      · omega
    · omega
  · rintro i ⟨hS, _⟩
    rcases hs i hS with hh | hh
    · exact h.s0 i hh
    · omega
  · rintro i ((hi | hi) | hi)
    · exact h.t0 i hi.1
    · exact .inl hi
    · exact .inr (by omega)
  · exact (h.bel.trans (hf.below h.s0 hsz)).trans (hb.mono (by omega))

theorem AddPost.ok {S bg L c w e w'} (h : AddPost S bg L c w e w') (h0 : addBad L c = 0) : e = .returned (.tuple #[.int .i64 (L.length : Int), .nilIface]) ∧ ∃ S', GI w' S' bg (addC L c) ∧ Fr S w w' ∧ ∀ i, S' i → S i ∨ w.heap.size ≤ i := by
  obtain ⟨he, h2⟩ := h
  rw [h0, if_pos rfl] at he
  exact ⟨he, h2⟩
theorem AddPost.no {S bg L c w e w'} {k : Int} (h : AddPost S bg L c w e w') (h0 : addBad L c = k) (hk : k ≠ 0) : e = .returned (.tuple #[.int .i64 0, errV k]) ∧ ∃ S', GI w' S' bg (addC L c) ∧ Fr S w w' ∧ ∀ i, S' i → S i ∨ w.heap.size ≤ i := by
  obtain ⟨he, h2⟩ := h
  rw [h0, if_neg hk] at he
  exact ⟨he, h2⟩

def BuildPost (T0 : Nat → Prop) (list : List Cm) (w : World) (e : Ending) (w' : World) : Prop :=
  ∃ bg al cl S T, e = .returned (.tuple #[.pointer (some ⟨bg, 0, none⟩), .slice al (buildL list).length cl, .bool true]) ∧ Two w w' T0 S T bg al (buildL list)

set_option maxRecDepth 100000 in
set_option maxHeartbeats 4000000 in
theorem build_any (T0 : Nat → Prop) (a : Option Addr) (n c : Nat) (list : List Cm) (w : World) (hr : RdC w T0 a n list) (hT0 : ∀ i, T0 i → i < w.heap.size) :
    Calls Try.prog 12 #[.slice a n c] w (BuildPost T0 list w) := by
  have HR := Lib.hid hr
  have hmx := hr.max
  have HL := Lib.hid hr.len
  have HT0 := Lib.hid hT0
  have hne : ∀ (a : Addr) (w : World), (binOp .eql 28 (.pointer (some a)) (.pointer none)).run Try.prog w = .ok (.bool false) w := fun a w => by kernel_rfl
  clear hr hT0
  go_enter Try.func12, Try.ntmps12
  go_wp2_with fail
  refine (new_any w).mono ?_
  rintro e w1 ⟨rfl, hw1⟩
  have hc1 : w1.cell? ⟨w.heap.size, 0, none⟩ = some (.slice none 0 0) := by rw [hw1]; simp
  have HTW : Hid (Two w w1 T0 (fun i => i = w.heap.size) (fun _ => False) w.heap.size none (buildL (list.take 0))) := Lib.hid (by
    refine ⟨⟨⟨fun _ => False, none, 0, hc1, ⟨⟨[], rfl, World.ownsRow_nil _ _ _ _, by simp⟩, fun g hg => (by cases hg), fun i hi => False.elim hi, fun x hx => (by simp [buildL] at hx)⟩, fun h => h, by simp [Value.ownBlock]⟩, by rw [hw1]; simp, rfl, by simp [buildL]⟩, ⟨rfl, by simp [buildL], fun i x hx => (by simp [buildL] at hx), fun x hx => (by simp [buildL] at hx)⟩, fun i hi => False.elim hi, fun i hi => (by omega), fun i hi => False.elim hi, by rw [hw1]; exact below_alloc _ _⟩)
  clear hw1
  go_wp2_with fail
  refine (len_any w.heap.size none 0 0 w1 hc1).mono ?_
  rintro e w2 ⟨rfl, rfl⟩
  clear hc1
  go_wp2
  go_loopw [6, 7] (fun lv iv wr => ∃ i al cl S T, i ≤ n ∧ iv = .int .i64 (i : Nat) ∧ lv = .slice al (buildL (list.take i)).length cl ∧ Two w wr T0 S T w.heap.size al (buildL (list.take i))) (fun _ iv _ => n - (intOf iv).toNat)
  case atStart => exact ⟨0, none, 0, _, _, by omega, rfl, rfl, HTW.out⟩
  case round =>
    obtain ⟨i, al, cl, S, T, hi, rfl, rfl, htw⟩ := hrel
    have HW := Lib.hid htw
    clear htw HTW
    by_cases hlt : i < n
    · have hil : i < list.length := by rw [HL.out]; exact hlt
      obtain ⟨x, hx⟩ : ∃ x, list[i]? = some x := ⟨_, List.getElem?_eq_getElem hil⟩
      have HRW := Lib.hid (HR.out.below HW.out.bel)
      obtain ⟨b, off, v, rfl, htb, h1, h2, h3, hp⟩ := HRW.out.cell i x hx
      obtain ⟨ps, t, s⟩ := x
      have HP := Lib.hid hp
      have hwfx := HRW.out.wf (ps, t, s) (List.mem_of_getElem? hx)
      have HWF := Lib.hid hwfx
      have HS := Lib.hid (buildL_snoc hx)
      have hlt0 : ∀ a v, a.block < w.heap.size → wr.cell? a = some v → w.cell? a = some v := fun a v ha hc => (HW.out.bel.cell ha).symm.trans hc
      have hTB := HT0.out b htb
      have q1 := hlt0 _ _ hTB h1
      have q2 := hlt0 _ _ hTB h2
      have q3 := hlt0 _ _ hTB h3
      have HQ := Lib.hid (And.intro q1 (And.intro q2 q3))
      have HTB := Lib.hid hTB
      simp only at h2 h3
      clear hp hwfx hx hlt0 q1 q2 q3 htb hTB
      generalize buildL (list.take i) = L at *
      have HADD := Lib.hid (add_any S T0 w.heap.size L v ps t s wr HW.out.g HP.out HWF.out.1 HWF.out.2.1)
      obtain ⟨q1, q2, q3⟩ := HQ.out
      have k1 : ∀ w2, Hid (Below w.heap.size w w2) → w2.cell? ⟨b, off + i * 3, none⟩ = some v := fun w2 hb => (hb.out.cell (p := ⟨b, off + i * 3, none⟩) HTB.out).trans q1
      have k2 : ∀ w2, Hid (Below w.heap.size w w2) → w2.cell? ⟨b, off + i * 3 + 1, none⟩ = some (.int .i64 t) := fun w2 hb => (hb.out.cell (p := ⟨b, off + i * 3 + 1, none⟩) HTB.out).trans q2
      have k3 : ∀ w2, Hid (Below w.heap.size w w2) → w2.cell? ⟨b, off + i * 3 + 2, none⟩ = some (.string s) := fun w2 hb => (hb.out.cell (p := ⟨b, off + i * 3 + 2, none⟩) HTB.out).trans q3
      have HK1 := Lib.hid k1
      have HK2 := Lib.hid k2
      have HK3 := Lib.hid k3
      clear q1 q2 q3 k1 k2 k3
      have HNEXT : Hid (∀ S' w2, GI w2 S' w.heap.size (addC L (ps, t, s)) → Fr S wr w2 → (∀ i, S' i → S i ∨ wr.heap.size ≤ i) → (Below w.heap.size w w2 ∧ Calls Try.prog 22 #[.slice al L.length cl, .agg #[v, .int .i64 t, .string s]] w2 fun e w3 => ∃ a3 c3, e = .returned (.tuple #[.slice a3 (addC L (ps, t, s)).length c3, .int .i64 (addBad L (ps, t, s))]) ∧ ∃ S'' T'', Two w w3 T0 S'' T'' w.heap.size a3 (addC L (ps, t, s)))) := Lib.hid fun S' w2 hg2 hf2 hs2 => by
        refine ⟨HW.out.bel.trans (hf2.below HW.out.s0 HW.out.bel.size), ?_⟩
        have HL2 : RdC w2 (fun i => (T i ∧ i < wr.heap.size) ∨ T0 i) al L.length L := ((HW.out.l.lt.fr hf2 fun i hi => HW.out.ap i hi.1)).mono fun i hi => .inl hi
        have HP2 : Par w2 (fun i => (T i ∧ i < wr.heap.size) ∨ T0 i) v ps := (HP.out.fr hf2 fun i hi hS => by have := HT0.out i hi; have := HW.out.s0 i hS; omega).mono fun i hi => .inr hi
        refine (radd_any _ al L.length cl L v ps t s w2 HL2 HP2 HWF.out.1 HWF.out.2.1).mono ?_
        rintro e w3 ⟨a3, c3, rfl, hl3, hb3⟩
        exact ⟨a3, c3, rfl, HW.out.step HT0.out hg2 hf2 hs2 hl3 hb3⟩
      by_cases hk : addBad L (ps, t, s) = 0
      · have HK := Lib.hid hk
        have HADD0 := Lib.hid (HADD.out.mono fun e w2 h => AddPost.ok h hk)
        rw [hk] at HNEXT
        clear hk HADD
        generalize addC L (ps, t, s) = L2 at *
        go_wp2_with fail
        refine HADD0.out.mono ?_
        rintro e w2 ⟨rfl, S', hg2, hf2, hs2⟩
        have HN2 := Lib.hid (HNEXT.out S' w2 hg2 hf2 hs2)
        have HB2 := Lib.hid HN2.out.1
        have k1 := HK1.out w2 HB2
        have k2 := HK2.out w2 HB2
        have k3 := HK3.out w2 HB2
        clear h1 h2 h3 hg2 hf2 hs2
        go_wp2_with fail
        refine HN2.out.2.mono ?_
        rintro e w3 ⟨a3, c3, rfl, S'', T'', htwo⟩
        have HTWO := Lib.hid htwo
        clear htwo k1 k2 k3
        go_wp2_with fail
        refine (num_nil _).mono ?_
        rintro e w4 ⟨rfl, rfl⟩
        go_wp2
        go_roundw
        case rel => exact ⟨i + 1, a3, c3, S'', T'', by omega, by go_num, by rw [HS.out], by rw [HS.out]; exact HTWO.out⟩
        case measure => simp [intOf]; omega
      · generalize hkk : addBad L (ps, t, s) = k at *
        have HADD0 := Lib.hid (HADD.out.mono fun e w2 h => AddPost.no h hkk hk)
        have hk2 : (k == 0) = false := by simpa using hk
        have hk3 : (k != 0) = true := by simpa using hk
        clear hkk hk HADD
        have HEV := Lib.hid (fun w => num_errV k w)
        generalize errV k = ev at *
        generalize addC L (ps, t, s) = L2 at *
        go_wp2_with fail
        refine HADD0.out.mono ?_
        rintro e w2 ⟨rfl, S', hg2, hf2, hs2⟩
        have HN2 := Lib.hid (HNEXT.out S' w2 hg2 hf2 hs2)
        have HB2 := Lib.hid HN2.out.1
        have k1 := HK1.out w2 HB2
        have k2 := HK2.out w2 HB2
        have k3 := HK3.out w2 HB2
        clear h1 h2 h3 hg2 hf2 hs2
        go_wp2_with fail
        refine HN2.out.2.mono ?_
        rintro e w3 ⟨a3, c3, rfl, S'', T'', htwo⟩
        have HTWO := Lib.hid htwo
        clear htwo k1 k2 k3
        go_wp2_with fail
        refine (HEV.out _).mono ?_
        rintro e w4 ⟨rfl, rfl⟩
        go_wp2
        go_roundw
        case rel => exact ⟨i + 1, a3, c3, S'', T'', by omega, by go_num, by rw [HS.out], by rw [HS.out]; exact HTWO.out⟩
        case measure => simp [intOf]; omega
    · have HE : Hid (list.take i = list) := Lib.hid (List.take_of_length_le (by rw [HL.out]; omega))
      go_wp2
      go_ret3
      refine ⟨w.heap.size, al, cl, S, T, by rw [HE.out]; rfl, ?_⟩
      have := HW.out
      rw [HE.out] at this
      exact this

end Go.Proofs.Ytoakelgjofdmpaa
