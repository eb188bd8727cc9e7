/-
  Graph.Add: the commits and the error as the plain law of Add says.
-/
import Derived.Test.YtoakelgjofdmpaaHSl
import Derived.Deep.RegionLaw
namespace Go.Proofs.Ytoakelgjofdmpaa
open Go.RowKit
set_option linter.unusedVariables false
set_option linter.unusedSimpArgs false

theorem EC : EltG Try.prog 22 27 (.agg #[.slice none 0 0, .int .i64 0, .string ByteArray.empty]) 3 48 := ⟨Try.underlying22, info_parts (by kernel_rfl), rfl, by decide⟩

/-- what Add hands back, and where things lie then -/
def AddPost (S : Nat → Prop) (bg : Nat) (L : List Cm) (c : Cm) (w : World) (e : Ending) (w' : World) : Prop :=
  e = .returned (.tuple #[.int .i64 (if addBad L c = 0 then (L.length : Int) else 0), errV (addBad L c)]) ∧
  ∃ S', GI w' S' bg (addC L c) ∧ Fr S w w' ∧ ∀ i, S' i → S i ∨ w.heap.size ≤ i

theorem AddPost.bad {S bg L c w w'} {k : Int} (hk : addBad L c = k) (h0 : k ≠ 0) (hg : GI w S bg L) (hb : Below w.heap.size w w') {e : Ending} (he : e = .returned (.tuple #[.int .i64 0, errV k])) : AddPost S bg L c w e w' :=
  ⟨by rw [hk, if_neg h0]; exact he, S, by unfold addC; rw [hk, if_neg h0]; exact hg.below hb, .of_below hb, fun _ h => .inl h⟩

theorem add_fin {S P : Nat → Prop} {bg : Nat} {L : List Cm} {ps : List Int} {t : Int} {s : ByteArray} {w w3 w4 : World} {ga a2 a4 : Option Addr} {gc c2 c4 N B : Nat} {o : Obj} {vs : List (Value × Cm)}
    (hN : L.length = N) (hlt : N < 65536) (hvs : L = vs.map (·.2)) (hrow0 : ∀ g, (Value.slice ga N gc).ownBlock = some g → g < w.heap.size) (hpar : ∀ x ∈ vs, Par w3 P x.1 x.2.1) (hP : ∀ i, P i → i < w.heap.size)
    (hfoot : ∀ g, (Value.slice ga N gc).ownBlock = some g → S g ∧ ¬ P g) (hsub : ∀ i, P i → S i) (hwf : WfL L) (hS : S bg) (hPb : ¬ P bg) (hne : (Value.slice ga N gc).ownBlock ≠ some bg) (hb3 : Below w.heap.size w w3) (hbg : bg < w.heap.size)
    (hfz : w4.frozen? ⟨bg, 0, none⟩ = false) (hc4 : ∃ u, w4.cell? ⟨bg, 0, none⟩ = some u)
    (ho : Own w3 B 3 .i64 (.slice a2 ps.length c2) ps) (hB : w.heap.size ≤ B) (hpl : ps.length ≤ 8) (hpwf : ∀ p ∈ ps, (Lit.int .i64 p).wf = true)
    (hrow : Row w4 0 27 3 (.slice a4 (N + 1) c4) (N + 1) (cellsC vs ++ [.slice a2 ps.length c2, .int .i64 t, .string s]))
    (hg4 : (w3.alloc o).drew.grownBy w4 (Value.slice ga N gc).ownBlock)
    (hat : (Value.slice a4 (N + 1) c4).ownBlock = (Value.slice ga N gc).ownBlock ∨ (Value.slice a4 (N + 1) c4).ownBlock = some (w3.alloc o).drew.heap.size)
    (hadd : addBad L (ps, t, s) = 0) (ht : (Lit.int .i64 t).wf = true) (hs : s.size ≤ 9223372036854775807) :
    ∃ S', GI (w4.setCell ⟨bg, 0, none⟩ (.slice a4 (N + 1) c4)) S' bg (addC L (ps, t, s)) ∧ Fr S w (w4.setCell ⟨bg, 0, none⟩ (.slice a4 (N + 1) c4)) ∧ ∀ i, S' i → S i ∨ w.heap.size ≤ i := by
  have hL : addC L (ps, t, s) = L ++ [(ps, t, s)] := by unfold addC; rw [if_pos hadd]
  have hsz : (w3.alloc o).drew.heap.size = w3.heap.size + 1 := by simp
  have hw3 : w.heap.size ≤ w3.heap.size := hb3.size
  have f34 : Fr (fun i => (Value.slice ga N gc).ownBlock = some i) w3 w4 := ((Fr.refl _ _).alloc o).drew.then (.of_grown hg4 fun k hk => hk) fun i hi => .inl hi
  have f45 : Fr (fun i => i = bg) w4 (w4.setCell ⟨bg, 0, none⟩ (.slice a4 (N + 1) c4)) := (Fr.refl (fun i => i = bg) w4).setCell (p := ⟨bg, 0, none⟩) rfl _
  obtain ⟨u, hu⟩ := hc4
  have hlen : (L ++ [(ps, t, s)]).length = N + 1 := by rw [List.length_append, hN]; rfl
  have hoB : ∀ g, (Value.slice a2 ps.length c2).ownBlock = some g → w.heap.size ≤ g ∧ g < w3.heap.size := fun g hg => ⟨Nat.le_trans hB (Row.block_lt ho hg).2, (Row.block_lt ho hg).1⟩
  refine ⟨fun i => S i ∨ w.heap.size ≤ i, ?_, ?_, fun i hi => hi⟩
  · rw [hL]
    refine ⟨⟨fun i => P i ∨ (Value.slice a2 ps.length c2).ownBlock = some i, a4, c4, by rw [hlen]; exact set_same hu, ?_, ?_, ?_⟩, (World.frozen?_setCell ..).trans hfz, .inl hS, by rw [hlen]; omega⟩
    · rw [hlen]
      have hrb : ∀ g, (Value.slice a4 (N + 1) c4).ownBlock = some g → (S g ∨ w.heap.size ≤ g) ∧ g ≠ bg ∧ ¬ P g ∧ (Value.slice a2 ps.length c2).ownBlock ≠ some g := by
        intro g hg
        rcases hat with h | h
        · rw [h] at hg
          have h5 := hrow0 g hg
          exact ⟨.inl (hfoot g hg).1, fun e => hne (e ▸ hg), (hfoot g hg).2, fun e => by have := hoB g e; omega⟩
        · rw [h] at hg
          have hg : (w3.alloc o).drew.heap.size = g := by simpa using hg
          rw [hsz] at hg
          exact ⟨.inr (by omega), by omega, fun hp => by have := hP g hp; omega, fun e => by have := hoB g e; omega⟩
      refine ⟨⟨vs ++ [(.slice a2 ps.length c2, (ps, t, s))], by rw [List.map_append, ← hvs]; rfl, ?_, ?_⟩, fun g hg => ⟨(hrb g hg).1, fun hh => ?_⟩, fun i hi => ?_, ?_⟩
      · rw [cellsC_append]
        exact Row.fr hrow f45 fun g hg e => (hrb g hg).2.1 e
      · intro x hx
        rcases List.mem_append.1 hx with hx | hx
        · exact ((((hpar x hx).mono (T' := fun i => P i ∨ (Value.slice a2 ps.length c2).ownBlock = some i) fun i hi => .inl hi).fr f34 (by
            rintro i (hi | hi) e
            · exact (hfoot i e).2 hi
            · have := hoB i hi; have := hrow0 i e; omega)).fr f45 (by
            rintro i (hi | hi) e
            · exact hPb (e ▸ hi)
            · have := hoB i hi; omega))
        · rw [List.mem_singleton] at hx
          subst hx
          have hp : Par w3 (fun i => P i ∨ (Value.slice a2 ps.length c2).ownBlock = some i) (.slice a2 ps.length c2) ps := by
            refine ⟨a2, ps.length, c2, rfl, ⟨ho.cap, fun ha => ?_⟩, ho.rd hpwf, fun x hx hn => .inr ?_⟩
            · subst ha
              rcases ho.2 with ⟨hv, _⟩ | ⟨g, cap, cur, hv, _⟩
              · simp only [Value.slice.injEq] at hv; exact hv.2.2
              · simp at hv
            · rcases ho.2 with ⟨hv, _⟩ | ⟨g, cap, cur, hv, _⟩
              · simp only [Value.slice.injEq] at hv; rw [hv.1] at hx; cases hx
              · simp only [Value.slice.injEq] at hv; rw [hv.1] at hx ⊢; cases hx; rfl
          exact (hp.fr f34 (by
            rintro i (hi | hi) e
            · exact (hfoot i e).2 hi
            · have := hoB i hi; have := hrow0 i e; omega)).fr f45 (by
            rintro i (hi | hi) e
            · exact hPb (e ▸ hi)
            · have := hoB i hi; omega)
      · rcases hh with hh | hh
        · exact (hrb g hg).2.2.1 hh
        · exact (hrb g hg).2.2.2 hh
      · rcases hi with hi | hi
        · exact .inl (hsub i hi)
        · exact .inr (hoB i hi).1
      · intro x hx
        rcases List.mem_append.1 hx with hx | hx
        · exact hwf x hx
        · rw [List.mem_singleton] at hx; subst hx; exact ⟨ht, hs, hpwf⟩
    · rintro (h | h)
      · exact hPb h
      · have := hoB bg h; omega
    · rw [hlen]
      intro e
      rcases hat with h | h
      · rw [h] at e; exact hne e
      · rw [h] at e
        have e : (w3.alloc o).drew.heap.size = bg := by simpa using e
        omega
  · exact ((Fr.of_below hb3).then (f34.mono (T := S) fun i hi => (hfoot i hi).1) fun i hi => .inl hi).then (f45.mono (T := S) fun i hi => hi ▸ hS) fun i hi => .inl hi

set_option maxRecDepth 100000 in
set_option maxHeartbeats 4000000 in
theorem add_any (S T : Nat → Prop) (bg : Nat) (L : List Cm) (v : Value) (ps : List Int) (t : Int) (s : ByteArray) (w : World) (hg : GI w S bg L) (hp : Par w T v ps) (ht : (Lit.int .i64 t).wf = true) (hs : s.size ≤ 9223372036854775807) :
    Calls Try.prog 21 #[.pointer (some ⟨bg, 0, none⟩), .agg #[v, .int .i64 t, .string s]] w (AddPost S bg L (ps, t, s) w) := by
  obtain ⟨a, n, c, rfl, hnc, hpf⟩ := hp
  obtain ⟨w1, hw1⟩ : ∃ w1, w1 = w.alloc (.cells #[.slice a n c, .int .i64 t, .string s] 27) := ⟨_, rfl⟩
  have HB1 := Lib.hid (show Below w.heap.size w w1 by rw [hw1]; exact below_alloc _ _)
  have HG := Lib.hid hg
  have HR := Lib.hid (hpf.rd.below HB1.out)
  have HL := Lib.hid hpf.rd.len
  have hmx := hpf.rd.max
  have HX0 : Hid (w1.cell? ⟨w.heap.size, 0, none⟩ = some (.slice a n c)) := Lib.hid (by rw [hw1]; simp)
  have HX1 : Hid (w1.cell? ⟨w.heap.size, 1, none⟩ = some (.int .i64 t)) := Lib.hid (by rw [hw1]; simp)
  have HX2 : Hid (w1.cell? ⟨w.heap.size, 2, none⟩ = some (.string s)) := Lib.hid (by rw [hw1]; simp)
  have HFZ : Hid (∀ j, w1.frozen? ⟨w.heap.size, j, none⟩ = false) := Lib.hid (by intro j; rw [hw1]; simp)
  have HSZ : Hid (w1.heap.size = w.heap.size + 1) := Lib.hid (by rw [hw1]; simp)
  have HW1 := Lib.hid hw1
  have HNC := Lib.hid hnc
  have HT := Lib.hid ht
  clear hw1 hg hpf hnc ht
  by_cases h1 : 8 < n ∨ 200 < s.size ∨ t < 0
  · have HE : Hid (addBad L (ps, t, s) = 4) := Lib.hid (by unfold addBad; rw [if_pos]; simpa [HL.out] using h1)
    go_enter Try.func21, Try.ntmps21
    go_wp2
    all_goals go_ret2
    all_goals exact AddPost.bad HE.out (by decide) HG.out (below_alloc _ _) rfl
  have h1a : n ≤ 8 := by omega
  have h1b : s.size ≤ 200 := by omega
  have h1c : 0 ≤ t := by omega
  have HE1 : Hid (addBad L (ps, t, s) = if ∃ p ∈ ps, p < 0 ∨ (L.length : Int) ≤ p then 1 else if ¬ ps.Nodup then 4 else if 65536 ≤ L.length then 3 else 0) := Lib.hid (by unfold addBad; rw [if_neg (by simpa [HL.out] using h1)])
  clear h1
  obtain ⟨PP, ga, gc, hgc, hgo, _, _⟩ := (HG.out.below HB1.out).ex
  have HGC := Lib.hid hgc
  have HGO := Lib.hid hgo
  clear hgc hgo
  go_enter Try.func21, Try.ntmps21
  go_wp2
  rw [← HW1.out]
  have x0 := HX0.out
  have x1 := HX1.out
  have x2 := HX2.out
  go_loop [32] (fun iv => ∃ i : Nat, i ≤ n ∧ iv = .int .i64 i ∧ (∀ p ∈ ps.take i, 0 ≤ p ∧ p < (L.length : Int))) (fun iv => n - (intOf iv).toNat)
  case atStart => exact ⟨0, by omega, rfl, by simp⟩
  case round =>
    obtain ⟨i, hi, rfl, hall⟩ := hrel
    have HALL := Lib.hid hall
    clear hall
    by_cases hlt : i < n
    · obtain ⟨b1, o1, rfl, h1⟩ := HR.out.cell i hlt
      have hil : i < ps.length := by rw [HL.out]; exact hlt
      cases hb : hasB L.length (ps.getD i 0) with
      | true =>
        have HB := Lib.hid hb
        have HS : Hid (∀ p ∈ ps.take (i + 1), 0 ≤ p ∧ p < (L.length : Int)) := Lib.hid (by
          intro p hp
          rw [getD_take_snoc (d := 0) hil] at hp
          rcases List.mem_append.1 hp with hp | hp
          · exact HALL.out p hp
          · rw [List.mem_singleton] at hp; subst hp; simpa [hasB] using hb)
        clear hb
        generalize ps.getD i 0 = p at *
        go_wp2_with fail
        refine (has_any bg ga L.length gc p w1 HGC.out).mono ?_
        rw [HB.out]
        rintro e w2 ⟨rfl, rfl⟩
        go_wp2
        go_round
        case rel => exact ⟨i + 1, by omega, by go_num, HS.out⟩
        case measure => simp [intOf]; omega
      | false =>
        have HB := Lib.hid hb
        have HE : Hid (addBad L (ps, t, s) = 1) := Lib.hid (by
          rw [HE1.out, if_pos]
          refine ⟨ps.getD i 0, getD_mem hil, ?_⟩
          have : ¬ (0 ≤ ps.getD i 0 ∧ ps.getD i 0 < (L.length : Int)) := by simpa [hasB] using hb
          omega)
        clear hb
        generalize ps.getD i 0 = p at *
        go_wp2_with fail
        refine (has_any bg ga L.length gc p w1 HGC.out).mono ?_
        rw [HB.out]
        rintro e w2 ⟨rfl, rfl⟩
        go_wp2
        go_ret2
        exact AddPost.bad HE.out (by decide) HG.out HB1.out rfl
    · have HE2 : Hid (addBad L (ps, t, s) = if ¬ ps.Nodup then 4 else if 65536 ≤ L.length then 3 else 0) := Lib.hid (by
        rw [HE1.out, if_neg]
        rintro ⟨p, hp, hh⟩
        have := HALL.out p (by rw [List.take_of_length_le (by rw [HL.out]; omega)]; exact hp)
        omega)
      clear HALL HE1
      go_wp2
      go_loop [45] (fun iv => ∃ i : Nat, i ≤ n ∧ iv = .int .i64 i ∧ (ps.take i).Nodup) (fun iv => n - (intOf iv).toNat)
      case atStart => exact ⟨0, by omega, rfl, by simp⟩
      case round =>
        obtain ⟨i, hi, rfl, hall⟩ := hrel
        have HALL := Lib.hid hall
        clear hall
        by_cases hlt : i < n
        · obtain ⟨b1, o1, rfl, h1⟩ := HR.out.cell i hlt
          have hil : i < ps.length := by rw [HL.out]; exact hlt
          obtain ⟨ka, hka, hsl⟩ := Rd.cutH EI HR.out (c := c) (v := i) (by omega) HNC.out.1
          have HKA := Lib.hid hka
          clear hka
          cases hb : memB (ps.take i) (ps.getD i 0) with
          | false =>
            have HB := Lib.hid hb
            have HS : Hid ((ps.take (i + 1)).Nodup) := Lib.hid (by
              rw [getD_take_snoc (d := 0) hil, List.nodup_append]
              refine ⟨HALL.out, by simp, fun x hx y hy => ?_⟩
              rw [List.mem_singleton] at hy
              subst hy
              intro e; subst e
              simp [memB] at hb
              exact hb hx)
            clear hb
            generalize ps.getD i 0 = p at *
            go_wp2_with fail
            refine (contains_any _ _ _ (ps.take i) p w1 HKA.out).mono ?_
            rw [HB.out]
            rintro e w2 ⟨rfl, rfl⟩
            go_wp2
            go_round
            case rel => exact ⟨i + 1, by omega, by go_num, HS.out⟩
            case measure => simp [intOf]; omega
          | true =>
            have HB := Lib.hid hb
            have HE : Hid (addBad L (ps, t, s) = 4) := Lib.hid (by
              rw [HE2.out, if_pos]
              intro hnd
              have hd := List.take_append_drop (i + 1) ps
              rw [getD_take_snoc (d := 0) hil] at hd
              rw [← hd, List.nodup_append, List.nodup_append] at hnd
              have hmem : ps.getD i 0 ∈ ps.take i := by simpa [memB] using hb
              exact hnd.1.2.2 _ hmem (ps.getD i 0) (by simp) rfl)
            clear hb
            generalize ps.getD i 0 = p at *
            go_wp2_with fail
            refine (contains_any _ _ _ (ps.take i) p w1 HKA.out).mono ?_
            rw [HB.out]
            rintro e w2 ⟨rfl, rfl⟩
            go_wp2
            go_ret2
            exact AddPost.bad HE.out (by decide) HG.out HB1.out rfl
        · have HE3 : Hid (addBad L (ps, t, s) = if 65536 ≤ L.length then 3 else 0) := Lib.hid (by
            rw [HE2.out, if_neg]
            have := HALL.out
            rw [List.take_of_length_le (by rw [HL.out]; omega)] at this
            simpa using this)
          clear HALL HE2
          have gg := HGC.out
          by_cases hfull : 65536 ≤ L.length
          · have HE : Hid (addBad L (ps, t, s) = 3) := Lib.hid (by rw [HE3.out, if_pos hfull])
            have hfi : decide ((65536 : Int) ≤ (L.length : Int)) = true := by simp; omega
            clear hfull
            go_wp2
            go_ret2
            exact AddPost.bad HE.out (by decide) HG.out HB1.out rfl
          · have HE : Hid (addBad L (ps, t, s) = 0) := Lib.hid (by rw [HE3.out, if_neg hfull])
            have hfi : decide ((65536 : Int) ≤ (L.length : Int)) = false := by simp; omega
            have HFULL := Lib.hid hfull
            clear hfull
            go_wp2_with fail
            refine (clone_any _ _ _ ps _ HR.out (by omega) HNC.out.2).mono ?_
            rintro e w2 ⟨a2, c2, rfl, ho2, hb2⟩
            have HO2 := Lib.hid ho2
            have HB2 := Lib.hid hb2
            have y0 := below_cell hb2 x0
            have y1 := below_cell hb2 x1
            have y2 := below_cell hb2 x2
            have gg2 := below_cell hb2 gg
            have fz : w2.frozen? ⟨w.heap.size, 0, none⟩ = false := (hb2.frozen (by have := HSZ.out; simp; omega)).trans (HFZ.out 0)
            clear x0 x1 x2 gg ho2 hb2
            go_wp2
            obtain ⟨w3, hw3⟩ : ∃ w3, w3 = w2.setCell ⟨w.heap.size, 0, none⟩ (.slice a2 ps.length c2) := ⟨_, rfl⟩
            rw [← hw3]
            have hsz2 : w.heap.size < w2.heap.size := World.block_lt_of_cell? w2 ⟨w.heap.size, 0, none⟩ y0
            have hbg : bg < w.heap.size := HG.out.lt
            have z0 : w3.cell? ⟨w.heap.size, 0, none⟩ = some (.slice a2 ps.length c2) := by rw [hw3]; exact set_same y0
            have z1 : w3.cell? ⟨w.heap.size, 1, none⟩ = some (.int .i64 t) := by rw [hw3]; exact set_other (by simp) y1
            have z2 : w3.cell? ⟨w.heap.size, 2, none⟩ = some (.string s) := by rw [hw3]; exact set_other (by simp) y2
            have gg3 : w3.cell? ⟨bg, 0, none⟩ = some (.slice ga L.length gc) := by rw [hw3]; exact set_other (fun e => by have := congrArg Addr.block e; simp at this; omega) gg2
            have hsz3 : w3.heap.size = w2.heap.size := by rw [hw3]; simp [World.setCell]
            have HF23 : Hid (Fr (fun i => i = w.heap.size) w2 w3) := Lib.hid (by rw [hw3]; exact (Fr.refl (fun i => i = w.heap.size) w2).setCell (p := ⟨w.heap.size, 0, none⟩) rfl _)
            have HF3 : Hid (Below w.heap.size w w3) := Lib.hid (by rw [hw3]; exact (HB1.out.trans (HB2.out.mono HB1.out.size)).setCell (Nat.le_refl _) _)
            have HG3 : Hid (GI w3 S bg L) := Lib.hid (HG.out.below HF3.out)
            have hfz : w3.frozen? ⟨bg, 0, none⟩ = false := HG3.out.fr0
            have HO3 : Hid (Own w3 w1.heap.size 3 .i64 (.slice a2 ps.length c2) ps) := Lib.hid (Row.fr HO2.out HF23.out (fun g hg e => by have := (Row.block_lt HO2.out hg).2; have := HSZ.out; omega))
            have HSZ3 := Lib.hid hsz3
            have HY := Lib.hid (And.intro hsz2 hbg)
            clear hw3 y0 y1 y2 gg2 fz hsz3
            obtain ⟨P, a', c', h1, h2, hPb, hneb⟩ := HG.out.ex
            obtain ⟨rfl, rfl⟩ : a' = ga ∧ c' = gc := by
              have h5 := below_cell HF3.out h1
              rw [gg3] at h5
              simp only [Option.some.injEq, Value.slice.injEq] at h5
              exact ⟨h5.1.symm, h5.2.2.symm⟩
            obtain ⟨⟨vs, hvs, hrow, hpar⟩, hfoot, hsub, hwf⟩ := h2
            have HROW0 : Hid (∀ g, (Value.slice a' L.length c').ownBlock = some g → g < w.heap.size) := Lib.hid fun g hg => (Row.block_lt hrow hg).1
            have HROW := Lib.hid (Row.below hrow HF3.out)
            have HPAR : Hid (∀ x ∈ vs, Par w3 (fun i => P i ∧ i < w.heap.size) x.1 x.2.1) := Lib.hid fun x hx => (hpar x hx).lt.below HF3.out
            have HVS := Lib.hid hvs
            have HFOOT : Hid (∀ g, (Value.slice a' L.length c').ownBlock = some g → S g ∧ ¬ (P g ∧ g < w.heap.size)) := Lib.hid fun g hg => ⟨(hfoot g hg).1, fun h => (hfoot g hg).2 h.1⟩
            have HSUB : Hid (∀ i, (P i ∧ i < w.heap.size) → S i) := Lib.hid fun i hi => hsub i hi.1
            have HPB : Hid (¬ (P bg ∧ bg < w.heap.size)) := Lib.hid fun h => hPb h.1
            have HWF := Lib.hid hwf
            have HNEB := Lib.hid hneb
            have hlen : L.length < 65536 := by have := HFULL.out; omega
            have HLEN := Lib.hid hlen
            have hNi : (L.length : Int) + 1 ≤ 65536 := by omega
            clear hrow hpar hvs hfoot hwf hneb hlen hsub hPb h1
            generalize hN : L.length = N at *
            have HNN := Lib.hid hN
            clear hN
            have gg3a := below_cell (below_alloc w3 (.cells #[.slice a2 ps.length c2, .int .i64 t, .string s] 27)) gg3
            go_region_law (refine step_app_row_at (.tmp 73) (.tmp 75) EC rfl rfl 0 (.slice a' N c') N _ rfl (Row.alloc HROW.out _).drew _ 1 _ [.slice a2 ps.length c2, .int .i64 t, .string s] rfl (RdG.lits _ 3 27 1 [.slice a2 ps.length c2, .int .i64 t, .string s] rfl).drew (by simp [Value.oneCell']) (by have := HLEN.out; omega) (by decide) (Nat.zero_le _) ?_; intro a4 c4 w4 hr4 hg4 hat4; have gg4 := hg4.cell (show (w3.alloc (.cells #[.slice a2 ps.length c2, .int .i64 t, .string s] 27)).drew.cell? ⟨bg, 0, none⟩ = _ from below_cell (below_alloc _ _) gg3) (fun e => HNEB.out e.symm); have hf4 : w4.frozen? ⟨bg, 0, none⟩ = false := (World.frozen?_of_block (w := (w3.alloc (.cells #[.slice a2 ps.length c2, .int .i64 t, .string s] 27)).drew) (hg4.block bg (by have := HG3.out.lt; simp; omega) (fun e => HNEB.out e.symm))).trans (((below_alloc w3 _).frozen HG3.out.lt).trans hfz))
            all_goals
              have HFIN := Lib.hid (add_fin HNN.out HLEN.out HVS.out HROW0.out HPAR.out (fun i hi => hi.2) HFOOT.out HSUB.out HWF.out HG.out.foot HPB.out HNEB.out HF3.out HG.out.lt hf4 ⟨_, gg4⟩ HO3.out HB1.out.size (by rw [HL.out]; exact h1a) HR.out.wf hr4 hg4 hat4 HE.out HT.out hs)
              have gg5 := set_same (v := .slice a4 (N + 1) c4) gg4
              clear hr4 hg4 hat4
              go_wp2
              go_ret2
              exact ⟨by rw [HE.out, HNN.out]; rfl, HFIN.out⟩

end Go.Proofs.Ytoakelgjofdmpaa
