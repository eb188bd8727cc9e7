/-
  Graph.Copy: a graph of the same commits in blocks of its own.
-/
import Derived.Test.YtoakelgjofdmpaaHIs
import Derived.Test.YtoakelgjofdmpaaHHeads
namespace Go.Proofs.Ytoakelgjofdmpaa
open Go.RowKit
set_option linter.unusedVariables false
set_option linter.unusedSimpArgs false

theorem cellsC_set : ∀ (vs : List (Value × Cm)) (i : Nat) (x : Value × Cm) (u : Value), vs[i]? = some x → (cellsC vs).set (i * 3) u = cellsC (vs.set i (u, x.2))
  | [], _, _, _, h => by simp at h
  | y :: r, 0, x, u, h => by
    simp only [List.getElem?_cons_zero, Option.some.injEq] at h
    subst h
    rfl
  | y :: r, i + 1, x, u, h => by
    simp only [List.getElem?_cons_succ] at h
    have e : cellsC (y :: r) = y.1 :: .int .i64 y.2.2.1 :: .string y.2.2.2 :: cellsC r := rfl
    have e2 : cellsC ((y :: r).set (i + 1) (u, x.2)) = y.1 :: .int .i64 y.2.2.1 :: .string y.2.2.2 :: cellsC (r.set i (u, x.2)) := rfl
    rw [e, e2, show (i + 1) * 3 = i * 3 + 1 + 1 + 1 by omega, List.set_cons_succ, List.set_cons_succ, List.set_cons_succ, cellsC_set r i x u h]

def CloneC (T : Nat → Prop) (n : Nat) (L : List Cm) (w : World) (e : Ending) (w' : World) : Prop :=
  ∃ a' c' vs, e = .returned (.slice a' n c') ∧ L = vs.map (·.2) ∧ Row w' w.heap.size 27 3 (.slice a' n c') n (cellsC vs) ∧ (∀ x ∈ vs, Par w T x.1 x.2.1) ∧ Below w.heap.size w w'

set_option maxRecDepth 100000 in
set_option maxHeartbeats 1000000 in
theorem cloneC_any (T : Nat → Prop) (a : Option Addr) (n c : Nat) (L : List Cm) (w : World) (hl : RdC w T a n L) (hn : n ≤ 65536) (hc : a = none → n = 0 ∧ c = 0) :
    Calls Try.prog 45 #[.slice a n c] w (CloneC T n L w) := by
  cases a with
  | none =>
    obtain ⟨rfl, rfl⟩ := hc rfl
    have hL : L = [] := List.eq_nil_of_length_eq_zero hl.len
    have he := fun w => Lib.run_eql_slice_nil (P := Try.prog) w 22 _ none 0 0 0 0 Try.underlying22
    go_enter Try.func45, Try.ntmps45
    go_wp2
    go_ret
    exact ⟨none, 0, [], rfl, (by first | exact hL | rfl), World.ownsRow_nil _ _ _ _, fun x hx => by simp at hx, Below.refl _ _⟩
  | some a =>
    obtain ⟨vs, hvs, hrg, hpar⟩ := hl.cells
    have HRG := Lib.hid (hrg.below (below_alloc w (.cells #[] 27)))
    have HVS := Lib.hid hvs
    have HPAR := Lib.hid hpar
    have HONE := Lib.hid (cellsC_one vs fun x hx => by
      obtain ⟨a, n, c, h, _⟩ := hpar x hx
      exact ⟨a, n, c, h⟩)
    clear hl hc hvs hrg hpar
    have he := fun w => Lib.run_eql_slice_nil (P := Try.prog) w 22 _ (some a) n c 0 0 Try.underlying22
    go_enter Try.func45, Try.ntmps45
    go_wp2_with (at_builtin; refine app_row_at _ _ EC rfl rfl w.heap.size (.slice (some ⟨w.heap.size, 0, none⟩) 0 0) 0 [] rfl (World.ownsRow_lit w #[] 0 (Nat.le_refl _) (by decide) rfl) (some a) n c (cellsC vs) rfl HRG.out HONE.out (by omega) (by decide) (by simp) ?_; intro a7 c7 w7 hr7 hg7 hat7; simp only [Nat.zero_add, List.nil_append] at hr7; have HR7 := Lib.hid hr7; have HB7 := Lib.hid ((below_alloc w (.cells #[] 27)).grown hg7 (by simp) (fun x hx => by cases hx; exact Nat.le_refl _)); clear hr7 hg7 hat7)
    go_ret
    exact ⟨a7, c7, vs, by simp, HVS.out, HR7.out, HPAR.out, HB7.out⟩

theorem own_par {w : World} {B : Nat} {T : Nat → Prop} {a : Option Addr} {c : Nat} {ps : List Int} (ho : Own w B 3 .i64 (.slice a ps.length c) ps) (hpwf : ∀ p ∈ ps, (Lit.int .i64 p).wf = true) (hT : ∀ g, B ≤ g → g < w.heap.size → T g) : Par w T (.slice a ps.length c) ps := by
  have hT2 : ∀ g, (Value.slice a ps.length c).ownBlock = some g → T g := fun g hg => hT g (Row.block_lt ho hg).2 (Row.block_lt ho hg).1
  refine ⟨a, ps.length, c, rfl, ⟨ho.cap, fun ha => ?_⟩, ho.rd hpwf, fun x hx hn => hT2 _ ?_⟩
  · subst ha
    rcases ho.2 with ⟨hv, _⟩ | ⟨g, cap, cur, hv, _⟩
    · simp only [Value.slice.injEq] at hv; exact hv.2.2
    · simp at hv
  · rcases ho.2 with ⟨hv, _⟩ | ⟨g, cap, cur, hv, _⟩
    · simp only [Value.slice.injEq] at hv; rw [hv.1] at hx; cases hx
    · simp only [Value.slice.injEq] at hv; rw [hv.1] at hx ⊢; cases hx; rfl

def CopyI (L : List Cm) (S : Nat → Prop) (bh : Nat) (a' : Option Addr) (N c' k : Nat) (w wr : World) (vs : List (Value × Cm)) : Prop :=
  L = vs.map (·.2) ∧ Row wr w.heap.size 27 3 (.slice a' N c') N (cellsC vs) ∧ (∀ i x, vs[i]? = some x → (i < k → Par wr (fun b => bh < b) x.1 x.2.1) ∧ (k ≤ i → Par w S x.1 x.2.1)) ∧
    wr.cell? ⟨bh, 0, none⟩ = some (.slice a' N c') ∧ (∀ j, wr.frozen? ⟨bh, j, none⟩ = false) ∧ Below w.heap.size w wr
theorem copy_step {L : List Cm} {S : Nat → Prop} {bh gr N c' k c5 : Nat} {a5 : Option Addr} {w wr w5 : World} {vs : List (Value × Cm)} {v : Value} {ps : List Int} {t : Int} {s : ByteArray}
    (h : CopyI L S bh (some ⟨gr, 0, none⟩) N c' k w wr vs) (hx : vs[k]? = some (v, (ps, t, s))) (hg1 : gr < bh) (hg2 : w.heap.size ≤ gr) (hbl : bh < wr.heap.size)
    (ho : Own w5 wr.heap.size 3 .i64 (.slice a5 ps.length c5) ps) (hb5 : Below wr.heap.size wr w5) (hpw : ∀ p ∈ ps, (Lit.int .i64 p).wf = true) :
    ∃ vs', CopyI L S bh (some ⟨gr, 0, none⟩) N c' (k + 1) w (w5.setCell ⟨gr, k * 3, none⟩ (.slice a5 ps.length c5)) vs' := by
  obtain ⟨hvs, hrow, hpar, hcb, hfb, hb⟩ := h
  have hf6 : Fr (fun j => j = gr) w5 (w5.setCell ⟨gr, k * 3, none⟩ (.slice a5 ps.length c5)) := (Fr.refl (fun j => j = gr) w5).setCell (p := ⟨gr, k * 3, none⟩) rfl _
  have hst := (World.ownsRow.stored (Row.below hrow hb5) (k * 3) (.slice a5 ps.length c5)).1
  have hkl : k < vs.length := (List.getElem?_eq_some_iff.1 hx).1
  refine ⟨vs.set k (.slice a5 ps.length c5, (ps, t, s)), ?_, ?_, fun i x hi => ?_, ?_, fun j => ?_, ?_⟩
  · rw [List.map_set, hvs]
    refine List.ext_getElem? fun i => ?_
    rw [List.getElem?_set]
    by_cases e : k = i
    · subst e
      rw [if_pos rfl, if_pos (by rw [List.length_map]; exact hkl), List.getElem?_map, hx]; rfl
    · rw [if_neg e]
  · rw [← cellsC_set vs k _ _ hx]; exact hst
  · rw [List.getElem?_set] at hi
    by_cases e : k = i
    · subst e
      rw [if_pos rfl, if_pos hkl] at hi
      cases hi
      refine ⟨fun _ => ?_, fun h => by omega⟩
      exact (own_par (T := fun b => bh < b) ho hpw (fun g h1 _ => by omega)).fr hf6 (fun i hi e => by omega)
    · rw [if_neg e] at hi
      refine ⟨fun h => ?_, fun h => (hpar i x hi).2 (by omega)⟩
      exact (((hpar i x hi).1 (by omega)).below hb5).fr hf6 (fun i hi e => by omega)
  · exact hf6.cell (below_cell hb5 hcb) (fun e => by have e : bh = gr := e; omega)
  · exact (hf6.frozen (x := ⟨bh, j, none⟩) (by have := hb5.size; show bh < _; omega) (fun e => by have e : bh = gr := e; omega)).trans ((hb5.frozen (p := ⟨bh, j, none⟩) hbl).trans (hfb j))
  · exact (hb.trans (hb5.mono hb.size)).trans (hf6.below (fun i hi => by omega) (by have := hb.size; have := hb5.size; omega))

def CopyPost (L : List Cm) (w : World) (e : Ending) (w' : World) : Prop :=
  ∃ bh, e = .returned (.pointer (some ⟨bh, 0, none⟩)) ∧ GI w' (fun b => w.heap.size ≤ b) bh L ∧ Below w.heap.size w w'

set_option maxRecDepth 100000 in
set_option maxHeartbeats 2000000 in
theorem copy_any (S : Nat → Prop) (bg : Nat) (L : List Cm) (w : World) (hg : GI w S bg L) (hL : GoodL L) :
    Calls Try.prog 20 #[.pointer (some ⟨bg, 0, none⟩)] w (CopyPost L w) := by
  have hne : ∀ (a : Addr) (w : World), (binOp .eql 28 (.pointer (some a)) (.pointer none)).run Try.prog w = .ok (.bool false) w := fun a w => by kernel_rfl
  have hn1 := hg.n1
  obtain ⟨P0, ga, gc, hgc, hown, _, _⟩ := hg.ex
  have hrd := hown.rd (by omega)
  have hgz : ga = none → L.length = 0 ∧ gc = 0 := by
    intro h
    obtain ⟨vs, _, hrow, _⟩ := hown.ex
    rcases hrow.2 with ⟨hv, h0⟩ | ⟨g, cap, cur, hv, _⟩
    · simp only [Value.slice.injEq] at hv; exact ⟨hv.2.1, hv.2.2⟩
    · rw [h] at hv; cases hv
  obtain ⟨N, hN⟩ : ∃ N, N = L.length := ⟨_, rfl⟩
  rw [← hN] at hgc hrd hgz hn1
  have HCL := Lib.hid (cloneC_any S ga N gc L w hrd hn1 hgz)
  have HWF := Lib.hid hown.wf
  have HGL := Lib.hid hL
  have HN := Lib.hid hN
  clear hg hL hN hown hrd hgz
  go_enter Try.func20, Try.ntmps20
  go_wp2_with fail
  refine HCL.out.mono ?_
  rintro e w1 ⟨a', c', vs, rfl, hvs, hrow, hpar, hb1⟩
  obtain ⟨bh, hbh⟩ : ∃ bh, bh = w1.heap.size := ⟨_, rfl⟩
  obtain ⟨w2, hw2⟩ : ∃ w2, w2 = w1.alloc (.cells #[.slice a' N c'] 76) := ⟨_, rfl⟩
  have hb2 : Below w1.heap.size w1 w2 := by rw [hw2]; exact below_alloc _ _
  have hc2 : w2.cell? ⟨bh, 0, none⟩ = some (.slice a' N c') := by rw [hw2, hbh]; simp
  have hf2 : ∀ j, w2.frozen? ⟨bh, j, none⟩ = false := by intro j; rw [hw2, hbh]; simp
  have HVG : Hid (∀ g, (Value.slice a' N c').ownBlock = some g → g < bh ∧ w.heap.size ≤ g) := Lib.hid (fun g hg => by rw [hbh]; exact Row.block_lt hrow hg)
  have HROW := Lib.hid (Row.below hrow hb2)
  have HVS := Lib.hid hvs
  have HPAR := Lib.hid hpar
  have HB2 := Lib.hid (bthen hb1 hb2)
  have HBH : Hid (w.heap.size ≤ bh ∧ bh < w2.heap.size) := Lib.hid ⟨by rw [hbh]; exact hb1.size, World.block_lt_of_cell? w2 _ hc2⟩
  have HC2 := Lib.hid hc2
  have HF2 := Lib.hid hf2
  have HW2 := Lib.hid hw2
  have HBE := Lib.hid hbh
  clear hrow hvs hpar hb1 hb2 hf2 hw2 hbh hgc
  go_wp2
  rw [← HW2.out, ← HBE.out]
  clear hc2
  go_loopg [19] N (fun gg iv wr => ∃ (k : Nat) (vs : List (Value × Cm)), k ≤ N ∧ gg = N - k ∧ iv = .int .i64 k ∧ CopyI L S bh a' N c' k w wr vs)
  case atStart => exact ⟨0, vs, by omega, rfl, rfl, HVS.out, HROW.out, fun i x hx => ⟨fun h => by omega, fun _ => HPAR.out x (List.mem_of_getElem? hx)⟩, HC2.out, HF2.out, HB2.out⟩
  case round =>
    clear HROW HVS HPAR HB2 HC2 HF2 HCL
    clear vs
    obtain ⟨k, vs, hk, rfl, rfl, hci⟩ := hrel
    have HCI := Lib.hid hci
    obtain ⟨hvs, hrow, hpar, hcb, hfb, hb⟩ := hci
    by_cases hlt : k < N
    · have hkz : (k : Int) < (N : Int) := by omega
      have hvl : vs.length = N := by rw [HN.out, hvs, List.length_map]
      obtain ⟨x, hx⟩ : ∃ x, vs[k]? = some x := ⟨_, List.getElem?_eq_getElem (by omega)⟩
      obtain ⟨gr, rfl⟩ : ∃ gr, a' = some ⟨gr, 0, none⟩ := by
        rcases hrow.2 with ⟨hv, _⟩ | ⟨g, cap, cur, hv, _⟩
        · simp only [Value.slice.injEq] at hv; omega
        · simp only [Value.slice.injEq] at hv; exact ⟨g, hv.1⟩
      have hxL : L[k]? = some x.2 := by rw [hvs, List.getElem?_map, hx]; rfl
      have hcp : wr.cell? ⟨gr, k * 3, none⟩ = some x.1 := by
        rw [World.ownsRow.cellAt hrow (k * 3) (by omega)]
        exact (cellsC_get vs k x hx).1
      have hfr := World.ownsRow.frozenAt hrow (k * 3)
      have hgv := HVG.out gr rfl
      obtain ⟨v, ps, t, s⟩ := x
      obtain ⟨pa, pn, pc, he, hnc, hpf⟩ := (hpar k _ hx).2 (Nat.le_refl _)
      simp only at he hpf hcp hxL
      subst he
      have hp8 := (HGL.out k _ hxL).1
      have hpw := (HWF.out _ (List.mem_of_getElem? hxL)).2.2
      simp only at hp8 hpw
      have HCLI := Lib.hid (clone_any pa pn pc ps wr.drew ((hpf.rd.below hb).below (Below.refl _ _).drew) (by have := hpf.rd.len; omega) hnc.2)
      have hcbd : wr.drew.cell? ⟨bh, 0, none⟩ = some (.slice (some ⟨gr, 0, none⟩) N c') := hcb
      have hcpd : wr.drew.cell? ⟨gr, k * 3, none⟩ = some (.slice pa pn pc) := hcp
      have hglt : gr < wr.heap.size := World.block_lt_of_cell? wr _ hcp
      have HX := Lib.hid hx
      have HVS := Lib.hid hvs
      have HROW := Lib.hid hrow
      have HPAR := Lib.hid hpar
      have HFB := Lib.hid hfb
      have HCB := Lib.hid hcb
      have HB := Lib.hid hb
      have HGV := Lib.hid hgv
      have HPW := Lib.hid hpw
      clear hvs hrow hpar hfb hb hgv hpw hx hxL hvl hpf hp8 hnc
      go_wp2
      go_region_with (first
        | (go_at_call 41; refine HCLI.out.mono ?_; rintro e w5 ⟨a5, c5, rfl, ho5, hb5⟩; have y0 := below_cell (W := wr.drew) hb5 hcbd; have y1 := below_cell (W := wr.drew) hb5 hcpd; have yf := (hb5.frozen (p := ⟨gr, k * 3, none⟩) hglt).trans hfr; have ho5 := Lib.hid ho5; have hb5 := Lib.hid hb5))
      all_goals
        have HST := Lib.hid (copy_step HCI.out HX.out HGV.out.1 HGV.out.2 (World.block_lt_of_cell? wr _ HCB.out) ho5.out ((Below.refl _ _).drew.trans hb5.out) HPW.out)
        clear y0 y1 yf hcbd hcpd hcp hcb hfr
        go_wp2
        go_roundg (N - (k + 1))
        case measure => omega
        case rel =>
          obtain ⟨vs', h⟩ := HST.out
          exact ⟨k + 1, vs', by omega, rfl, by go_num, h⟩
    · have hkn : k = N := by omega
      subst hkn
      have HFIN : Hid (GI wr (fun b => w.heap.size ≤ b) bh L) := Lib.hid (by
        have hbh := HBH.out
        refine ⟨⟨fun b => bh < b, a', c', by rw [← HN.out]; exact hcb, ⟨⟨vs, hvs, by rw [← HN.out]; exact Row.mono hrow (Nat.zero_le _), fun x hx => ?_⟩, fun g hg => ?_, fun i hi => ?_, HWF.out⟩, Nat.lt_irrefl _, fun e => ?_⟩, hfb 0, hbh.1, by rw [← HN.out]; exact hn1⟩
        · obtain ⟨i, hi⟩ := List.getElem?_of_mem hx
          have hil : i < vs.length := (List.getElem?_eq_some_iff.1 hi).1
          exact (hpar i x hi).1 (by rw [HN.out, hvs, List.length_map]; exact hil)
        · have := HVG.out g (by rw [HN.out]; exact hg); exact ⟨this.2, by omega⟩
        · have := HBH.out; omega
        · have := HVG.out bh (by rw [HN.out]; exact e); omega)
      have HB := Lib.hid hb
      clear hvs hrow hpar hfb hb
      go_wp2
      go_ret
      exact ⟨bh, rfl, HFIN.out, HB.out⟩

end Go.Proofs.Ytoakelgjofdmpaa
