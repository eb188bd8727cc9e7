/-
  Copy of a tree: a tree of its own with the same nodes.
-/
import Derived.Test.YtjajlnhobchkgaaUNo
import Derived.BigQuiet
namespace Go.Proofs.Ytjajlnhobchkgaa
open Go.RowKit
set_option linter.unusedVariables false
set_option linter.unusedSimpArgs false

theorem cells_one {vs : List (Value × Nd)} (h : ∀ x ∈ vs, x.1.oneCell' = true) : ∀ u ∈ cellsN vs, u.oneCell' = true := by
  induction vs with
  | nil => intro u hu; cases hu
  | cons x r ih =>
    intro u hu
    rw [show cellsN (x :: r) = cell5 x ++ cellsN r from rfl, List.mem_append] at hu
    rcases hu with hu | hu
    · simp only [cell5, List.mem_cons, List.not_mem_nil, or_false] at hu
      rcases hu with rfl | rfl | rfl | rfl | rfl
      · rfl
      · rfl
      · rfl
      · rfl
      · exact h x (by simp)
    · exact ih (fun y hy => h y (List.mem_cons_of_mem _ hy)) u hu

set_option maxRecDepth 100000 in
set_option maxHeartbeats 1000000 in
theorem clone_nodes (g n c : Nat) (xs : List Value) (w : World) (ho : Row w 0 71 5 (.slice (some ⟨g, 0, none⟩) n c) n xs) (h1 : ∀ u ∈ xs, u.oneCell' = true) (hn : n ≤ 1000) :
    Calls Try.prog 46 #[.slice (some ⟨g, 0, none⟩) n c] w fun e w' => ∃ a' c', e = .returned (.slice a' n c') ∧ Row w' w.heap.size 71 5 (.slice a' n c') n xs ∧ Below w.heap.size w w' := by
  have HR := Lib.hid (ho.rdG.below (below_alloc w (.cells #[] 71)))
  have HNN := Lib.hid hn
  have H1 := Lib.hid h1
  clear ho hn h1
  have he := fun w => Lib.run_eql_slice_nil (P := Try.prog) w 67 _ (some ⟨g, 0, none⟩) n c 0 0 Try.underlying67
  have HE : Hid (Row (w.alloc (.cells #[] 71)) w.heap.size 71 5 (.slice (some ⟨w.heap.size, 0, none⟩) 0 0) 0 []) := Lib.hid (World.ownsRow_lit w #[] 0 (Nat.le_refl _) (by decide) (by simp))
  go_enter Try.func46, Try.ntmps46
  go_wp2_with (at_builtin; refine app_row _ _ EN rfl rfl w.heap.size _ 0 [] rfl HE.out _ _ _ xs rfl HR.out H1.out (by have := HNN.out; omega) (by omega) (by simp) ?_; intro a7 c7 w7 ho7 hg7)
  go_ret
  rw [Nat.zero_add, List.nil_append] at ho7
  refine ⟨a7, c7, ret_eq (by simp), ho7, (Below.alloc (Below.refl w.heap.size w) (Nat.le_refl _) _).trans ((Below.refl _ _).grown hg7 (by simp) (fun x hx => by cases hx; exact Nat.le_refl _))⟩

/-- the copy while its children's rows are copied -/
structure CW (w wr : World) (g n c : Nat) (vs ws : List (Value × Nd)) (i : Nat) : Prop where
  len : ws.length = i
  nds : ws.map (·.2) = (vs.take i).map (·.2)
  row : Row wr w.heap.size 71 5 (.slice (some ⟨g, 0, none⟩) n c) n (cellsN (ws ++ vs.drop i))
  own : ∀ x ∈ ws, Own wr w.heap.size 3 .i64 x.1 x.2.kids
  ob : ∀ x ∈ ws, x.1.ownBlock ≠ some g
  ap : ∀ (i j : Nat) (x y : Value × Nd), ws[i]? = some x → ws[j]? = some y → i ≠ j → ∀ k, x.1.ownBlock = some k → y.1.ownBlock ≠ some k
  bel : Below w.heap.size w wr

theorem CW.step {w wr w6 : World} {g n c : Nat} {vs ws : List (Value × Nd)} {i : Nat} (h : CW w wr g n c vs ws i) {x : Value × Nd} (hx : vs[i]? = some x) {a : Option Addr} {m k : Nat}
    (ho : Own w6 wr.heap.size 3 .i64 (.slice a m k) x.2.kids) (hb : Below wr.heap.size wr w6) : CW w (w6.setCell ⟨g, i * 5 + 4, none⟩ (.slice a m k)) g n c vs (ws ++ [(.slice a m k, x.2)]) (i + 1) := by
  have hgl : g < wr.heap.size ∧ w.heap.size ≤ g := Row.block_lt h.row rfl
  have hs := hb.size
  have hws := h.bel.size
  have hf : Fr (fun j => j = g) w6 (w6.setCell ⟨g, i * 5 + 4, none⟩ (.slice a m k)) := (Fr.refl (fun j => j = g) w6).setCell (p := ⟨g, i * 5 + 4, none⟩) rfl _
  have hi : i < vs.length := (List.getElem?_eq_some_iff.1 hx).1
  have hlen : ∀ k, (Value.slice a m k).ownBlock = (Value.slice a m k).ownBlock := fun _ => rfl
  have hao : ∀ b, (Value.slice a m k).ownBlock = some b → wr.heap.size ≤ b := fun b hbk => (Row.block_lt ho hbk).2
  refine ⟨by simp [h.len], ?_, ?_, ?_, ?_, ?_, ?_⟩
  · rw [List.map_append, h.nds, ← List.take_append_getElem hi, List.map_append]
    have : vs[i] = x := by rw [List.getElem?_eq_getElem hi] at hx; exact Option.some.inj hx
    simp [this]
  · have hst := (World.ownsRow.stored (h.row.below hb) (i * 5 + 4) (.slice a m k)).1
    have hxi : (ws ++ vs.drop i)[i]? = some x := by
      rw [List.getElem?_append_right (by rw [h.len]; exact Nat.le_refl _), h.len, Nat.sub_self, List.getElem?_drop, Nat.add_zero, hx]
    rw [cellsN_set (ws ++ vs.drop i) i 4 x (.slice a m k, x.2) (.slice a m k) hxi (by omega) rfl] at hst
    have he : (ws ++ vs.drop i).set i (.slice a m k, x.2) = ws ++ [(.slice a m k, x.2)] ++ vs.drop (i + 1) := by
      rw [List.set_append_right _ _ (by rw [h.len]; exact Nat.le_refl _), h.len, Nat.sub_self, List.append_assoc]
      congr 1
      rw [List.drop_eq_getElem_cons hi]
      rfl
    rw [he] at hst
    exact hst
  · intro y hy
    rcases List.mem_append.1 hy with hy | hy
    · exact Row.fr ((h.own y hy).below hb) hf (fun b hbk e => h.ob y hy (e ▸ hbk))
    · obtain rfl := List.mem_singleton.1 hy
      exact Row.fr (ho.mono (by omega)) hf (fun b hbk e => by have := hao b hbk; omega)
  · intro y hy
    rcases List.mem_append.1 hy with hy | hy
    · exact h.ob y hy
    · obtain rfl := List.mem_singleton.1 hy
      intro e; have := hao g e; omega
  · have hold : ∀ {j : Nat} {y : Value × Nd}, ws[j]? = some y → ∀ b, y.1.ownBlock = some b → b < wr.heap.size := fun hy b hbk => (Row.block_lt (h.own _ (List.mem_of_getElem? hy)) hbk).1
    have get : ∀ {j : Nat} {y : Value × Nd}, (ws ++ [(Value.slice a m k, x.2)])[j]? = some y → ws[j]? = some y ∨ (j = ws.length ∧ y = (Value.slice a m k, x.2)) := by
      intro j y hy
      rw [List.getElem?_append] at hy
      split at hy
      · exact .inl hy
      · rename_i hlt
        have h1 := (List.getElem?_eq_some_iff.1 hy).1
        simp at h1
        have : j = ws.length := by omega
        subst this
        simp at hy
        exact .inr ⟨rfl, hy.symm⟩
    intro j1 j2 y1 y2 h1 h2 hne b hb1 hb2
    rcases get h1 with h1 | ⟨rfl, rfl⟩ <;> rcases get h2 with h2 | ⟨rfl, rfl⟩
    · exact h.ap j1 j2 y1 y2 h1 h2 hne b hb1 hb2
    · have := hold h1 b hb1; have := hao b hb2; omega
    · have := hold h2 b hb2; have := hao b hb1; omega
    · exact hne rfl
  · exact (h.bel.trans (hb.mono hws)).trans (hf.below (fun j e => by omega) (by omega))

def CopyPost (l : List Nd) (now : Int) (w : World) (e : Ending) (w' : World) : Prop :=
  ∃ bt, e = .returned (.pointer (some ⟨bt, 0, none⟩)) ∧ TI w' (fun i => w.heap.size ≤ i) bt l now ∧ Below w.heap.size w w'

set_option maxRecDepth 100000 in
set_option maxHeartbeats 1500000 in
theorem copy_any (S : Nat → Prop) (bt : Nat) (l : List Nd) (now : Int) (w : World) (ht : TI w S bt l now) (hw : WfT l) (hlen : l.length ≤ 1000) :
    Calls Try.prog 26 #[.pointer (some ⟨bt, 0, none⟩)] w (CopyPost l now w) := by
  obtain ⟨g, n, c, vs, hT, hvs, hSg, hSo⟩ := ht.ex
  have hn := hT.hn
  have hpos := hw.pos
  have hn0 : 0 < n := by rw [hn]; rw [hvs, List.length_map] at hpos; exact hpos
  have hn9 : n ≤ 1000 := by rw [hn]; rw [hvs, List.length_map] at hlen; exact hlen
  have HNO := Lib.hid (none_no bt g n c w hT.c0 hn0)
  have HCL := Lib.hid (clone_nodes g n c (cellsN vs) w hT.row (cells_one (fun x hx => by obtain ⟨a, k, e⟩ := (hT.own x hx).form; rw [e]; rfl)) hn9)
  have hc0 := hT.c0
  have hc1 := hT.c1
  have HT := Lib.hid hT
  have HW := Lib.hid hw
  have HVS := Lib.hid hvs
  have HN := Lib.hid hn
  have HL := Lib.hid hlen
  clear ht hw hT hvs hSg hSo hn hlen hpos
  go_enter Try.func26, Try.ntmps26
  go_wp2_with fail
  refine HNO.out.mono ?_
  rintro e w1 ⟨rfl, rfl⟩
  go_wp2_with fail
  refine HCL.out.mono ?_
  rintro e w2 ⟨a', c', rfl, hr2, hb2⟩
  obtain ⟨g', rfl⟩ : ∃ g', a' = some ⟨g', 0, none⟩ := by
    rcases hr2.2 with ⟨hv, h0⟩ | ⟨g', cap, cur, hv, -⟩
    · omega
    · cases hv; exact ⟨g', rfl⟩
  have HCW : Hid (CW w w2 g' n c' vs [] 0) := Lib.hid ⟨rfl, rfl, hr2, fun x hx => (by cases hx), fun x hx => (by cases hx), fun i j x y h => (by cases h), hb2⟩
  clear hr2 hb2 hc0 hc1
  go_wp2
  go_loopw [14] (fun iv wr => ∃ (i : Nat) (ws : List (Value × Nd)), iv = .int .i64 i ∧ i ≤ n ∧ CW w wr g' n c' vs ws i) (fun iv _ => n - (intOf iv).toNat)
  case atStart => exact ⟨0, [], rfl, by omega, HCW.out⟩
  case round =>
    obtain ⟨i, ws, rfl, hi, hcw⟩ := hrel
    have HCW2 := Lib.hid hcw
    by_cases hlt : i < n
    · obtain ⟨⟨v, nd⟩, hvx⟩ : ∃ y, vs[i]? = some y := ⟨_, List.getElem?_eq_getElem (show i < vs.length by rw [← HN.out]; exact hlt)⟩
      have HVX := Lib.hid hvx
      have hlx : l[i]? = some nd := by rw [HVS.out, List.getElem?_map, hvx]; rfl
      have hown := ((HT.out.below hcw.bel).own _ (List.mem_of_getElem? hvx))
      simp only at hown
      obtain ⟨ka, kc, rfl⟩ := hown.form
      have hkl := HW.out.kids_len hlx
      have HCK := Lib.hid (clone_own ka kc nd.kids wr hown (fun y hy => by
        obtain ⟨j, z, rfl, hz, _⟩ := ((HW.out.kids i nd hlx).2 y).1 hy
        have := WfT.lt hz
        have := HL.out
        exact WalkArith.wf_i64 (by omega)) (by have := HL.out; omega))
      have hcell : wr.cell? ⟨g', i * 5 + 4, none⟩ = some (.slice ka nd.kids.length kc) := by
        have hj : i * 5 + 4 < n * 5 := by omega
        rw [World.ownsRow.cellAt hcw.row _ hj, cellsN_get _ i 4 (.slice ka nd.kids.length kc, nd) (by rw [List.getElem?_append_right (by rw [hcw.len]; exact Nat.le_refl _), hcw.len, Nat.sub_self, List.getElem?_drop, Nat.add_zero, hvx]) (by omega)]
        rfl
      have hlt2 : (i : Int) < (n : Int) := by omega
      have hi9 : (i : Int) ≤ 1000 := by omega
      have HLT := Lib.hid hlt
      clear hcw hown hkl hvx hlx
      go_wp2_with fail
      refine HCK.out.mono ?_
      rintro e w6 ⟨a6, c6, rfl, ho6, hb6⟩
      have HCW7 := Lib.hid (HCW2.out.step HVX.out ho6 hb6)
      have hcell6 := below_cell hb6 hcell
      have hfz6 : w6.frozen? ⟨g', i * 5 + 4, none⟩ = false := World.ownsRow.frozenAt (HCW2.out.row.below hb6) _
      clear ho6 hb6 hcell
      go_wp2
      go_roundw
      case rel => exact ⟨i + 1, _, by go_num, HLT.out, HCW7.out⟩
      case measure => have := HLT.out; simp [intOf]; omega
    · obtain rfl : i = n := by omega
      have hd0 : wr.cell? ⟨bt, 0, none⟩ = _ := below_cell hcw.bel HT.out.c0
      have hd1 : wr.cell? ⟨bt, 1, none⟩ = _ := below_cell hcw.bel HT.out.c1
      clear hcw hlt hi
      go_wp2
      go_ret
      have h := HCW2.out
      have hb := below_alloc wr (.cells #[.slice (some ⟨g', 0, none⟩) i c', .int .i64 now] 69)
      have hgl : g' < wr.heap.size ∧ w.heap.size ≤ g' := Row.block_lt h.row rfl
      have hvn : vs.length = i := HN.out.symm
      have hnds : ws.map (·.2) = l := by rw [h.nds, HVS.out, ← hvn, List.take_length]
      refine ⟨wr.heap.size, ret_eq (by simp), ⟨⟨g', i, c', ws, ⟨h.len.symm, by simp, by simp, fun j => by simp, ?_, ?_, by omega, ?_, h.ap⟩, hnds.symm, hgl.2, ?_⟩, by have := h.bel.size; omega⟩, bthen h.bel hb⟩
      · have hr := h.row
        rw [← hvn, List.drop_length, List.append_nil, hvn] at hr
        exact (hr.below hb).mono (Nat.zero_le _)
      · exact fun x hx => ((h.own x hx).below hb).mono (Nat.zero_le _)
      · exact fun x hx => ⟨fun e => by have := (Row.block_lt (h.own x hx) e).1; omega, h.ob x hx⟩
      · exact fun x hx k hk => (Row.block_lt (h.own x hx) hk).2

end Go.Proofs.Ytjajlnhobchkgaa
