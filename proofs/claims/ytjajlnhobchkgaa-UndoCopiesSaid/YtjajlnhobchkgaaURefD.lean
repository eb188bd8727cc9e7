/-
  the reference of chapter 39: RedoTo, Do, New.
-/
import Derived.Test.YtjajlnhobchkgaaURefM
import Derived.Deep.RegionHeld3
namespace Go.Proofs.Ytjajlnhobchkgaa
open Go.RowKit
set_option linter.unusedVariables false
set_option linter.unusedSimpArgs false

set_option maxRecDepth 100000 in
set_option maxHeartbeats 2000000 in
theorem rredoto_ok (T : Nat → Prop) (v : Value) (l : List Nd) (now p : Nat) (w : World) (h : RT w T v l now) (x : Nd) (hx : l[now]? = some x) (hp : 0 ≤ x.pref) (hw : WfT l) (y : Nd) (hy : l[p]? = some y) (hyp : y.parent = (now : Int)) (hlen : l.length ≤ 1000) :
    Calls Try.prog 38 #[v, .int .i64 p] w fun e w' => ∃ v', e = .returned (.tuple #[v', .int .i64 0]) ∧ RPost T (gotoP p l p) p w v' w' := by
  have H := Lib.hid h
  obtain ⟨ta, tc, pa, pc, fa, fc, rfl, h1, h2, h3⟩ := h.ex
  obtain ⟨w2, hw2⟩ : ∃ w2, w2 = (w.alloc (.cells #[.slice ta l.length tc, .slice pa l.length pc, .slice fa l.length fc, .int .i64 now] 36)).alloc (.cells #[.slice none 0 0, .slice none 0 0, .slice none 0 0, .int .i64 0] 36) := ⟨_, rfl⟩
  have HTW := two_ct (.slice ta l.length tc) (.slice pa l.length pc) (.slice fa l.length fc) now 36 w
  rw [← hw2] at HTW
  have HW2 := Lib.hid hw2
  have HT := Lib.hid HTW
  obtain ⟨⟨z0, z1, z2, z3, zf⟩, ⟨y0, y1, y2, y3, yf⟩, hb2, _⟩ := HTW
  have HHAS := Lib.hid (rhas_any ta pa fa l.length tc l.length pc l.length fc now p w2.drew)
  have hnl := WfT.lt hx
  have HR2 := Lib.hid (h2.rd.below hb2)
  obtain ⟨b, off, rfl, hq⟩ := ((h3.rd.below hb2)).cell now hnl
  rw [show (l.map (·.pref)).getD now 0 = x.pref by simp [List.getD, hx]] at hq
  obtain ⟨q, hqe⟩ : ∃ q, q = x.pref := ⟨_, rfl⟩
  rw [← hqe] at hq hp
  have hqn : decide (q < 0) = false := decide_eq_false (by omega)
  have d0 : w2.drew.cell? ⟨w.heap.size, 0, none⟩ = _ := z0
  have d1 : w2.drew.cell? ⟨w.heap.size, 1, none⟩ = _ := z1
  have d2 : w2.drew.cell? ⟨w.heap.size, 2, none⟩ = _ := z2
  have d3 : w2.drew.cell? ⟨w.heap.size, 3, none⟩ = _ := z3
  have hni : (now : Int) < (l.length : Int) := by omega
  have hpl := WfT.lt hy
  have hh : hasN l.length (p : Int) = true := by simp [hasN, hpl]
  rw [hh] at HHAS
  obtain ⟨b2, off2, rfl, hr⟩ := HR2.out.cell p hpl
  rw [show (l.map (·.parent)).getD p 0 = (now : Int) by simp [List.getD, hy, hyp]] at hr
  have HGO := Lib.hid (fun (w5 : World) (hb : Below w2.drew.heap.size w2.drew w5) => rgo_rt (fun i => T i ∧ i < w.heap.size) _ l now p w5 ((H.out.lt.below hb2.drew).below hb) hw hpl hlen)
  obtain ⟨l2, hl2⟩ : ∃ l2, l2 = gotoP p l p := ⟨_, rfl⟩
  rw [← hl2] at HGO ⊢
  have dr : w2.drew.cell? ⟨b2, off2 + p, none⟩ = _ := hr
  have hpi : (p : Int) < (l.length : Int) := by omega
  clear h h1 h2 h3 hw2 zf yf y0 y1 y2 y3 hb2 hx hlen hqe hh hp hw hy hyp hl2
  go_enter Try.func38, Try.ntmps38
  go_upto_region 1 with fail
  rw [← HW2.out]
  go_wp2_with fail
  go_region_held3 (fun w' => w'.cell? ⟨w.heap.size, 0, none⟩ = some (Value.slice ta l.length tc) ∧ w'.cell? ⟨w.heap.size, 1, none⟩ = some (Value.slice (some ⟨b2, off2, none⟩) l.length pc) ∧ w'.cell? ⟨w.heap.size, 2, none⟩ = some (Value.slice (some ⟨b, off, none⟩) l.length fc) ∧ w'.cell? ⟨w.heap.size, 3, none⟩ = some (Value.int .i64 (now : Int)) ∧ w'.cell? ⟨b2, off2 + p, none⟩ = some (.int .i64 (now : Int))) (go_keep) (first
    | (go_at_call 17; refine HHAS.out.mono ?_; rintro e w5 ⟨rfl, hb5⟩; have HB5 := Lib.hid hb5; obtain ⟨x0, x1, x2, x3, xf⟩ := (HT.out.1.below (Below.refl _ _).drew).below hb5; have x4 := below_cell hb5 dr; clear xf hb5))
  all_goals
    obtain ⟨x0, x1, x2, x3, xf⟩ := (HT.out.1.below (Below.refl _ _).drew).below HB5.out
    have HGO5 := Lib.hid (HGO.out w5 HB5.out)
    clear xf HGO
    go_wp2_with fail
    refine HGO5.out.mono ?_
    rintro e w6 ⟨v6, rfl, hrt, hb6⟩
    have HRT := Lib.hid hrt
    have HB6 := Lib.hid hb6
    obtain ⟨ta6, tc6, pa6, pc6, fa6, fc6, rfl, _, _, _⟩ := hrt
    obtain ⟨y0, y1, y2, y3, yf⟩ := ((HT.out.2.1.below (Below.refl _ _).drew).below HB5.out).below hb6
    have yf0 := yf 0
    have yf1 := yf 1
    have yf2 := yf 2
    have yf3 := yf 3
    clear yf hb6
    go_wp2
    exact bodyPost_ret (v := .tuple #[.agg #[.slice ta6 l2.length tc6, .slice pa6 l2.length pc6, .slice fa6 l2.length fc6, .int .i64 p], .int .i64 0]) (by simp [results, Try.results38, go_sem, y0, y1, y2, y3]) rfl ⟨_, rfl, rpost_end HT.out.2.2.1 HT.out.2.2.2 ⟨HRT.out.mono (fun i hi => hi.imp id (fun h => by have := HB5.out.size; have h2 : w5.heap.size ≤ i := h; omega)), HB5.out.trans (HB6.out.mono HB5.out.size)⟩⟩

end Go.Proofs.Ytjajlnhobchkgaa
