/-
  the reference of chapter 39: RedoTo, Do, New.
-/
import Derived.Test.YtjajlnhobchkgaaURefM
import Derived.Deep.RegionHeld3
import Derived.Deep.RegionWith
namespace Go.Proofs.Ytjajlnhobchkgaa
open Go.RowKit
set_option linter.unusedVariables false
set_option linter.unusedSimpArgs false

set_option maxRecDepth 100000 in
set_option maxHeartbeats 1000000 in
theorem rredoto_none (T : Nat → Prop) (v : Value) (l : List Nd) (now : Nat) (c : Int) (w : World) (h : RT w T v l now) (x : Nd) (hx : l[now]? = some x) (hp : x.pref < 0) :
    Calls Try.prog 38 #[v, .int .i64 c] w fun e w' => ∃ v', e = .returned (.tuple #[v', .int .i64 7]) ∧ RPost T l now w v' w' := by
  have H := Lib.hid h
  obtain ⟨ta, tc, pa, pc, fa, fc, rfl, h1, h2, h3⟩ := h.ex
  obtain ⟨w2, hw2⟩ : ∃ w2, w2 = (w.alloc (.cells #[.slice ta l.length tc, .slice pa l.length pc, .slice fa l.length fc, .int .i64 now] 36)).alloc (.cells #[.slice none 0 0, .slice none 0 0, .slice none 0 0, .int .i64 0] 36) := ⟨_, rfl⟩
  have HTW := two_ct (.slice ta l.length tc) (.slice pa l.length pc) (.slice fa l.length fc) now 36 w
  rw [← hw2] at HTW
  have HW2 := Lib.hid hw2
  have HT := Lib.hid HTW
  obtain ⟨⟨z0, z1, z2, z3, zf⟩, ⟨y0, y1, y2, y3, yf⟩, hb2, _⟩ := HTW
  have yf0 := yf 0
  have yf1 := yf 1
  have yf2 := yf 2
  have yf3 := yf 3
  have hnl := WfT.lt hx
  obtain ⟨b, off, rfl, hc⟩ := ((h3.rd.below hb2)).cell now hnl
  rw [show (l.map (·.pref)).getD now 0 = x.pref by simp [List.getD, hx]] at hc
  obtain ⟨q, hq⟩ : ∃ q, q = x.pref := ⟨_, rfl⟩
  rw [← hq] at hc hp
  have hni : (now : Int) < (l.length : Int) := by omega
  clear h h1 h2 h3 hw2 zf yf hb2 hx hq
  go_enter Try.func38, Try.ntmps38
  go_upto_region 1 with fail
  rw [← HW2.out]
  go_wp2
  have hf := st4_fr w2 (w.heap.size + 1) (.slice ta l.length tc) (.slice pa l.length pc) (.slice (some ⟨b, off, none⟩) l.length fc) now
  exact bodyPost_ret (v := .tuple #[.agg #[.slice ta l.length tc, .slice pa l.length pc, .slice (some ⟨b, off, none⟩) l.length fc, .int .i64 now], .int .i64 7]) (by simp [results, Try.results38, go_sem, y0, y1, y2, y3]) rfl ⟨_, rfl, ((H.out.lt.below HT.out.2.2.1).fr hf (fun i hi e => by have := hi.2; omega)).mono (fun i hi => .inl hi.1), HT.out.2.2.1.trans (hf.below (fun g hb => by omega) HT.out.2.2.1.size)⟩



set_option maxRecDepth 100000 in
set_option maxHeartbeats 2000000 in
theorem rredoto_bad (T : Nat → Prop) (v : Value) (l : List Nd) (now : Nat) (c : Int) (w : World) (h : RT w T v l now) (x : Nd) (hx : l[now]? = some x) (hp : 0 ≤ x.pref) (hc : ∀ (p : Nat) (y : Nd), c = (p : Nat) → l[p]? = some y → y.parent ≠ (now : Int)) (hlen : l.length ≤ 1000) :
    Calls Try.prog 38 #[v, .int .i64 c] w fun e w' => ∃ v', e = .returned (.tuple #[v', .int .i64 1]) ∧ RPost T l now w v' w' := by
  have H := Lib.hid h
  obtain ⟨ta, tc, pa, pc, fa, fc, rfl, h1, h2, h3⟩ := h.ex
  obtain ⟨w2, hw2⟩ : ∃ w2, w2 = (w.alloc (.cells #[.slice ta l.length tc, .slice pa l.length pc, .slice fa l.length fc, .int .i64 now] 36)).alloc (.cells #[.slice none 0 0, .slice none 0 0, .slice none 0 0, .int .i64 0] 36) := ⟨_, rfl⟩
  have HTW := two_ct (.slice ta l.length tc) (.slice pa l.length pc) (.slice fa l.length fc) now 36 w
  rw [← hw2] at HTW
  have HW2 := Lib.hid hw2
  have HT := Lib.hid HTW
  obtain ⟨⟨z0, z1, z2, z3, zf⟩, ⟨y0, y1, y2, y3, yf⟩, hb2, _⟩ := HTW
  have HHAS := Lib.hid (rhas_any ta pa fa l.length tc l.length pc l.length fc now c w2.drew)
  have hnl := WfT.lt hx
  have HR2 := Lib.hid (h2.rd.below hb2)
  obtain ⟨b, off, rfl, hq⟩ := ((h3.rd.below hb2)).cell now hnl
  rw [show (l.map (·.pref)).getD now 0 = x.pref by simp [List.getD, hx]] at hq
  obtain ⟨q, hqe⟩ : ∃ q, q = x.pref := ⟨_, rfl⟩
  rw [← hqe] at hq hp
  have hqn : decide (q < 0) = false := decide_eq_false (by omega)
  have d0 : w2.drew.cell? ⟨w.heap.size, 0, none⟩ = _ := z0
  have d1 : w2.drew.cell? ⟨w.heap.size, 1, none⟩ = _ := z1
  have d2 : w2.drew.cell? ⟨w.heap.size, 2, none⟩ = _ := z2
  have d3 : w2.drew.cell? ⟨w.heap.size, 3, none⟩ = _ := z3
  have hni : (now : Int) < (l.length : Int) := by omega
  cases hh : hasN l.length c with
  | false =>
    rw [hh] at HHAS
    clear h h1 h2 h3 hw2 zf yf y0 y1 y2 y3 hb2 hx hlen hqe hc hh hp
    go_enter Try.func38, Try.ntmps38
    go_upto_region 1 with fail
    rw [← HW2.out]
    go_wp2_with fail
    first
      | go_region_with (first
          | (go_at_call 17; refine HHAS.out.mono ?_; rintro e w5 ⟨rfl, hb5⟩; have HB5 := Lib.hid hb5; obtain ⟨x0, x1, x2, x3, xf⟩ := (HT.out.1.below (Below.refl _ _).drew).below hb5; clear xf hb5))
      | fail
    all_goals
      obtain ⟨y0, y1, y2, y3, yf⟩ := (HT.out.2.1.below (Below.refl _ _).drew).below HB5.out
      have yf0 := yf 0
      have yf1 := yf 1
      have yf2 := yf 2
      have yf3 := yf 3
      clear yf
      have HRT := Lib.hid ((H.out.lt.below HT.out.2.2.1).below (Below.refl _ _).drew)
      have HRT5 := Lib.hid (HRT.out.below HB5.out)
      go_wp2
      exact bodyPost_ret (v := .tuple #[.agg #[.slice ta l.length tc, .slice pa l.length pc, .slice (some ⟨b, off, none⟩) l.length fc, .int .i64 now], .int .i64 1]) (by simp [results, Try.results38, go_sem, y0, y1, y2, y3]) rfl ⟨_, rfl, rpost_end HT.out.2.2.1 HT.out.2.2.2 ⟨HRT5.out.mono (fun i hi => .inl hi), HB5.out⟩⟩
  | true =>
    rw [hh] at HHAS
    obtain ⟨p, rfl⟩ : ∃ p : Nat, c = (p : Int) := by
      simp [hasN] at hh
      exact ⟨c.toNat, by omega⟩
    have hpl : p < l.length := by simp [hasN] at hh; omega
    have hcn := hc p _ rfl (List.getElem?_eq_getElem hpl)
    obtain ⟨b2, off2, rfl, hr⟩ := HR2.out.cell p hpl
    rw [show (l.map (·.parent)).getD p 0 = (l[p]'hpl).parent by simp [List.getD, hpl]] at hr
    generalize (l[p]'hpl).parent = r at *
    have hrn : (r == (now : Int)) = false := by simpa using hcn
    have dr : w2.drew.cell? ⟨b2, off2 + p, none⟩ = _ := hr
    have hpi : (p : Int) < (l.length : Int) := by omega
    clear h h1 h2 h3 hw2 zf yf y0 y1 y2 y3 hb2 hx hlen hqe hc hh hp hcn
    go_enter Try.func38, Try.ntmps38
    go_upto_region 1 with fail
    rw [← HW2.out]
    go_wp2_with fail
    go_region_held3 (fun w' => w'.cell? ⟨w.heap.size, 0, none⟩ = some (Value.slice ta l.length tc) ∧ w'.cell? ⟨w.heap.size, 1, none⟩ = some (Value.slice (some ⟨b2, off2, none⟩) l.length pc) ∧ w'.cell? ⟨w.heap.size, 2, none⟩ = some (Value.slice (some ⟨b, off, none⟩) l.length fc) ∧ w'.cell? ⟨w.heap.size, 3, none⟩ = some (Value.int .i64 (now : Int)) ∧ w'.cell? ⟨b2, off2 + p, none⟩ = some (.int .i64 r)) (go_keep) (first
      | (go_at_call 17; refine HHAS.out.mono ?_; rintro e w5 ⟨rfl, hb5⟩; have HB5 := Lib.hid hb5; obtain ⟨x0, x1, x2, x3, xf⟩ := (HT.out.1.below (Below.refl _ _).drew).below hb5; have x4 := below_cell hb5 dr; clear xf hb5))
    all_goals
      obtain ⟨y0, y1, y2, y3, yf⟩ := (HT.out.2.1.below (Below.refl _ _).drew).below HB5.out
      have yf0 := yf 0
      have yf1 := yf 1
      have yf2 := yf 2
      have yf3 := yf 3
      clear yf
      have HRT := Lib.hid ((H.out.lt.below HT.out.2.2.1).below (Below.refl _ _).drew)
      have HRT5 := Lib.hid (HRT.out.below HB5.out)
      go_wp2
      exact bodyPost_ret (v := .tuple #[.agg #[.slice ta l.length tc, .slice (some ⟨b2, off2, none⟩) l.length pc, .slice (some ⟨b, off, none⟩) l.length fc, .int .i64 now], .int .i64 1]) (by simp [results, Try.results38, go_sem, y0, y1, y2, y3]) rfl ⟨_, rfl, rpost_end HT.out.2.2.1 HT.out.2.2.2 ⟨HRT5.out.mono (fun i hi => .inl hi), HB5.out⟩⟩

end Go.Proofs.Ytjajlnhobchkgaa
