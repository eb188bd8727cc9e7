/-
  Scripts: do and begun, with what the tree becomes; several trees and the reference's tree side by side.
-/
import Derived.Test.YtjajlnhobchkgaaUStepW
import Derived.Test.YtjajlnhobchkgaaUBwW
import Derived.Test.YtjajlnhobchkgaaUCopy
import Derived.BigQuiet
namespace Go.Proofs.Ytjajlnhobchkgaa
open Go.RowKit
set_option linter.unusedVariables false
set_option linter.unusedSimpArgs false

theorem PSt.first {S : Nat → Prop} {bt : Nat} {l : List Nd} {now : Nat} {w w2 w' : World} (hb : Below w.heap.size w w2) (h : PSt S bt l now w2 w') : PSt S bt l now w w' := by
  obtain ⟨S', h1, h2, h3⟩ := h
  have := hb.size
  exact ⟨S', h1, (Fr.of_below hb).trans h2, fun i hi => (h3 i hi).imp id (fun e => by omega)⟩

set_option maxRecDepth 100000 in
set_option maxHeartbeats 4000000 in
theorem act_st (k d t : Int) (S : Nat → Prop) (bt : Nat) (l : List Nd) (now : Nat) (w : World) (ht : TI w S bt l now) (hi : Inv l now) (hlen : l.length ≤ 999) :
    Calls Try.prog 28 #[.pointer (some ⟨bt, 0, none⟩), .agg #[.int .i64 k, .int .i64 d, .int .i64 t]] w fun e w' => e = .returned (.tuple #[]) ∧ PSt S bt (stL (kindF k) d t l now) (stN (kindF k) d t l now) w w' := by
  have HT := Lib.hid ht
  have HI := Lib.hid (And.intro hi hlen)
  obtain ⟨w1, hw1⟩ : ∃ w1, w1 = w.alloc (.cells #[.int .i64 k, .int .i64 d, .int .i64 t] 39) := ⟨_, rfl⟩
  have HW1 := Lib.hid hw1
  have HB1 : Hid (Below w.heap.size w w1) := Lib.hid (by rw [hw1]; exact below_alloc _ _)
  have h1 : w1.cell? ⟨w.heap.size, 1, none⟩ = some (.int .i64 d) := by rw [hw1]; exact acell rfl rfl
  have h2 : w1.cell? ⟨w.heap.size, 2, none⟩ = some (.int .i64 t) := by rw [hw1]; exact acell rfl rfl
  have HC := Lib.hid (And.intro h1 h2)
  have HR := Lib.hid (kindF_bd k)
  have HK := Lib.hid (kind_is k d t w1)
  generalize kindF k = r at *
  clear ht hi hlen hw1 h1 h2
  go_enter Try.func28, Try.ntmps28
  go_wp2_with fail
  rw [← HW1.out]
  refine HK.out.mono ?_
  rintro e w2 ⟨rfl, hb2⟩
  have HB2 := Lib.hid (bthen HB1.out hb2)
  have HT2 := Lib.hid ((HT.out.below HB1.out).below hb2)
  have HC1 := Lib.hid (below_cell hb2 HC.out.1)
  have HC2 := Lib.hid (below_cell hb2 HC.out.2)
  clear hb2
  rcases (show r = 0 ∨ r = 1 ∨ r = 2 ∨ r = 3 ∨ r = 4 ∨ r = 5 by have := HR.out; omega) with rfl | rfl | rfl | rfl | rfl | rfl
  · have hc := HC2.out
    go_wp2_with fail
    refine (do_st 0 d t (by decide) S bt l now w2 HT2.out HI.out.1 HI.out.2).mono ?_
    rintro e w3 ⟨rfl, hg⟩
    go_wp2
    go_end0
    exact ⟨rfl, hg.first HB2.out⟩
  · have hc := HC2.out
    go_wp2_with fail
    refine (do_st 1 d t (by decide) S bt l now w2 HT2.out HI.out.1 HI.out.2).mono ?_
    rintro e w3 ⟨rfl, hg⟩
    go_wp2
    go_end0
    exact ⟨rfl, hg.first HB2.out⟩
  · go_wp2_with fail
    refine (undo_st d t S bt l now w2 HT2.out HI.out.1 HI.out.2).mono ?_
    rintro e w3 ⟨rfl, hg⟩
    go_wp2
    go_end0
    exact ⟨rfl, hg.first HB2.out⟩
  · go_wp2_with fail
    refine (redo_st d t S bt l now w2 HT2.out HI.out.1 HI.out.2).mono ?_
    rintro e w3 ⟨rfl, hg⟩
    go_wp2
    go_end0
    exact ⟨rfl, hg.first HB2.out⟩
  · have hc := HC1.out
    go_wp2_with fail
    refine (redoto_st d t S bt l now w2 HT2.out HI.out.1 HI.out.2).mono ?_
    rintro e w3 ⟨rfl, hg⟩
    go_wp2
    go_end0
    exact ⟨rfl, hg.first HB2.out⟩
  · have hc := HC1.out
    go_wp2_with fail
    refine (goto_st d t S bt l now w2 HT2.out HI.out.1 HI.out.2).mono ?_
    rintro e w3 ⟨rfl, hg⟩
    go_wp2
    go_end0
    exact ⟨rfl, hg.first HB2.out⟩

abbrev Sn := List Nd × Nat
def stA (s : Sn) (x : Ac) : Sn := (stL (kindF x.1) x.2.1 x.2.2 s.1 s.2, stN (kindF x.1) x.2.1 x.2.2 s.1 s.2)
def runA (L : List Ac) (s : Sn) : Sn := L.foldl stA s
def newS : Sn := ([⟨1, -1, -1, 0, []⟩], 0)

theorem stA_inv (s : Sn) (x : Ac) (h : Inv s.1 s.2) : Inv (stA s x).1 (stA s x).2 ∧ (stA s x).1.length ≤ s.1.length + 1 :=
  stp_inv h (kindF_bd x.1).1 (kindF_bd x.1).2

theorem runA_inv : ∀ (L : List Ac) (s : Sn), Inv s.1 s.2 → Inv (runA L s).1 (runA L s).2 ∧ (runA L s).1.length ≤ s.1.length + L.length
  | [], s, h => ⟨h, Nat.le_refl _⟩
  | x :: r, s, h => by
    have h1 := stA_inv s x h
    have h2 := runA_inv r (stA s x) h1.1
    refine ⟨h2.1, ?_⟩
    have := h2.2
    show (runA r (stA s x)).1.length ≤ _
    simp only [List.length_cons]
    omega

theorem runA_take (L : List Ac) (s : Sn) {i : Nat} {x : Ac} (hx : L[i]? = some x) : runA (L.take (i + 1)) s = stA (runA (L.take i) s) x := by
  have hi : i < L.length := (List.getElem?_eq_some_iff.1 hx).1
  have hx2 : L[i] = x := (List.getElem?_eq_some_iff.1 hx).2
  unfold runA
  rw [← List.take_append_getElem hi, List.foldl_append, hx2]
  rfl

theorem newS_inv : Inv newS.1 newS.2 := ⟨wf_one 1, .root, by simp [newS]⟩

theorem runA_bd (L : List Ac) {i : Nat} (hL : L.length ≤ 150) (hi : i ≤ L.length) : Inv (runA (L.take i) newS).1 (runA (L.take i) newS).2 ∧ (runA (L.take i) newS).1.length ≤ 151 := by
  have h := runA_inv (L.take i) newS newS_inv
  refine ⟨h.1, ?_⟩
  have := h.2
  rw [List.length_take, Nat.min_eq_left hi] at this
  have e : newS.1.length = 1 := rfl
  omega

set_option maxRecDepth 100000 in
set_option maxHeartbeats 4000000 in
theorem begun_st (a : Option Addr) (n c : Nat) (L : List Ac) (w : World) (h : RdA w a n L) (hn : n ≤ 150) :
    Calls Try.prog 8 #[.slice a n c] w fun e w' => ∃ bt S, e = .returned (.pointer (some ⟨bt, 0, none⟩)) ∧ TI w' S bt (runA L newS).1 (runA L newS).2 ∧ (∀ i, S i → w.heap.size ≤ i) ∧ Below w.heap.size w w' := by
  have H := Lib.hid h
  have HN := Lib.hid hn
  have hn9 : (n : Int) ≤ 150 := by omega
  clear h hn
  go_enter Try.func8, Try.ntmps8
  go_wp2_with fail
  refine (alive_any w).mono ?_
  rintro e w1 ⟨rfl, hb1⟩
  have HB1 := Lib.hid hb1
  clear hb1
  go_wp2_with fail
  refine (new_any 1 w1).mono ?_
  rintro e w2 ⟨rfl, ht, hb2⟩
  have HT2 := Lib.hid ht
  have HB2 := Lib.hid (bthen HB1.out hb2)
  clear ht hb2
  generalize hbt : w1.heap.size + 1 = bt at *
  clear hbt
  go_wp2
  go_loopw [11] (fun iv wr => ∃ (i : Nat) (S : Nat → Prop), i ≤ n ∧ iv = .int .i64 i ∧ TI wr S bt (runA (L.take i) newS).1 (runA (L.take i) newS).2 ∧ (∀ b, S b → w.heap.size ≤ b) ∧ Below w.heap.size w wr) (fun iv _ => n - (intOf iv).toNat)
  case atStart => exact ⟨0, _, by omega, rfl, HT2.out, fun b hb => Nat.le_trans HB1.out.size hb, HB2.out⟩
  case round =>
    obtain ⟨i, S, hi, rfl, hti, hS, hbel⟩ := hrel
    have HTI := Lib.hid hti
    have HS := Lib.hid hS
    have HB := Lib.hid hbel
    by_cases hlt : i < n
    · obtain ⟨⟨k, d, t⟩, hx⟩ : ∃ x, L[i]? = some x := ⟨_, List.getElem?_eq_getElem (show i < L.length by rw [H.out.len]; exact hlt)⟩
      obtain ⟨b, off, rfl, c0, c1, c2⟩ := (H.out.below hbel).cell i _ hx
      simp only at c0 c1 c2
      have hlt2 : (i : Int) < (n : Int) := by omega
      have HLT := Lib.hid hlt
      have HX := Lib.hid (runA_take L newS hx)
      have hi9 : (i : Int) ≤ 150 := by omega
      have HIV := Lib.hid (runA_bd L (i := i) (by rw [H.out.len]; exact HN.out) (by rw [H.out.len]; omega))
      generalize runA (L.take i) newS = s at *
      clear hx hti hS hbel
      go_wp2_with fail
      refine (act_st k d t S bt s.1 s.2 _ (HTI.out.below (below_alloc _ _)) HIV.out.1 (by have := HIV.out.2; omega)).mono ?_
      rintro e w3 ⟨rfl, S', h1, h2, h3⟩
      have HP := Lib.hid (And.intro h1 (And.intro h2 h3))
      clear h1 h2 h3
      go_wp2
      go_roundw
      case rel =>
        refine ⟨i + 1, S', HLT.out, by go_num, by rw [HX.out]; exact HP.out.1, fun b hb => ?_, (HB.out.trans ((below_alloc _ _).mono HB.out.size)).trans (HP.out.2.1.below HS.out (by have := HB.out.size; simp; omega))⟩
        rcases HP.out.2.2 b hb with q | q
        · exact HS.out b q
        · have := HB.out.size; simp at q; omega
      case measure => have := HLT.out; simp [intOf]; omega
    · obtain rfl : i = n := by omega
      clear hti hS hbel hlt hi
      go_wp2
      go_ret
      refine ⟨bt, S, rfl, ?_, HS.out, HB.out⟩
      have h := HTI.out
      rw [List.take_of_length_le (by rw [H.out.len]; exact Nat.le_refl _)] at h
      exact h

end Go.Proofs.Ytjajlnhobchkgaa
