/-
  evergreenref29.Go and Run; small; Is; Num; Bytes.
-/
import Derived.Test.YtajajkganamfiaaMCheck
import Derived.Test.YtajajkganamfiaaMBfs
import Derived.BigQuiet
import Derived.Deep.QuietTactic
import Derived.Deep.RegionHeld3
namespace Go.Proofs.Ytajajkganamfiaa
open Go.RowKit

theorem bdrewN {B : Nat} {a w : World} (h : Below B a w) (n : Nat) : Below B a (w.drewN n) := ⟨h.os, h.tape, h.output, h.size, h.block⟩

set_option maxRecDepth 100000 in
set_option maxHeartbeats 1000000 in
theorem refGo_any (s : Int) (ac : Option Addr) (nc cc : Nat) (an : Option Addr) (nn cn : Nat) (aa : Option Addr) (na ca : Nat) (cls : List Int) (next : List (List Int)) (acc : List Bool) (w : World)
    (hm : RdM w ac nc an nn aa na cls next acc) (hv : Valid s cls next acc) (q : Int) (b : Nat) (h0 : 0 ≤ q) (h1 : q < next.length) (hb : b < 256) :
    Calls Try.prog 31 #[.agg #[.int .i64 s, .slice ac nc cc, .slice an nn cn, .slice aa na ca], .int .i64 q, .int .u8 b] w fun e w' => e = .returned (.int .i64 (mgo cls next q b)) ∧ Below w.heap.size w w' := by
  obtain ⟨Q, rfl⟩ := Int.eq_ofNat_of_zero_le h0
  obtain ⟨hc0, hc1, hg0, hg1⟩ := mgo_bd hv h0 h1 hb
  have hm1 := hm.below (below_alloc w (.cells #[.int .i64 s, .slice ac nc cc, .slice an nn cn, .slice aa na ca] 26))
  have hln := hm.n.len
  have hlc := hm.c.len
  have hncb := hv.clsL
  obtain ⟨b1, o1, a1, n1, c1, rfl, hrow, hr1, _⟩ := hm1.n.cell Q (by omega)
  obtain ⟨b2, o2, rfl, hcl⟩ := hm1.c.cell b (by omega)
  have hr1l := hr1.len
  have hrr := hv.row (next.getD Q []) (getD_mem (by omega))
  have hQn : (Q : Int) < nn := by omega
  have hbn : (b : Int) < nc := by omega
  have hcn : cls.getD b 0 < (n1 : Int) := by omega
  obtain ⟨C, hC⟩ : ∃ C : Nat, cls.getD b 0 = C := ⟨(cls.getD b 0).toNat, by omega⟩
  rw [hC] at hcl hc0 hc1 hcn
  obtain ⟨b3, o3, rfl, hent⟩ := hr1.cell C (by omega)
  have HG : Hid (mgo cls next (Q : Int) b = (next.getD Q []).getD C 0) := Lib.hid (by unfold mgo; rw [hC]; simp)
  generalize (next.getD Q []).getD C 0 = r at *
  have hB := Lib.hid (below_alloc w (.cells #[.int .i64 s, .slice (some ⟨b2, o2, none⟩) nc cc, .slice (some ⟨b1, o1, none⟩) nn cn, .slice aa na ca] 26))
  clear hm hm1 hr1 hrr hln hlc hncb hv hg0 hg1 hC hr1l hb h1 hc1
  go_enter Try.func31, Try.ntmps31
  go_wp2
  go_quiet (fail)
  go_wp2
  go_ret
  refine ⟨ret_eq (by rw [HG.out]; rfl), ?_⟩
  exact bdrewN hB.out _

/-- the state after a text -/
def mrun (cls : List Int) (next : List (List Int)) : Int → List Int → Int
  | q, [] => q
  | q, b :: r => mrun cls next (mgo cls next q b.toNat) r

theorem mrun_snoc (cls next) : ∀ (l : List Int) (q b : Int), mrun cls next q (l ++ [b]) = mgo cls next (mrun cls next q l) b.toNat
  | [], _, _ => rfl
  | _ :: r, _, b => mrun_snoc cls next r _ b

theorem mrun_bd {s cls next acc} (h : Valid s cls next acc) : ∀ (l : List Int) (q : Int), (∀ x ∈ l, 0 ≤ x ∧ x ≤ 255) → 0 ≤ q → q < next.length → 0 ≤ mrun cls next q l ∧ mrun cls next q l < next.length
  | [], _, _, h0, h1 => ⟨h0, h1⟩
  | b :: r, q, hb, h0, h1 => by
    have hb0 := hb b (by simp)
    have := mgo_bd h h0 h1 (b := b.toNat) (by omega)
    exact mrun_bd h r _ (fun x hx => hb x (by simp [hx])) this.2.2.1 this.2.2.2

set_option maxRecDepth 100000 in
set_option maxHeartbeats 2000000 in
theorem refRun_any (s : Int) (ac : Option Addr) (nc cc : Nat) (an : Option Addr) (nn cn : Nat) (aa : Option Addr) (na ca : Nat) (cls : List Int) (next : List (List Int)) (acc : List Bool) (q : Int) (at_ : Option Addr) (nt ct : Nat) (l : List Int) (w : World)
    (hm : RdM w ac nc an nn aa na cls next acc) (hv : Valid s cls next acc) (h0 : 0 ≤ q) (h1 : q < next.length) (hr : Rd w .u8 at_ nt l) :
    Calls Try.prog 16 #[.agg #[.int .i64 s, .slice ac nc cc, .slice an nn cn, .slice aa na ca], .int .i64 q, .slice at_ nt ct] w fun e w' => e = .returned (.int .i64 (mrun cls next q l)) ∧ Below w.heap.size w w' := by
  obtain ⟨w1, hw1⟩ : ∃ w1, w1 = w.alloc (.cells #[.int .i64 s, .slice ac nc cc, .slice an nn cn, .slice aa na ca] 26) := ⟨_, rfl⟩
  have HB := Lib.hid (show Below w.heap.size w w1 by rw [hw1]; exact below_alloc _ _)
  have HM := Lib.hid (hm.below HB.out)
  have HR := Lib.hid (hr.below HB.out)
  have HV := Lib.hid hv
  have HL := Lib.hid hr.len
  have hmax := hr.max
  have hbb : ∀ x ∈ l, 0 ≤ x ∧ x ≤ 255 := fun x hx => bd_u8 (hr.wf x hx)
  have HBB := Lib.hid hbb
  have hx0 : w1.cell? ⟨w.heap.size, 0, none⟩ = some (.int .i64 s) := by rw [hw1]; simp
  have hx1 : w1.cell? ⟨w.heap.size, 1, none⟩ = some (.slice ac nc cc) := by rw [hw1]; simp
  have hx2 : w1.cell? ⟨w.heap.size, 2, none⟩ = some (.slice an nn cn) := by rw [hw1]; simp
  have hx3 : w1.cell? ⟨w.heap.size, 3, none⟩ = some (.slice aa na ca) := by rw [hw1]; simp
  have HX0 := Lib.hid hx0
  have HX1 := Lib.hid hx1
  have HX2 := Lib.hid hx2
  have HX3 := Lib.hid hx3
  have HW1 := Lib.hid hw1
  have HQ := Lib.hid (And.intro h0 h1)
  clear hm hr hv hbb hx0 hx1 hx2 hx3 hw1 h0 h1
  go_enter Try.func16, Try.ntmps16
  go_wp2
  rw [← HW1.out]
  go_loopw [1, 7] (fun qv iv wr => ∃ k : Nat, k ≤ nt ∧ iv = .int .i64 k ∧ qv = .int .i64 (mrun cls next q (l.take k)) ∧ Below w1.heap.size w1 wr) (fun _ iv _ => nt - (intOf iv).toNat)
  case atStart => exact ⟨0, by omega, rfl, rfl, Below.refl _ _⟩
  case round =>
    obtain ⟨k, hk, rfl, rfl, hbl⟩ := hrel
    by_cases hlt : k < nt
    · obtain ⟨b1, o1, rfl, h1⟩ := (HR.out.below hbl).cell k hlt
      have hx0 := below_cell hbl HX0.out
      have hx1 := below_cell hbl HX1.out
      have hx2 := below_cell hbl HX2.out
      have hx3 := below_cell hbl HX3.out
      have HBL := Lib.hid hbl
      have hkl : k < l.length := by rw [HL.out]; exact hlt
      have hb := HBB.out (l.getD k 0) (getD_mem hkl)
      have HS : Hid (mrun cls next q (l.take (k + 1)) = mgo cls next (mrun cls next q (l.take k)) (l.getD k 0).toNat) := Lib.hid (by rw [getD_take_snoc (d := 0) hkl, mrun_snoc])
      have hbd := mrun_bd HV.out (l.take k) q (fun x hx => HBB.out x (List.mem_of_mem_take hx)) HQ.out.1 HQ.out.2
      obtain ⟨b, hbe⟩ := Int.eq_ofNat_of_zero_le hb.1
      rw [hbe] at h1 hb
      rw [hbe, Int.toNat_natCast] at HS
      have HC := Lib.hid (fun w2 (hb2 : Below w1.heap.size w1 w2) => refGo_any s ac nc cc an nn cn aa na ca cls next acc w2 (HM.out.below hb2) HV.out (mrun cls next q (l.take k)) b hbd.1 hbd.2 (by omega))
      clear hbl hbd hbe
      generalize mrun cls next q (l.take k) = p at *
      go_wp2
      go_region_held3 (fun w' => w'.cell? ⟨b1, o1 + k, none⟩ = some (.int .u8 b) ∧ w'.cell? ⟨w.heap.size, 0, none⟩ = some (.int .i64 s) ∧ w'.cell? ⟨w.heap.size, 1, none⟩ = some (.slice ac nc cc) ∧ w'.cell? ⟨w.heap.size, 2, none⟩ = some (.slice an nn cn) ∧ w'.cell? ⟨w.heap.size, 3, none⟩ = some (.slice aa na ca)) (go_keep) (first
        | (go_at_call 31; refine (HC.out _ HBL.out.drew).mono ?_; rintro e w2 ⟨rfl, hb2⟩; have y1 := below_cell (W := wr.drew) hb2 h1; have y2 := below_cell (W := wr.drew) hb2 hx0; have y3 := below_cell (W := wr.drew) hb2 hx1; have y4 := below_cell (W := wr.drew) hb2 hx2; have y5 := below_cell (W := wr.drew) hb2 hx3; have hb2 := Lib.hid hb2))
      go_wp2
      go_roundw
      case rel => exact ⟨k + 1, by omega, by go_num, by rw [HS.out], HBL.out.drew.trans (hb2.out.mono (by have := HBL.out.size; simpa using this))⟩
      case measure => simp [intOf]; omega
    · have HE : Hid (l.take k = l) := Lib.hid (List.take_of_length_le (by rw [HL.out]; omega))
      have HBL := Lib.hid hbl
      clear hbl
      go_wp2
      go_ret
      exact ⟨ret_eq (by rw [HE.out]; rfl), HB.out.trans (HBL.out.mono HB.out.size)⟩

end Go.Proofs.Ytajajkganamfiaa
