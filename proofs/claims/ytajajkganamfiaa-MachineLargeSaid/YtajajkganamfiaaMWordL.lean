/-
  list: the steps to the states whose count is not 0.
-/
import Derived.Test.YtajajkganamfiaaMWordA
import Derived.Deep.LoopGhost
import Derived.Deep.DeepCutAuto
namespace Go.Proofs.Ytajajkganamfiaa
open Go.RowKit
set_option linter.unusedVariables false
set_option linter.unusedSimpArgs false

theorem EST : EltG Try.prog 87 93 (.agg #[.int .i64 0, .int .u64 0]) 2 16 := ⟨Try.underlying87, info_parts (by kernel_rfl), rfl, by decide⟩

/-- where a count is not 0 -/
def lsf (f : Nat → Nat) (n : Nat) : List Nat := (List.range n).filter (fun p => decide (0 < f p))
theorem lsf_in {f : Nat → Nat} {n : Nat} (h : 0 < f n) : lsf f (n + 1) = lsf f n ++ [n] := by
  have hf : [n].filter (fun p => decide (0 < f p)) = [n] := by rw [List.filter_cons, if_pos (by simpa using h)]; rfl
  unfold lsf; rw [List.range_succ, List.filter_append, hf]
theorem lsf_out {f : Nat → Nat} {n : Nat} (h : f n = 0) : lsf f (n + 1) = lsf f n := by
  have hf : [n].filter (fun p => decide (0 < f p)) = [] := by rw [List.filter_cons, if_neg (by simp [h])]; rfl
  unfold lsf; rw [List.range_succ, List.filter_append, hf, List.append_nil]
theorem lsf_len (f : Nat → Nat) (n : Nat) : (lsf f n).length ≤ n := Nat.le_trans (List.length_filter_le ..) (by simp)
/-- a list of steps in memory -/
def cellsS (f : Nat → Nat) (L : List Nat) : List Value := L.flatMap fun (p : Nat) => [Value.int .i64 (p : Int), Value.int .u64 ((f p : Nat) : Int)]
theorem cellsS_len (f : Nat → Nat) (L : List Nat) : (cellsS f L).length = L.length * 2 := by
  induction L with
  | nil => rfl
  | cons p r ih => simp only [cellsS, List.flatMap_cons, List.length_append, List.length_cons, List.length_nil] at *; omega
theorem cellsS_snoc (f : Nat → Nat) (L : List Nat) (p : Nat) : cellsS f (L ++ [p]) = cellsS f L ++ [.int .i64 (p : Int), .int .u64 (f p : Int)] := by simp [cellsS]

def ListPost (f : Nat → Nat) (n : Nat) (w : World) (e : Ending) (w' : World) : Prop :=
  ∃ a c, e = .returned (.slice a (lsf f n).length c) ∧ Row w' w.heap.size 93 2 (.slice a (lsf f n).length c) (lsf f n).length (cellsS f (lsf f n)) ∧ Below w.heap.size w w'

set_option maxRecDepth 100000 in
set_option maxHeartbeats 1500000 in
theorem list_any (ca : Option Addr) (cc n : Nat) (f : Nat → Nat) (w : World) (hr : RdG w 1 ca n ((List.range n).map fun (p : Nat) => Value.int .u64 ((f p : Nat) : Int))) (hn : n ≤ 256) (hf : ∀ p, f p ≤ capM) :
    Calls Try.prog 48 #[.slice ca n cc] w (ListPost f n w) := by
  have HR := Lib.hid hr
  have HN := Lib.hid hn
  have HF := Lib.hid hf
  have hn9 : (n : Int) ≤ 256 := by omega
  clear hr hn hf
  go_enter Try.func48, Try.ntmps48
  go_wp2
  go_loopw [3, 8] (fun ov jv wr => ∃ (i : Nat) (L : List Nat) (a : Option Addr) (c : Nat), jv = .int .i64 i ∧ i ≤ n ∧ L = lsf f i ∧ ov = .slice a L.length c ∧ Row wr w.heap.size 93 2 (.slice a L.length c) L.length (cellsS f L) ∧ Below w.heap.size w wr) (fun _ jv _ => n - (intOf jv).toNat)
  case atStart => exact ⟨0, [], none, 0, rfl, by omega, rfl, rfl, World.ownsRow_nil w w.heap.size 93 2, Below.refl _ _⟩
  case round =>
    obtain ⟨i, L, a, c, rfl, hi, hL, rfl, hrow, hb⟩ := hrel
    have HL := Lib.hid hL
    have HROW := Lib.hid hrow
    have HB := Lib.hid hb
    have HLL : Hid (L.length ≤ 256) := Lib.hid (by rw [hL]; have := lsf_len f i; have := HN.out; omega)
    by_cases hlt : i < n
    · obtain ⟨b, off, rfl, hc⟩ := (HR.out.below hb).cell i (.int .u64 (f i : Int)) (by simp [hlt])
      obtain ⟨x, hx⟩ : ∃ x, x = f i := ⟨_, rfl⟩
      have HX := Lib.hid hx
      rw [← hx] at hc
      have hlti : (i : Int) < (n : Int) := by omega
      have hi9 : (i : Int) ≤ 256 := by omega
      have HLT := Lib.hid hlt
      have HBS : Hid (w.heap.size ≤ wr.heap.size) := Lib.hid hb.size
      generalize hlen : L.length = m at *
      have HLEN := Lib.hid hlen
      by_cases hz : 0 < x
      · have HZ := Lib.hid hz
        have hzi : (0 : Int) < (x : Int) := by omega
        clear hz hlen hlt hx hL hrow hb hi
        go_wp2_with (at_builtin; go_loud (refine app_row (.tmp 15) (.tmp 19) EST rfl rfl w.heap.size (.slice a m c) m (cellsS f L) rfl (Row.below HROW.out (below_alloc wr _)) _ 1 _ [.int .i64 (i : Int), .int .u64 (x : Int)] rfl (RdG.lits wr 2 93 1 [.int .i64 (i : Int), .int .u64 (x : Int)] rfl) (by simp [Value.oneCell']) (by have := HLL.out; omega) (by decide) (by have := HBS.out; simp; omega) ?_); intro a8 c8 w8 hr8 hg8; have HR8 := Lib.hid hr8; have HB8 := Lib.hid ((HB.out.alloc HB.out.size (.cells #[.int .i64 (i : Int), .int .u64 (x : Int)] 93)).grown hg8 (by have := HBS.out; simp; omega) (fun k hk => (Row.block_lt HROW.out hk).2)); clear hr8 hg8)
        go_roundw
        case rel => exact ⟨i + 1, L ++ [i], a8, c8, by go_num, HLT.out, by rw [HL.out, lsf_in (by rw [← HX.out]; exact HZ.out)], by simp [HLEN.out], by
          have h := HR8.out
          rw [cellsS_snoc, List.length_append, HLEN.out, ← HX.out]
          exact h, HB8.out⟩
        case measure => have := HLT.out; simp [intOf]; omega
      · obtain rfl : x = 0 := by omega
        clear hz hlen hlt hx hL hrow hb hi
        go_wp2
        go_roundw
        case rel => exact ⟨i + 1, L, a, c, by go_num, HLT.out, by rw [HL.out, lsf_out HX.out.symm], by rw [HLEN.out], by rw [HLEN.out]; exact HROW.out, HB.out⟩
        case measure => have := HLT.out; simp [intOf]; omega
    · obtain rfl : i = n := by omega
      generalize hlen : L.length = m at *
      have HLEN := Lib.hid hlen
      clear hlen hlt hL hrow hb hi
      go_wp2
      go_ret
      refine ⟨a, c, ret_eq (by rw [← HL.out, HLEN.out]; simp), ?_, HB.out⟩
      rw [← HL.out, HLEN.out]
      exact HROW.out

end Go.Proofs.Ytajajkganamfiaa
