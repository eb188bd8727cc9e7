/-
  the reader of history.Take: a number from the front of what is left.
-/
import Derived.Test.YtoakelgjofdmpaaHByR
import Derived.Laws.ResultCell
namespace Go.Proofs.Ytoakelgjofdmpaa
open Go.RowKit
set_option linter.unusedVariables false
set_option linter.unusedSimpArgs false

/-- the reader in block br: the bytes that are left, and whether it has failed -/
structure RS (w : World) (br : Nat) (l : List Int) (bad : Bool) : Prop where
  ex : ∃ a n c, w.cell? ⟨br, 0, none⟩ = some (.slice a n c) ∧ RdF w (fun b => b < br) .u8 a n l ∧ n ≤ c ∧ n ≤ 140737488355328
  c1 : w.cell? ⟨br, 1, none⟩ = some (.bool bad)
  fz : ∀ j, w.frozen? ⟨br, j, none⟩ = false
theorem RS.fr {w w' : World} {F : Nat → Prop} {br l bad} (h : RS w br l bad) (hf : Fr F w w') (hF : ∀ b, b ≤ br → ¬ F b) : RS w' br l bad := by
  obtain ⟨a, n, c, h1, h2, h3, h4⟩ := h.ex
  exact ⟨⟨a, n, c, hf.cell h1 (hF _ (Nat.le_refl _)), h2.fr hf (fun i hi => hF i (Nat.le_of_lt hi)), h3, h4⟩, hf.cell h.c1 (hF _ (Nat.le_refl _)), fun j => (hf.frozen (x := ⟨br, j, none⟩) (show br < _ from World.block_lt_of_cell? w _ h1) (hF _ (Nat.le_refl _))).trans (h.fz j)⟩
theorem RS.below {w w' : World} {br l bad} (h : RS w br l bad) (hb : Below w.heap.size w w') : RS w' br l bad := h.fr (F := fun _ => False) (.of_below hb) (fun _ _ h => h)
theorem RS.lt {w : World} {br l bad} (h : RS w br l bad) : br < w.heap.size := World.block_lt_of_cell? w _ h.c1
/-- it has failed -/
theorem RS.fail {w : World} {br l bad} (h : RS w br l bad) : RS (w.setCell ⟨br, 1, none⟩ (.bool true)) br l true ∧ Fr (fun b => b = br) w (w.setCell ⟨br, 1, none⟩ (.bool true)) := by
  have hf : Fr (fun b => b = br) w (w.setCell ⟨br, 1, none⟩ (.bool true)) := (Fr.refl (fun b => b = br) w).setCell (p := ⟨br, 1, none⟩) rfl _
  obtain ⟨a, n, c, h1, h2, h3, h4⟩ := h.ex
  exact ⟨⟨⟨a, n, c, set_other (by simp) h1, h2.fr hf (fun i hi => by omega), h3, h4⟩, set_same h.c1, fun j => (World.frozen?_setCell ..).trans (h.fz j)⟩, hf⟩
/-- some bytes are taken -/
theorem RS.rest {w : World} {br l bad} (h : RS w br l bad) {a : Option Addr} {n c : Nat} {l' : List Int} (hr : RdF w (fun b => b < br) .u8 a n l') (hc : n ≤ c) (hn : n ≤ 140737488355328) : RS (w.setCell ⟨br, 0, none⟩ (.slice a n c)) br l' bad ∧ Fr (fun b => b = br) w (w.setCell ⟨br, 0, none⟩ (.slice a n c)) := by
  have hf : Fr (fun b => b = br) w (w.setCell ⟨br, 0, none⟩ (.slice a n c)) := (Fr.refl (fun b => b = br) w).setCell (p := ⟨br, 0, none⟩) rfl _
  obtain ⟨a0, n0, c0, h1, _⟩ := h.ex
  exact ⟨⟨⟨a, n, c, set_same h1, hr.fr hf (fun i hi => by omega), hc, hn⟩, set_other (by simp) h.c1, fun j => (World.frozen?_setCell ..).trans (h.fz j)⟩, hf⟩

/-- s[u:] of what is left: the bytes lie where they lay -/
theorem cutF {w0 : World} {T : Nat → Prop} {a n l} (h : RdF w0 T .u8 a n l) {c u : Nat} (hu : u ≤ n) (hnc : n ≤ c) :
    ∃ a', RdF w0 T .u8 a' (n - u) (l.drop u) ∧ ∀ (kl : IntKind) (w : World), (Instr.slice 66 (.slice a n c) (some (.int kl (u : Int))) none none).run Try.prog w = .ok (.slice a' (n - u) (c - u)) w := by
  refine ⟨if c = u then a else a.map (·.add (u * 1)), ⟨h.rd.drop_ hu hnc, fun x hx hn => ?_⟩, fun kl w => ?_⟩
  · by_cases e : c = u
    · rw [if_pos e] at hx; exact h.foot x hx (by omega)
    · rw [if_neg e] at hx
      obtain ⟨y, rfl, rfl⟩ := Option.map_eq_some_iff.1 hx
      have := h.foot y rfl (by omega)
      unfold Addr.add
      split <;> exact this
  · rw [run_slice_l (P := Try.prog) w 66 a n c (by rw [E8.elem]; exact E8.ht) kl u (by omega) (by omega), E8.elem, E8.sz]
    simp [sliced, Result.andThen]

def NumPost (br : Nat) (l : List Int) (bad : Bool) (w : World) (e : Ending) (w' : World) : Prop :=
  Fr (fun b => b = br) w w' ∧ ((∃ (n : Nat) (r : List Int), numR l = some (n, r) ∧ n ≤ 9223372036854775807 ∧ e = .returned (.int .i64 n) ∧ RS w' br r bad) ∨ (numR l = none ∧ e = .returned (.int .i64 0) ∧ RS w' br l true))

set_option maxRecDepth 100000 in
set_option maxHeartbeats 1000000 in
theorem rnum_any (br : Nat) (l : List Int) (bad : Bool) (w : World) (h : RS w br l bad) :
    Calls Try.prog 49 #[.pointer (some ⟨br, 0, none⟩)] w (NumPost br l bad w) := by
  have hne0 : ∀ w, (binOp .neq 33 .nilIface .nilIface).run Try.prog w = .ok (.bool false) w := fun w => by kernel_rfl
  have hne4 : ∀ w, (binOp .neq 33 (.iface 63 (.int .i64 4)) .nilIface).run Try.prog w = .ok (.bool true) w := fun w => by kernel_rfl
  have HRS := Lib.hid h
  obtain ⟨a, n, c, hc0, hrd, hnc, hn⟩ := h.ex
  have hc1 := h.c1
  have hfz0 := h.fz 0
  have hfz1 := h.fz 1
  have HRD := Lib.hid hrd
  cases hk : tk l with
  | none =>
    have HNR : Hid (numR l = none) := Lib.hid (by unfold numR; rw [hk])
    have HTK := Lib.hid (take_none a n c l w hrd.rd hk)
    clear h hrd hk
    go_enter Try.func49, Try.ntmps49
    go_wp2_with fail
    refine HTK.out.mono ?_
    rintro e w1 ⟨rfl, rfl⟩
    go_wp2
    go_ret
    exact ⟨HRS.out.fail.2, .inr ⟨HNR.out, rfl, HRS.out.fail.1⟩⟩
  | some y =>
    obtain ⟨v, u⟩ := y
    have hbd : ∀ x ∈ l, 0 ≤ x ∧ x ≤ 255 := fun x hx => by
      have := hrd.rd.wf x hx
      simp [Lit.wf, IntKind.min, IntKind.max, IntKind.signed, IntKind.bits] at this
      omega
    obtain ⟨m, rfl, hm64, hu1, hul, _⟩ := tk_inv hbd hk
    have HTK := Lib.hid (take_some a n c l w hrd.rd (m : Int) u hk)
    have hun : u ≤ n := by rw [← hrd.rd.len]; exact hul
    by_cases hbig : 9223372036854775807 < m
    · have HNR : Hid (numR l = none) := Lib.hid (by unfold numR; rw [hk]; simp only; rw [if_pos (by omega)])
      have hd : decide ((9223372036854775807 : Int) < (m : Int)) = true := decide_eq_true (by omega)
      clear h hrd hk hbd
      go_enter Try.func49, Try.ntmps49
      go_wp2_with fail
      refine HTK.out.mono ?_
      rintro e w1 ⟨rfl, rfl⟩
      go_wp2
      go_ret
      exact ⟨HRS.out.fail.2, .inr ⟨HNR.out, rfl, HRS.out.fail.1⟩⟩
    · have HNR : Hid (numR l = some (m, l.drop u)) := Lib.hid (by unfold numR; rw [hk]; simp only; rw [if_neg (by omega), Int.toNat_natCast])
      have hd : decide ((9223372036854775807 : Int) < (m : Int)) = false := decide_eq_false (by omega)
      have hwm : IntKind.i64.wrap (m : Int) = (m : Int) := IntWalk.i64_in _ (by omega)
      obtain ⟨a', hr', hcut⟩ := cutF (c := c) HRD.out hun hnc
      have HR' := Lib.hid hr'
      clear h hrd hk hbd hr'
      go_enter Try.func49, Try.ntmps49
      go_wp2_with fail
      refine HTK.out.mono ?_
      rintro e w1 ⟨rfl, rfl⟩
      go_wp2
      go_ret
      have hfin := HRS.out.rest HR'.out (c := c - u) (by omega) (by omega)
      exact ⟨hfin.2, .inl ⟨m, l.drop u, HNR.out, by omega, rfl, hfin.1⟩⟩

end Go.Proofs.Ytoakelgjofdmpaa
