/-
  The walk of SyntaxTokens.
-/
import Derived.Test.YtpabngicbfcdkaaAwk
namespace Go.Proofs.Ytpabngicbfcdkaa
open Go.RowKit
set_option linter.unusedVariables false
set_option linter.unusedSimpArgs false

theorem cellsT_at : ∀ (ts : List Tk) (i : Nat) (t : Tk), ts[i]? = some t → (cellsT ts)[i * 4]? = some (.int .i64 (t.1.1 : Nat)) ∧ (cellsT ts)[i * 4 + 1]? = some (.string (bs t.1.2.1)) ∧ (cellsT ts)[i * 4 + 2]? = some (.int .i64 (t.1.2.2 : Nat)) ∧ (cellsT ts)[i * 4 + 3]? = some (.int .i64 (t.2 : Nat))
  | [], i, t, h => by cases h
  | x :: r, 0, t, h => by simp at h; subst h; exact ⟨rfl, rfl, rfl, rfl⟩
  | x :: r, i + 1, t, h => by
    have := cellsT_at r i t (by simpa using h)
    have e : cellsT (x :: r) = [.int .i64 (x.1.1 : Nat), .string (bs x.1.2.1), .int .i64 (x.1.2.2 : Nat), .int .i64 (x.2 : Nat)] ++ cellsT r := rfl
    have g : ∀ k, (cellsT (x :: r))[(i + 1) * 4 + k]? = (cellsT r)[i * 4 + k]? := fun k => by
      rw [e, List.getElem?_append_right (by simp; omega)]
      congr 1; simp; omega
    obtain ⟨t0, t1, t2, t3⟩ := this
    have g0 := g 0
    simp only [Nat.add_zero] at g0
    exact ⟨by rw [g0]; exact t0, by rw [g 1]; exact t1, by rw [g 2]; exact t2, by rw [g 3]; exact t3⟩
theorem row_tok {w : World} {B e a c : Nat} {ad : Option Addr} {ts : List Tk} (h : Row w B e 4 (.slice ad ts.length c) ts.length (cellsT ts)) {i : Nat} {t : Tk} (ht : ts[i]? = some t) :
    ∃ b, ad = some ⟨b, 0, none⟩ ∧ B ≤ b ∧ w.cell? ⟨b, i * 4, none⟩ = some (.int .i64 (t.1.1 : Nat)) ∧ w.cell? ⟨b, i * 4 + 1, none⟩ = some (.string (bs t.1.2.1)) ∧ w.cell? ⟨b, i * 4 + 2, none⟩ = some (.int .i64 (t.1.2.2 : Nat)) ∧ w.cell? ⟨b, i * 4 + 3, none⟩ = some (.int .i64 (t.2 : Nat)) := by
  obtain ⟨g0, g1, g2, g3⟩ := cellsT_at ts i t ht
  have hi := (List.getElem?_eq_some_iff.1 ht).1
  rcases h.2 with ⟨hv, hn⟩ | ⟨g, cap, cur, hv, hb, _⟩
  · omega
  · cases hv
    have hl := h.1
    refine ⟨g, rfl, hb, ?_, ?_, ?_, ?_⟩
    · rw [World.ownsRow.cellAt h _ (by omega)]; exact g0
    · rw [World.ownsRow.cellAt h _ (by omega)]; exact g1
    · rw [World.ownsRow.cellAt h _ (by omega)]; exact g2
    · rw [World.ownsRow.cellAt h _ (by omega)]; exact g3

/-- what the two functions answer alike -/
def tokCode (s : ByteArray) : Nat := if 4096 < s.size then 9 else match toksP (ns s) with
  | none => 4
  | some _ => 0
def tokList (s : ByteArray) : List Tk := if 4096 < s.size then [] else match toksP (ns s) with
  | none => []
  | some ts => ts
theorem ToksPost.flat {B s e w'} (h : ToksPost B s e w') : ∃ a c, e = .returned (.tuple #[.slice a (tokList s).length c, errN (tokCode s)]) ∧ Row w' B 33 4 (.slice a (tokList s).length c) (tokList s).length (cellsT (tokList s)) ∧ (tokList s).length ≤ 4096 := by
  rcases h with ⟨h1, rfl⟩ | ⟨h1, h2, rfl⟩ | ⟨h1, ts, a, c, h2, h3, rfl, h4⟩
  · unfold tokList tokCode
    rw [if_pos h1, if_pos h1]
    exact ⟨none, 0, rfl, World.ownsRow_nil _ _ _ _, by simp⟩
  · unfold tokList tokCode
    rw [if_neg (by omega), if_neg (by omega), h2]
    exact ⟨none, 0, rfl, World.ownsRow_nil _ _ _ _, by simp⟩
  · unfold tokList tokCode
    rw [if_neg (by omega), if_neg (by omega), h2]
    exact ⟨a, c, rfl, h4, h3⟩
theorem RToksPost.flat {B s e w'} (h : RToksPost B s e w') : ∃ a c, e = .returned (.tuple #[.slice a (tokList s).length c, .int .i64 (tokCode s : Nat)]) ∧ Row w' B 34 4 (.slice a (tokList s).length c) (tokList s).length (cellsT (tokList s)) ∧ (tokList s).length ≤ 4096 := by
  rcases h with ⟨h1, rfl⟩ | ⟨h1, h2, rfl⟩ | ⟨h1, ts, a, c, h2, h3, rfl, h4⟩
  · unfold tokList tokCode
    rw [if_pos h1, if_pos h1]
    exact ⟨none, 0, rfl, World.ownsRow_nil _ _ _ _, by simp⟩
  · unfold tokList tokCode
    rw [if_neg (by omega), if_neg (by omega), h2]
    exact ⟨none, 0, rfl, World.ownsRow_nil _ _ _ _, by simp⟩
  · unfold tokList tokCode
    rw [if_neg (by omega), if_neg (by omega), h2]
    exact ⟨a, c, rfl, h4, h3⟩

set_option maxRecDepth 100000 in
set_option maxHeartbeats 1500000 in
theorem walk_SyntaxTokens (s : ByteArray) (W : World) (hwf : s.size ≤ 9223372036854775807) (hsz : s.size ≤ 140737488351232) : Calls Try.prog 3 #[.string s] W fun e w' => e = .returned (.bool true) ∧ Below W.heap.size W w' := by
  have hsi9 : (s.size : Int) ≤ 140737488351232 := by omega
  by_cases hbig : 5000 < s.size
  · have hd : decide ((5000 : Int) < (s.size : Int)) = true := by simp; omega
    clear hbig hsz hwf
    go_enter Try.func3, Try.ntmps3
    go_wp2
    go_ret
    exact ⟨rfl, Below.refl _ _⟩
  have hd : decide ((5000 : Int) < (s.size : Int)) = false := by simp; omega
  have HT : Hid (∀ w, Calls Try.prog 7 #[.string s] w fun e w' => ∃ a c, e = .returned (.tuple #[.slice a (tokList s).length c, errN (tokCode s)]) ∧ Row w' w.heap.size 33 4 (.slice a (tokList s).length c) (tokList s).length (cellsT (tokList s)) ∧ Below w.heap.size w w') := Lib.hid (fun w => (tokens_any s w (by omega)).mono (fun e w' h => by
    obtain ⟨a, c, h1, h2, h3⟩ := h.1.flat
    exact ⟨a, c, h1, h2, h.2⟩))
  have HR : Hid (∀ w, Calls Try.prog 8 #[.string s] w fun e w' => ∃ a c, e = .returned (.tuple #[.slice a (tokList s).length c, .int .i64 (tokCode s : Nat)]) ∧ Row w' w.heap.size 34 4 (.slice a (tokList s).length c) (tokList s).length (cellsT (tokList s)) ∧ Below w.heap.size w w') := Lib.hid (fun w => (rtokens_any s w (by omega)).mono (fun e w' h => by
    obtain ⟨a, c, h1, h2, h3⟩ := h.1.flat
    exact ⟨a, c, h1, h2, h.2⟩))
  have HL : Hid ((tokList s).length ≤ 4096) := Lib.hid (by
    unfold tokList
    split
    · simp
    · split
      · simp
      · rename_i ts hts
        have := toks_len _ [] 0 (ns s) ts (Nat.le_refl _) hts
        rw [ns_len] at this; simp at this; omega)
  obtain ⟨ts, hts⟩ : ∃ ts, ts = tokList s := ⟨_, rfl⟩
  obtain ⟨k, hk⟩ : ∃ k, k = tokCode s := ⟨_, rfl⟩
  rw [← hts, ← hk] at HT HR
  rw [← hts] at HL
  obtain ⟨N, hN⟩ : ∃ N, N = ts.length := ⟨_, rfl⟩
  rw [← hN] at HT HR HL
  have HN := Lib.hid hN
  have hni : (N : Int) ≤ 4096 := by have := HL.out; omega
  clear hbig hsz hwf hts hk hN hsi9
  go_enter Try.func3, Try.ntmps3
  go_wp2_with (first
    | (go_at_call 7; refine (HT.out _).mono ?_; rintro e w1 ⟨a1, c1, rfl, hr1, hb1⟩; have HR1 := Lib.hid hr1; have HB1 := Lib.hid hb1; clear hr1 hb1)
    | (go_at_call 8; refine (HR.out _).mono ?_; rintro e w2 ⟨a2, c2, rfl, hr2, hb2⟩; have HR2 := Lib.hid hr2; have HB2 := Lib.hid hb2; clear hr2 hb2)
    | (go_at_call 9; refine (awake_any _).mono ?_; rintro e w3 ⟨rfl, hb3⟩; have HB3 := Lib.hid hb3; clear hb3)
    | (go_at_call 10; refine (num_errN k _).mono ?_; rintro e w4 ⟨rfl, rfl⟩))
  have HRR1 : Hid (Row w3 W.heap.size 33 4 (.slice a1 N c1) N (cellsT ts)) := Lib.hid (Row.below (Row.below HR1.out HB2.out) HB3.out)
  have HRR2 : Hid (Row w3 W.heap.size 34 4 (.slice a2 N c2) N (cellsT ts)) := Lib.hid ((Row.below HR2.out HB3.out).mono HB1.out.size)
  have HBB : Hid (Below W.heap.size W w3) := Lib.hid (bthen HB1.out (bthen HB2.out HB3.out))
  clear HT HR HR1 HR2 HB1 HB2 HB3
  go_loopw [7] (fun iv wr => ∃ i : Nat, iv = .int .i64 i ∧ i ≤ N ∧ Below w3.heap.size w3 wr) (fun iv _ => N - (intOf iv).toNat)
  case atStart => exact ⟨0, rfl, by omega, Below.refl _ _⟩
  case round =>
    obtain ⟨i, rfl, hi, hb⟩ := hrel
    have HB := Lib.hid hb
    by_cases hlt : i < N
    · obtain ⟨t, ht⟩ : ∃ t, ts[i]? = some t := ⟨_, List.getElem?_eq_getElem (by have := HN.out; omega)⟩
      have q1 := Row.below HRR1.out hb
      have q2 := Row.below HRR2.out hb
      have hN := HN.out
      subst hN
      obtain ⟨x, rfl, _, x0, x1, x2, x3⟩ := row_tok (a := 0) q1 ht
      obtain ⟨y, rfl, _, y0, y1, y2, y3⟩ := row_tok (a := 0) q2 ht
      have hii : (i : Int) < (ts.length : Int) := by omega
      have HI := Lib.hid hlt
      generalize (t.1.1) = k0 at *
      generalize (bs t.1.2.1) = k1 at *
      generalize (t.1.2.2) = k2 at *
      generalize (t.2) = k3 at *
      clear hi hb q1 q2 ht
      go_wp2
      go_quiet (fail)
      go_wp2
      go_roundw
      case rel => exact ⟨i + 1, by go_num, HI.out, bdrewN HB.out _⟩
      case measure => have := HI.out; simp [intOf]; omega
    · obtain rfl : i = N := by omega
      clear hi hlt hb
      go_wp2
      go_ret
      exact ⟨rfl, HBB.out.trans (HB.out.mono HBB.out.size)⟩

end Go.Proofs.Ytpabngicbfcdkaa
