/-
  syntax.Tokens: the tokens of a text.
-/
import Derived.Test.YtpabngicbfcdkaaTok5
namespace Go.Proofs.Ytpabngicbfcdkaa
open Go.RowKit
set_option linter.unusedVariables false
set_option linter.unusedSimpArgs false

theorem hexP_pos' : True := trivial
theorem quoGo_len : ∀ (m : Nat) (acc l b r : List Nat), l.length ≤ m → quoGo acc l = some (b, r) → r.length < l.length
  | m, acc, [], b, r, _, h => by rw [quo_nil] at h; cases h
  | 0, acc, c :: l, b, r, hm, h => by simp at hm
  | m + 1, acc, c :: l, b, r, hm, h => by
    by_cases e1 : c = 34
    · subst e1; rw [quo_end] at h; cases h; simp
    · by_cases e2 : c = 92
      · subst e2
        cases he : escP l with
        | none => rw [quo_escn _ he] at h; cases h
        | some v =>
          obtain ⟨x, n⟩ := v
          rw [quo_esc _ he] at h
          have := quoGo_len m _ _ _ _ (by simp at hm ⊢; omega) h
          simp at this ⊢; omega
      · by_cases e3 : c < 32 ∨ c = 127
        · rw [quo_bad _ _ e1 e2 e3] at h; cases h
        · rw [quo_chr _ _ e1 e2 e3] at h
          have := quoGo_len m _ _ _ _ (by simpa using hm) h
          simp; omega
theorem nextP_pos {l : List Nat} {t : Nat × List Nat × Nat} {n : Nat} (h : nextP l = some (t, n)) : 1 ≤ n ∧ n ≤ l.length := by
  cases l with
  | nil => cases h
  | cons c r =>
    unfold nextP at h
    simp only at h
    split at h
    · rename_i hd
      cases hv : valP ((c :: r).take (spn digB (c :: r))) with
      | none => rw [hv] at h; cases h
      | some v =>
        rw [hv] at h; cases h
        exact ⟨by rw [spn_pos hd]; omega, spn_le _ _⟩
    · split at h
      · cases hv : quoP (c :: r) with
        | none => rw [hv] at h; cases h
        | some v =>
          obtain ⟨b, m⟩ := v
          rw [hv] at h; cases h
          unfold quoP at hv
          cases hg : quoGo [] ((c :: r).drop 1) with
          | none => rw [hg] at hv; cases hv
          | some u =>
            obtain ⟨b2, q⟩ := u
            rw [hg] at hv; cases hv
            have := quoGo_len _ _ _ _ _ (Nat.le_refl _) hg
            simp at this ⊢; omega
      · split at h
        · split at h
          · cases h
          · cases h
            have := spn_le refB r
            simp; omega
        · split at h
          · rename_i hl
            cases h
            exact ⟨by rw [spn_pos hl]; omega, spn_le _ _⟩
          · unfold sgnP at h
            split at h
            · split at h
              · cases h; simp
              · cases h
            · split at h
              · cases h; simp
              · split at h
                · cases h; simp
                · cases h

/-- kind, text, number, place -/
abbrev Tk := (Nat × List Nat × Nat) × Nat
def blankB (c : Nat) : Bool := c == 32 || c == 9 || c == 10 || c == 13
def toksGo (acc : List Tk) (i : Nat) (l : List Nat) : Option (List Tk) :=
  match l with
  | [] => some acc
  | c :: r => if blankB c then toksGo acc (i + 1) r else match nextP (c :: r) with
    | none => none
    | some (t, n) => toksGo (acc ++ [(t, i)]) (i + n) (r.drop (n - 1))
termination_by l.length
decreasing_by all_goals simp; try omega
def toksP (l : List Nat) : Option (List Tk) := toksGo [] 0 l
theorem toks_nil (acc : List Tk) (i : Nat) : toksGo acc i [] = some acc := by rw [toksGo]
theorem toks_blank (acc : List Tk) (i : Nat) {c : Nat} (r : List Nat) (h : blankB c = true) : toksGo acc i (c :: r) = toksGo acc (i + 1) r := by rw [toksGo, if_pos h]
theorem toks_none (acc : List Tk) (i : Nat) {c : Nat} {r : List Nat} (h : blankB c = false) (hn : nextP (c :: r) = none) : toksGo acc i (c :: r) = none := by rw [toksGo, if_neg (by rw [h]; simp), hn]
theorem toks_some (acc : List Tk) (i : Nat) {c : Nat} {r : List Nat} {t : Nat × List Nat × Nat} {n : Nat} (h : blankB c = false) (hn : nextP (c :: r) = some (t, n)) : toksGo acc i (c :: r) = toksGo (acc ++ [(t, i)]) (i + n) ((c :: r).drop n) := by
  rw [toksGo, if_neg (by rw [h]; simp), hn]
  simp only
  have := (nextP_pos hn).1
  obtain ⟨m, rfl⟩ : ∃ m, n = m + 1 := ⟨n - 1, by omega⟩
  rfl
def cellsT (l : List Tk) : List Value := l.flatMap fun x => [.int .i64 (x.1.1 : Nat), .string (bs x.1.2.1), .int .i64 (x.1.2.2 : Nat), .int .i64 (x.2 : Nat)]
theorem cellsT_snoc (l : List Tk) (t : Nat × List Nat × Nat) (i : Nat) : cellsT (l ++ [(t, i)]) = cellsT l ++ [.int .i64 (t.1 : Nat), .string (bs t.2.1), .int .i64 (t.2.2 : Nat), .int .i64 (i : Nat)] := by
  simp [cellsT]
theorem ETok : EltG Try.prog 22 33 (.agg #[.int .i64 0, .string ByteArray.empty, .int .i64 0, .int .i64 0]) 4 40 := ⟨Try.underlying22, info_parts (by kernel_rfl), rfl, by decide⟩
set_option maxRecDepth 100000 in
theorem blank_idx (c : Nat) (h : c < 256) : (0 ≤ Lib.indexByte [32, 9, 10, 13] ((c : Int).toNat.toUInt8) ↔ blankB c = true) := by
  have : ∀ c : Fin 256, (0 ≤ Lib.indexByte [32, 9, 10, 13] (((c.1 : Nat) : Int).toNat.toUInt8) ↔ blankB c.1 = true) := by decide
  exact this ⟨c, h⟩

/-- what Tokens returns -/
def ToksPost (B : Nat) (s : ByteArray) (e : Ending) (w' : World) : Prop :=
  (4096 < s.size ∧ e = .returned (.tuple #[.slice none 0 0, .iface 47 (.int .i64 9)])) ∨
  (s.size ≤ 4096 ∧ toksP (ns s) = none ∧ e = .returned (.tuple #[.slice none 0 0, .iface 47 (.int .i64 4)])) ∨
  (s.size ≤ 4096 ∧ ∃ ts a c, toksP (ns s) = some ts ∧ ts.length ≤ 4096 ∧ e = .returned (.tuple #[.slice a ts.length c, .nilIface]) ∧ Row w' B 33 4 (.slice a ts.length c) ts.length (cellsT ts))

set_option maxRecDepth 100000 in
set_option maxHeartbeats 1500000 in
theorem tokens_any (s : ByteArray) (w : World) (hs : s.size ≤ 1000000000000) : Calls Try.prog 7 #[.string s] w fun e w' => ToksPost w.heap.size s e w' ∧ Below w.heap.size w w' := by
  have hsi9 : (s.size : Int) ≤ 1000000000000 := by omega
  by_cases hbig : 4096 < s.size
  · have hd : decide ((4096 : Int) < (s.size : Int)) = true := by simp; omega
    have HB := Lib.hid hbig
    clear hbig hs
    go_enter Try.func7, Try.ntmps7
    go_wp2
    go_ret2
    exact ⟨.inl ⟨HB.out, rfl⟩, Below.refl _ _⟩
  have hd : decide ((4096 : Int) < (s.size : Int)) = false := by simp; omega
  have hsi : (s.size : Int) ≤ 4096 := by omega
  have HSZ : Hid (s.size ≤ 4096) := Lib.hid (by omega)
  have HNL := Lib.hid (ns_len s)
  have HLT := Lib.hid (ns_lt s)
  clear hbig hs hsi9
  go_enter Try.func7, Try.ntmps7
  go_wp2
  go_loopw [4, 5] (fun sv iv wr => ∃ (i N : Nat) (acc : List Tk) (a : Option Addr) (c : Nat), iv = .int .i64 i ∧ i ≤ s.size ∧ sv = .slice a N c ∧ acc.length = N ∧ N ≤ i ∧ toksGo acc i ((ns s).drop i) = toksP (ns s) ∧ Row wr w.heap.size 33 4 (.slice a N c) N (cellsT acc) ∧ Below w.heap.size w wr) (fun _ iv _ => s.size - (intOf iv).toNat)
  case atStart => exact ⟨0, 0, [], none, 0, rfl, by omega, rfl, rfl, by omega, rfl, World.ownsRow_nil _ _ _ _, Below.refl _ _⟩
  case round =>
    obtain ⟨i, N, acc, a, c, rfl, hi, rfl, hN, hNi, hq, hrow, hb⟩ := hrel
    have HROW := Lib.hid hrow
    have HB := Lib.hid hb
    have HN := Lib.hid hN
    have HNI := Lib.hid hNi
    have HQ := Lib.hid hq
    have hi9 : (i : Int) ≤ 4096 := by have := HSZ.out; omega
    have HI := Lib.hid hi
    by_cases hlt : i < s.size
    · have HG := Lib.hid (ns_get hlt)
      obtain ⟨x, hx⟩ : ∃ x, (s[i]'hlt).toNat = x := ⟨_, rfl⟩
      rw [hx] at HG
      have HX9 : Hid (x < 256) := Lib.hid (HLT.out x (List.mem_of_getElem? HG.out))
      have hx9 : (x : Int) ≤ 255 := by have := HX9.out; omega
      obtain ⟨r, hr⟩ : ∃ r, r = (ns s).drop (i + 1) := ⟨_, rfl⟩
      have hdrop : (ns s).drop i = x :: r := by
        rw [List.drop_eq_getElem_cons (by rw [ns_len]; exact hlt), hr]
        rw [(List.getElem?_eq_some_iff.1 HG.out).2]
      have HDROP := Lib.hid hdrop
      have HR := Lib.hid hr
      have hii : (i : Int) < (s.size : Int) := by omega
      have HLTI := Lib.hid hlt
      have HIB := Lib.hid ((Try.strings_IndexByte (⟨#[32, 9, 10, 13]⟩ : ByteArray) (x : Int) wr).mono (fun e w' h => (⟨h.1, h.2.symm⟩ : _ ∧ wr = w')))
      obtain ⟨y, hy⟩ : ∃ y, y = Lib.indexByte (⟨#[32, 9, 10, 13]⟩ : ByteArray).data.toList ((x : Int).toNat.toUInt8) := ⟨_, rfl⟩
      rw [← hy] at HIB
      have HY : Hid (0 ≤ y ↔ blankB x = true) := Lib.hid (by rw [hy]; exact blank_idx x HX9.out)
      clear hi hN hNi hq hrow hb hdrop hr hy
      cases hbl : blankB x with
      | true =>
        have hy0 : decide (0 ≤ y) = true := decide_eq_true (HY.out.2 hbl)
        have HQ2 : Hid (toksGo acc (i + 1) ((ns s).drop (i + 1)) = toksP (ns s)) := Lib.hid (by rw [← HQ.out, HDROP.out, toks_blank _ _ _ hbl, HR.out])
        clear hbl
        go_wp2_with (refine HIB.out.mono ?_; rintro e w2 ⟨rfl, rfl⟩)
        exact ⟨⟨i + 1, N, acc, a, c, rfl, by have := HLTI.out; omega, rfl, HN.out, by have := HNI.out; omega, HQ2.out, HROW.out, HB.out⟩, by have := HLTI.out; simp only [intOf]; omega⟩
      | false =>
        have hy0 : decide (0 ≤ y) = false := by rw [decide_eq_false_iff_not, HY.out, hbl]; simp
        have HEX : Hid (ns (s.extract i s.size) = x :: r) := Lib.hid (by rw [ns_extract, HDROP.out])
        have HEL : Hid (0 < (s.extract i s.size).size ∧ (s.extract i s.size).size ≤ 1000000000) := Lib.hid (by
          have h := ns_len (s.extract i s.size)
          rw [HEX.out, List.length_cons] at h
          have h2 := ns_len s
          have h3 : ((ns s).drop i).length = s.size - i := by rw [List.length_drop, h2]
          rw [HDROP.out, List.length_cons] at h3
          have := HSZ.out
          omega)
        have HNX := Lib.hid (next_any (s.extract i s.size) HEL.out.2 HEL.out.1 wr)
        rw [HEX.out] at HNX
        cases hnx : nextP (x :: r) with
        | none =>
          rw [hnx] at HNX
          simp only [nextV, tokV] at HNX
          have HE : Hid (toksP (ns s) = none) := Lib.hid (by rw [← HQ.out, HDROP.out, toks_none _ _ hbl hnx])
          clear hbl hnx
          go_wp2_with (first | (go_at_call 19; refine HIB.out.mono ?_; rintro e w2 ⟨rfl, rfl⟩) | (go_at_call 20; refine HNX.out.mono ?_; rintro e w2 ⟨rfl, hb2⟩; have HB2 := Lib.hid hb2; clear hb2))
          go_ret2
          exact ⟨.inr (.inl ⟨HSZ.out, HE.out, rfl⟩), bthen HB.out (bthen HB2.out (by first | exact Below.refl _ _ | exact below_alloc _ _))⟩
        | some v =>
          obtain ⟨⟨k, t, v⟩, n⟩ := v
          rw [hnx] at HNX
          simp only [nextV, tokV] at HNX
          have hpos := nextP_pos hnx
          have HQ2 : Hid (toksGo (acc ++ [((k, t, v), i)]) (i + n) ((ns s).drop (i + n)) = toksP (ns s)) := Lib.hid (by rw [← HQ.out, HDROP.out, toks_some _ _ hbl hnx, ← HDROP.out, List.drop_drop])
          have hin : i + n ≤ s.size := by
            have h3 : ((ns s).drop i).length = s.size - i := by rw [List.length_drop, ns_len]
            rw [HDROP.out] at h3; omega
          have HIN := Lib.hid hin
          have HPOS := Lib.hid hpos
          have hn0 : ((n : Int) == 0) = false := by rw [beq_eq_false_iff_ne]; omega
          have hn9 : (n : Int) ≤ 4096 := by have := HSZ.out; omega
          clear hbl hnx hpos hin
          go_upto_region 12 with (first | (go_at_call 19; refine HIB.out.mono ?_; rintro e w2 ⟨rfl, rfl⟩) | (go_at_call 20; refine HNX.out.mono ?_; rintro e w2 ⟨rfl, hb2⟩; have HB2 := Lib.hid hb2; clear hb2))
          obtain ⟨w4, hw4⟩ : ∃ w4, w4 = w2.alloc (.cells #[.int .i64 k, .string (bs t), .int .i64 v, .int .i64 i] 33) := ⟨_, rfl⟩
          rw [← hw4]
          have HB4 : Hid (Below wr.heap.size wr w4) := Lib.hid (bthen HB2.out (by rw [hw4]; exact below_alloc _ _))
          obtain ⟨bx, hbx⟩ : ∃ bx, bx = w2.heap.size := ⟨_, rfl⟩
          have z0 : w4.cell? ⟨bx, 0, none⟩ = some (.int .i64 k) := by rw [hw4, hbx]; simp
          have z1 : w4.cell? ⟨bx, 1, none⟩ = some (.string (bs t)) := by rw [hw4, hbx]; simp
          have z2 : w4.cell? ⟨bx, 2, none⟩ = some (.int .i64 v) := by rw [hw4, hbx]; simp
          have z3 : w4.cell? ⟨bx, 3, none⟩ = some (.int .i64 i) := by rw [hw4, hbx]; simp
          rw [← hbx]
          clear hw4 hbx
          have HSB : Hid (w.heap.size ≤ w4.heap.size) := Lib.hid (bthen HB.out HB4.out).size
          go_wp2_with (at_builtin; refine app_row_at (.tmp 35) (.tmp 37) ETok rfl rfl w.heap.size (.slice a N c) N (cellsT acc) rfl (Row.below HROW.out (bthen HB4.out (below_alloc _ _))) (some ⟨_, 0, none⟩) 1 1 [.int .i64 k, .string (bs t), .int .i64 v, .int .i64 i] rfl (RdG.lits _ 4 _ 1 [.int .i64 k, .string (bs t), .int .i64 v, .int .i64 i] rfl) (by simp [Value.oneCell']) (by have := HNI.out; have := HI.out; have := HSZ.out; omega) (by decide) (by have := HSB.out; simp; omega) ?_; intro a7 c7 w7 hr7 hg7 hat7; have HR7 := Lib.hid hr7; have HB7 : Hid (Below w.heap.size w w7) := Lib.hid ((bthen HB.out (bthen HB4.out (below_alloc _ _))).trans (Row.grown (Row.below HROW.out (bthen HB4.out (below_alloc _ _))) hg7 (by have := HSB.out; simp; omega))); clear hr7 hg7 hat7)
          refine ⟨⟨i + n, N + 1, acc ++ [((k, t, v), i)], a7, c7, by push_cast; rfl, HIN.out, rfl, by simp [HN.out], by have := HNI.out; have := HPOS.out.1; omega, HQ2.out, ?_, HB7.out⟩, ?_⟩
          · rw [cellsT_snoc]; exact HR7.out
          · have h1 := HPOS.out.1
            have h2 := HIN.out
            have e : ((i : Int) + (n : Int)) = ((i + n : Nat) : Int) := by push_cast; rfl
            simp only [intOf]
            omega
    · have hie : i = s.size := by omega
      subst hie
      have HE : Hid (toksP (ns s) = some acc) := Lib.hid (by rw [← hq, List.drop_of_length_le (by rw [ns_len]; omega), toks_nil])
      clear hi hN hNi hq hrow hb hlt
      go_wp2
      go_ret2
      have hN := HN.out
      subst hN
      exact ⟨.inr (.inr ⟨HSZ.out, acc, a, c, HE.out, by have := HNI.out; have := HSZ.out; omega, rfl, HROW.out⟩), HB.out⟩

end Go.Proofs.Ytpabngicbfcdkaa
