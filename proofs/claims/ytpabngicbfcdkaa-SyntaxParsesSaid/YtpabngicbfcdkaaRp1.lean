/-
  The reference's parser: its state; is, must, call, Level.
-/
import Derived.Test.YtpabngicbfcdkaaSTokW
import Derived.Test.YtpabngicbfcdkaaPar9
namespace Go.Proofs.Ytpabngicbfcdkaa
open Go.RowKit
set_option linter.unusedVariables false
set_option linter.unusedSimpArgs false

/-- a token as Tokens makes it: a word has letters, a sign is one of the list -/
def WT (t : Tk) : Prop := t.1.1 ≤ 5 ∧ 1 ≤ t.1.1 ∧ (t.1.1 = 4 → t.1.2.1 ≠ [] ∧ t.1.2.1.all letB = true) ∧ (t.1.1 = 5 → t.1.2.1 ∈ signL)
theorem next_wt {l : List Nat} {t : Nat × List Nat × Nat} {n i : Nat} (h : nextP l = some (t, n)) : WT (t, i) := by
  cases l with
  | nil => cases h
  | cons c r =>
    unfold nextP at h
    simp only at h
    split at h
    · cases hv : valP ((c :: r).take (spn digB (c :: r))) with
      | none => rw [hv] at h; cases h
      | some v => rw [hv] at h; cases h; exact ⟨by simp, by simp, (fun h => by cases h), (fun h => by cases h)⟩
    · split at h
      · cases hv : quoP (c :: r) with
        | none => rw [hv] at h; cases h
        | some v => obtain ⟨b, m⟩ := v; rw [hv] at h; cases h; exact ⟨by simp, by simp, (fun h => by cases h), (fun h => by cases h)⟩
      · split at h
        · split at h
          · cases h
          · cases h; exact ⟨by simp, by simp, (fun h => by cases h), (fun h => by cases h)⟩
        · split at h
          · rename_i hl
            cases h
            refine ⟨by simp, by simp, fun _ => ⟨?_, ?_⟩, (fun h => by cases h)⟩
            · rw [take_spn_eq, List.takeWhile_cons, if_pos hl]; simp
            · rw [List.all_eq_true]; exact fun x hx => take_spn _ x hx
          · rw [sgn_find] at h
            cases hf : signL.find? (fun t => t.isPrefixOf (c :: r)) with
            | none => rw [hf] at h; cases h
            | some u =>
              rw [hf] at h; cases h
              exact ⟨by simp, by simp, (fun h => by cases h), fun _ => List.mem_of_find?_eq_some hf⟩
theorem toks_wt : ∀ (m : Nat) (acc : List Tk) (i : Nat) (l : List Nat) (ts : List Tk), l.length ≤ m → toksGo acc i l = some ts → (∀ t ∈ acc, WT t) → ∀ t ∈ ts, WT t
  | m, acc, i, [], ts, _, h, ha => by rw [toks_nil] at h; cases h; exact ha
  | 0, acc, i, c :: l, ts, hm, h, _ => by simp at hm
  | m + 1, acc, i, c :: l, ts, hm, h, ha => by
    by_cases hb : blankB c = true
    · rw [toks_blank _ _ _ hb] at h
      exact toks_wt m acc (i + 1) l ts (by simpa using hm) h ha
    · have hb : blankB c = false := by simpa using hb
      cases hn : nextP (c :: l) with
      | none => rw [toks_none _ _ hb hn] at h; cases h
      | some v =>
        obtain ⟨t, n⟩ := v
        rw [toks_some _ _ hb hn] at h
        have hp := nextP_pos hn
        refine toks_wt m _ _ _ ts (by simp at hm ⊢; omega) h (fun x hx => ?_)
        rcases List.mem_append.1 hx with hx | hx
        · exact ha x hx
        · rcases List.mem_cons.1 hx with rfl | hx
          · exact next_wt hn
          · cases hx
theorem toksP_wt {s : List Nat} {ts : List Tk} (h : toksP s = some ts) : ∀ t ∈ ts, WT t := toks_wt _ [] 0 s ts (Nat.le_refl _) h (fun t ht => by cases ht)
theorem sign_not_word : ∀ l ∈ signL, l.all letB = false := by decide
/-- which kind a text is of -/
theorem WT.kind5 {t : Tk} (h : WT t) (h4 : 4 ≤ t.1.1) {l : List Nat} (hl : l ∈ signL) (he : t.1.2.1 = l) : t.1.1 = 5 := by
  rcases Nat.lt_or_ge t.1.1 5 with h5 | h5
  · have h9 := h.2.2.1 (by omega)
    rw [he, sign_not_word l hl] at h9; cases h9.2
  · have := h.1; omega
theorem WT.kind4 {t : Tk} (h : WT t) (h4 : 4 ≤ t.1.1) {l : List Nat} (hl : l.all letB = true) (he : t.1.2.1 = l) : t.1.1 = 4 := by
  rcases Nat.lt_or_ge t.1.1 5 with h5 | h5
  · omega
  · have h9 := sign_not_word _ (h.2.2.2 (by have := h.1; omega))
    rw [he, hl] at h9; cases h9

/-- the list that is parsed, and where its slice lies -/
structure RA where
  a : Option Addr
  c : Nat
  all : List Tk
/-- the reference's parser at pb: the tokens that are left, and whether it is bad -/
structure RPS (w : World) (pb : Nat) (A : RA) (ts : List Tk) (bad : Bool) : Prop where
  c0 : w.cell? ⟨pb, 0, none⟩ = some (.slice A.a A.all.length A.c)
  c1 : ∃ p : Nat, w.cell? ⟨pb, 1, none⟩ = some (.int .i64 p) ∧ ts = A.all.drop p ∧ p ≤ A.all.length
  c2 : w.cell? ⟨pb, 2, none⟩ = some (.bool bad)
  fz : ∀ j, w.frozen? ⟨pb, j, none⟩ = false
  ad : ∀ i t, A.all[i]? = some t → ∃ b, A.a = some ⟨b, 0, none⟩ ∧ b < pb ∧ w.cell? ⟨b, i * 4, none⟩ = some (.int .i64 (t.1.1 : Nat)) ∧ w.cell? ⟨b, i * 4 + 1, none⟩ = some (.string (bs t.1.2.1)) ∧ w.cell? ⟨b, i * 4 + 2, none⟩ = some (.int .i64 (t.1.2.2 : Nat)) ∧ w.cell? ⟨b, i * 4 + 3, none⟩ = some (.int .i64 (t.2 : Nat))
  lim : A.all.length ≤ 1000000
  by8 : ∀ t ∈ A.all, ∀ u ∈ t.1.2.1, u < 256
  wt : ∀ t ∈ A.all, WT t
theorem RPS.lt {w pb A ts bad} (h : RPS w pb A ts bad) : pb < w.heap.size := World.block_lt_of_cell? w _ h.c0
theorem RPS.fr {S : Nat → Prop} {w w' pb A ts bad} (h : RPS w pb A ts bad) (hf : Fr S w w') (h1 : ∀ i, i ≤ pb → ¬ S i) : RPS w' pb A ts bad := by
  refine ⟨hf.cell h.c0 (h1 _ (Nat.le_refl _)), ?_, hf.cell h.c2 (h1 _ (Nat.le_refl _)), fun j => (hf.frozen h.lt (h1 _ (Nat.le_refl _))).trans (h.fz j), fun i t ht => ?_, h.lim, h.by8, h.wt⟩
  · obtain ⟨p, hp, r⟩ := h.c1
    exact ⟨p, hf.cell hp (h1 _ (Nat.le_refl _)), r⟩
  · obtain ⟨b, ha, hb, x0, x1, x2, x3⟩ := h.ad i t ht
    have hn := h1 b (by omega)
    exact ⟨b, ha, hb, hf.cell x0 hn, hf.cell x1 hn, hf.cell x2 hn, hf.cell x3 hn⟩
theorem RPS.below {w w' pb A ts bad} (h : RPS w pb A ts bad) (hb : Below w.heap.size w w') : RPS w' pb A ts bad := h.fr (S := fun _ => False) (.of_below hb) (fun _ _ h => h)
theorem RPS.drew {w pb A ts bad} (h : RPS w pb A ts bad) : RPS w.drew pb A ts bad := ⟨h.c0, h.c1, h.c2, h.fz, h.ad, h.lim, h.by8, h.wt⟩
/-- where the next token lies -/
theorem RPS.head {w pb A t r bad} (h : RPS w pb A (t :: r) bad) : ∃ p b, w.cell? ⟨pb, 1, none⟩ = some (.int .i64 (p : Nat)) ∧ p < A.all.length ∧ A.all.drop p = t :: r ∧ A.a = some ⟨b, 0, none⟩ ∧ b < pb ∧ w.cell? ⟨b, p * 4, none⟩ = some (.int .i64 (t.1.1 : Nat)) ∧ w.cell? ⟨b, p * 4 + 1, none⟩ = some (.string (bs t.1.2.1)) ∧ w.cell? ⟨b, p * 4 + 2, none⟩ = some (.int .i64 (t.1.2.2 : Nat)) ∧ w.cell? ⟨b, p * 4 + 3, none⟩ = some (.int .i64 (t.2 : Nat)) ∧ WT t ∧ (∀ u ∈ t.1.2.1, u < 256) := by
  obtain ⟨p, hp, hts, hl⟩ := h.c1
  have hget : A.all[p]? = some t := by
    have : (A.all.drop p)[0]? = some t := by rw [← hts]; rfl
    rw [List.getElem?_drop, Nat.add_zero] at this
    exact this
  obtain ⟨b, ha, hb, x0, x1, x2, x3⟩ := h.ad p t hget
  exact ⟨p, b, hp, (List.getElem?_eq_some_iff.1 hget).1, hts.symm, ha, hb, x0, x1, x2, x3, h.wt t (List.mem_of_getElem? hget), h.by8 t (List.mem_of_getElem? hget)⟩
theorem RPS.setBad {w pb A ts bad} (h : RPS w pb A ts bad) : RPS (w.setCell ⟨pb, 2, none⟩ (.bool true)) pb A ts true := by
  refine ⟨set_other (by simp) h.c0, ?_, set_same h.c2, fun j => by simp [h.fz j], fun i t ht => ?_, h.lim, h.by8, h.wt⟩
  · obtain ⟨p, hp, r⟩ := h.c1
    exact ⟨p, set_other (by simp) hp, r⟩
  · obtain ⟨b, ha, hb, x0, x1, x2, x3⟩ := h.ad i t ht
    have hn : ∀ j, (⟨pb, 2, none⟩ : Addr) ≠ ⟨b, j, none⟩ := fun j e => by cases e; omega
    exact ⟨b, ha, hb, set_other (hn _) x0, set_other (hn _) x1, set_other (hn _) x2, set_other (hn _) x3⟩
/-- the next token is taken -/
theorem RPS.setAt {w pb A t r bad} {p : Nat} (h : RPS w pb A (t :: r) bad) (hp : w.cell? ⟨pb, 1, none⟩ = some (.int .i64 (p : Nat))) {q : Int} (hq : q = (p : Int) + 1) : RPS (w.setCell ⟨pb, 1, none⟩ (.int .i64 q)) pb A r bad := by
  refine ⟨set_other (by simp) h.c0, ?_, set_other (by simp) h.c2, fun j => by simp [h.fz j], fun i t ht => ?_, h.lim, h.by8, h.wt⟩
  · obtain ⟨p', hp', hts, hl⟩ := h.c1
    rw [hp] at hp'
    have e : p = p' := by have h := hp'; simp at h; omega
    subst e
    refine ⟨p + 1, ?_, ?_, ?_⟩
    · rw [set_same hp, hq]; simp
    · have : A.all.drop (p + 1) = (A.all.drop p).drop 1 := by rw [List.drop_drop]
      rw [this, ← hts]; rfl
    · have h2 : (A.all.drop p).length = (t :: r).length := by rw [← hts]
      rw [List.length_drop, List.length_cons] at h2; omega
  · obtain ⟨b, ha, hb, x0, x1, x2, x3⟩ := h.ad i t ht
    have hn : ∀ j, (⟨pb, 1, none⟩ : Addr) ≠ ⟨b, j, none⟩ := fun j e => by cases e; omega
    exact ⟨b, ha, hb, set_other (hn _) x0, set_other (hn _) x1, set_other (hn _) x2, set_other (hn _) x3⟩

set_option maxRecDepth 100000 in
set_option maxHeartbeats 1500000 in
theorem is_any (k : Nat) (l : List Nat) (h8 : ∀ c ∈ l, c < 256) (h4 : 4 ≤ k) (hk : ∀ t : Tk, WT t → 4 ≤ t.1.1 → t.1.2.1 = l → t.1.1 = k) {w : World} {pb A ts bad} (hp : RPS w pb A ts bad) :
    Calls Try.prog 42 #[.pointer (some ⟨pb, 0, none⟩), .string (bs l)] w fun e w' => e = .returned (.bool (isT k [l] ts)) ∧ Below w.heap.size w w' := by
  have c0 := hp.c0
  have hlim : (A.all.length : Int) ≤ 1000000 := by have := hp.lim; omega
  obtain ⟨N, hN⟩ : ∃ N, N = A.all.length := ⟨_, rfl⟩
  cases ts with
  | nil =>
    obtain ⟨p, c1, hts, hl⟩ := hp.c1
    have hpe : p = N := by
      have h2 : (A.all.drop p).length = 0 := by rw [← hts]; rfl
      rw [List.length_drop] at h2; omega
    rw [← hN] at c0 hlim
    rw [hpe] at c1
    clear hp h8 hk hts hl hpe hN
    go_enter Try.func42, Try.ntmps42
    go_wp2
    go_quiet (fail)
    go_wp2
    go_ret
    exact ⟨rfl, bdrewN (Below.refl _ _) _⟩
  | cons t r =>
    obtain ⟨p, b, c1, hpl, -, ha, hb, x0, x1, -, -, hwt, hb8⟩ := hp.head
    rw [ha] at c0
    have hpi : (p : Int) < (N : Int) := by omega
    have hpn : p < N := by omega
    rw [← hN] at c0 hlim
    by_cases hkk : 4 ≤ t.1.1
    · have g4 : (4 : Int) ≤ (t.1.1 : Int) := by omega
      obtain ⟨q, hq⟩ : ∃ q, ((bs t.1.2.1).toList == (bs l).toList) = q := ⟨_, rfl⟩
      have HE : Hid (isT k [l] (t :: r) = q) := Lib.hid (by
        rw [← hq, bs_toList (l := l), bs_eqs hb8 l h8, Bool.eq_iff_iff]
        simp only [isT, Bool.and_eq_true, beq_iff_eq, List.contains_cons, List.contains_nil, Bool.or_false]
        exact ⟨fun h => h.2, fun h => ⟨hk t hwt hkk h, h⟩⟩)
      clear hp h8 hk hN hwt hb8 hkk
      go_enter Try.func42, Try.ntmps42
      go_wp2
      go_quiet (fail)
      go_wp2
      go_ret
      exact ⟨by rw [HE.out]; rfl, bdrewN (Below.refl _ _) _⟩
    · have g4 : decide ((4 : Int) ≤ (t.1.1 : Int)) = false := decide_eq_false (by omega)
      have HE : Hid (isT k [l] (t :: r) = false) := Lib.hid (by
        have : (t.1.1 == k) = false := by rw [beq_eq_false_iff_ne]; omega
        simp [isT, this])
      clear hp h8 hk hN hwt hb8 hkk
      go_enter Try.func42, Try.ntmps42
      go_wp2
      go_quiet (fail)
      go_wp2
      go_ret
      exact ⟨by rw [HE.out]; rfl, bdrewN (Below.refl _ _) _⟩

end Go.Proofs.Ytpabngicbfcdkaa
