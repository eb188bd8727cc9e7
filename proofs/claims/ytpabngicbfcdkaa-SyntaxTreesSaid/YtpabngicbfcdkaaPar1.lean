/-
  The parser's state; at, take, expect, call.
-/
import Derived.Test.YtpabngicbfcdkaaParP
namespace Go.Proofs.Ytpabngicbfcdkaa
open Go.RowKit
set_option linter.unusedVariables false
set_option linter.unusedSimpArgs false

/-- the parser at pb: the tokens that are left, and whether it is bad -/
structure PS (w : World) (pb : Nat) (a : Option Addr) (c : Nat) (ts : List Tk) (bad : Bool) : Prop where
  c0 : w.cell? ⟨pb, 0, none⟩ = some (.slice a ts.length c)
  c1 : w.cell? ⟨pb, 1, none⟩ = some (.bool bad)
  fz : ∀ j, w.frozen? ⟨pb, j, none⟩ = false
  rd : RdG w 4 a ts.length (cellsT ts)
  ap : ∀ x, a = some x → x.block < pb
  hc : ts.length ≤ c
  lim : ts.length ≤ 1000000
  by8 : ∀ t ∈ ts, ∀ u ∈ t.1.2.1, u < 256
  sz : ∀ t ∈ ts, t.1.2.1.length ≤ 1000000
theorem PS.lt {w pb a c ts bad} (h : PS w pb a c ts bad) : pb < w.heap.size := World.block_lt_of_cell? w _ h.c0
theorem PS.below {w w' pb a c ts bad} (h : PS w pb a c ts bad) (hb : Below w.heap.size w w') : PS w' pb a c ts bad :=
  ⟨below_cell hb h.c0, below_cell hb h.c1, fun j => by
    have := (Fr.of_below (S := fun _ => False) hb).frozen (x := ⟨pb, j, none⟩) h.lt (fun h => h)
    exact this.trans (h.fz j), h.rd.below hb, h.ap, h.hc, h.lim, h.by8, h.sz⟩
theorem PS.blk {w pb a c ts bad} (h : PS w pb a c ts bad) {x : Addr} (hx : a = some x) (hn : 0 < ts.length) : x.block < w.heap.size := by
  have hl := h.rd.len
  obtain ⟨u, hu⟩ : ∃ u, (cellsT ts)[0]? = some u := ⟨_, List.getElem?_eq_getElem (by omega)⟩
  obtain ⟨b, off, ha, hc⟩ := h.rd.cell 0 u hu
  rw [hx] at ha; cases ha
  exact World.block_lt_of_cell? w _ hc
theorem PS.fr {S : Nat → Prop} {w w' pb a c ts bad} (h : PS w pb a c ts bad) (hf : Fr S w w') (h1 : ¬ S pb) (h2 : ∀ x, a = some x → 0 < ts.length → ¬ S x.block) : PS w' pb a c ts bad := by
  refine ⟨hf.cell h.c0 h1, hf.cell h.c1 h1, fun j => (hf.frozen h.lt h1).trans (h.fz j), ⟨h.rd.len, fun j u hu => ?_⟩, h.ap, h.hc, h.lim, h.by8, h.sz⟩
  obtain ⟨b, off, ha, hc⟩ := h.rd.cell j u hu
  have hl := h.rd.len
  have hj := (List.getElem?_eq_some_iff.1 hu).1
  exact ⟨b, off, ha, hf.cell hc (by have := h2 _ ha (by omega); exact this)⟩
theorem PS.head {w pb a c t r bad} (h : PS w pb a c (t :: r) bad) : ∃ b off, a = some ⟨b, off, none⟩ ∧ b ≠ pb ∧ w.cell? ⟨b, off, none⟩ = some (.int .i64 (t.1.1 : Nat)) ∧ w.cell? ⟨b, off + 1, none⟩ = some (.string (bs t.1.2.1)) ∧ w.cell? ⟨b, off + 2, none⟩ = some (.int .i64 (t.1.2.2 : Nat)) ∧ w.cell? ⟨b, off + 3, none⟩ = some (.int .i64 (t.2 : Nat)) := by
  obtain ⟨b, off, ha, h0⟩ := h.rd.cell 0 _ rfl
  refine ⟨b, off, ha, ?_, h0, ?_, ?_, ?_⟩
  · have := h.ap _ ha; exact Nat.ne_of_lt this
  · obtain ⟨b', off', ha', h1⟩ := h.rd.cell 1 _ rfl
    rw [ha] at ha'; cases ha'; exact h1
  · obtain ⟨b', off', ha', h1⟩ := h.rd.cell 2 _ rfl
    rw [ha] at ha'; cases ha'; exact h1
  · obtain ⟨b', off', ha', h1⟩ := h.rd.cell 3 _ rfl
    rw [ha] at ha'; cases ha'; exact h1
/-- the parser goes bad -/
theorem PS.setBad {w pb a c ts bad} (h : PS w pb a c ts bad) : PS (w.setCell ⟨pb, 1, none⟩ (.bool true)) pb a c ts true := by
  have hf : Fr (fun x => x = pb) w (w.setCell ⟨pb, 1, none⟩ (.bool true)) := (Fr.refl (fun x => x = pb) w).setCell (p := ⟨pb, 1, none⟩) rfl _
  refine ⟨set_other (by simp) h.c0, set_same h.c1, fun j => by simp [h.fz j], ⟨h.rd.len, fun j u hu => ?_⟩, h.ap, h.hc, h.lim, h.by8, h.sz⟩
  obtain ⟨b, off, ha, hc⟩ := h.rd.cell j u hu
  exact ⟨b, off, ha, hf.cell hc (by have := h.ap _ ha; exact Nat.ne_of_lt this)⟩
/-- the next token is taken -/
theorem PS.setTail {w pb b off c t r bad} (h : PS w pb (some ⟨b, off, none⟩) c (t :: r) bad) {ad : Option Addr} (had : ad = if c = 1 then some ⟨b, off, none⟩ else some ⟨b, off + 4, none⟩) : PS (w.setCell ⟨pb, 0, none⟩ (.slice ad r.length (c - 1))) pb ad (c - 1) r bad := by
  have hf : Fr (fun x => x = pb) w (w.setCell ⟨pb, 0, none⟩ (.slice ad r.length (c - 1))) := (Fr.refl (fun x => x = pb) w).setCell (p := ⟨pb, 0, none⟩) rfl _
  have hl := h.rd.len
  have hlen := h.hc
  have hbp : b < pb := by have := h.ap _ rfl; exact this
  refine ⟨set_same h.c0, set_other (by simp) h.c1, fun j => by simp [h.fz j], ⟨?_, fun j u hu => ?_⟩, ?_, ?_, ?_, fun t ht => h.by8 t (List.mem_cons_of_mem _ ht), fun t ht => h.sz t (List.mem_cons_of_mem _ ht)⟩
  · simp only [cellsT, List.flatMap_cons, List.length_append, List.length_cons, List.length_nil] at hl ⊢; omega
  · have hr : 0 < r.length := by
      cases r with
      | nil => cases hu
      | cons x q => simp
    rw [if_neg (by simp only [List.length_cons] at hlen; omega)] at had
    obtain ⟨b', off', ha, hc⟩ := h.rd.cell (4 + j) u (by
      show (cellsT (t :: r))[4 + j]? = some u
      unfold cellsT
      rw [List.flatMap_cons, List.getElem?_append_right (by simp)]
      simpa [cellsT] using hu)
    cases ha
    exact ⟨b, off + 4, had, by rw [show off + 4 + j = off + (4 + j) by omega]; exact hf.cell hc (Nat.ne_of_lt hbp)⟩
  · intro x hx
    rw [had] at hx
    split at hx <;> cases hx <;> exact hbp
  · simp only [List.length_cons] at hlen; omega
  · have := h.lim; simp only [List.length_cons] at this; omega

theorem bs_inj {a b : List Nat} (ha : ∀ c ∈ a, c < 256) (hb : ∀ c ∈ b, c < 256) (h : bs a = bs b) : a = b := by
  have h1 : (bs a).toList = (bs b).toList := by rw [h]
  rw [bs_toList, bs_toList] at h1
  have h2 := congrArg (List.map (fun u : UInt8 => u.toNat)) h1
  rw [List.map_map, List.map_map] at h2
  have e : ∀ l : List Nat, (∀ c ∈ l, c < 256) → l.map ((fun u : UInt8 => u.toNat) ∘ fun u => u.toUInt8) = l := fun l hl => by
    conv => rhs; rw [← List.map_id l]
    exact List.map_congr_left fun c hc => by have := hl c hc; simp; omega
  rwa [e a ha, e b hb] at h2
theorem contains_bs (texts : List (List Nat)) (x : List Nat) (ht : ∀ l ∈ texts, ∀ c ∈ l, c < 256) (hx : ∀ c ∈ x, c < 256) : Lib.containsS (texts.map bs) (bs x) = texts.contains x := by
  rw [Bool.eq_iff_iff, Lib.containsS_iff, List.contains_iff_mem, List.mem_map]
  constructor
  · rintro ⟨l, hl, e⟩
    have := bs_inj (ht l hl) hx e
    rwa [← this]
  · exact fun h => ⟨x, h, rfl⟩

set_option maxRecDepth 100000 in
set_option maxHeartbeats 1500000 in
theorem at_any (k : Nat) (texts : List (List Nat)) (h8 : ∀ l ∈ texts, ∀ c ∈ l, c < 256) (hk : k ≤ 9) (hl9 : texts.length ≤ 9) (lb lc : Nat) (w : World) (hz : ∀ j, j < texts.length → w.cell? ⟨lb, j, none⟩ = some (.string ((texts.map bs).getD j ByteArray.empty)))
    {pb a c ts bad} (hp : PS w pb a c ts bad) :
    Calls Try.prog 54 #[.pointer (some ⟨pb, 0, none⟩), .int .i64 k, .slice (some ⟨lb, 0, none⟩) texts.length lc] w fun e w' => e = .returned (.bool (isT k texts ts)) ∧ w = w' := by
  have c0 := hp.c0
  have HP := Lib.hid hp
  have HCON : ∀ x, (∀ c ∈ x, c < 256) → Hid (Calls Try.prog 61 #[.slice (some ⟨lb, 0, none⟩) texts.length lc, .string (bs x)] w fun e w' => e = .returned (.bool (texts.contains x)) ∧ w = w') := fun x hx => Lib.hid (by
    have h := Try.slices_Contains_string lb 0 texts.length lc (texts.map bs) (bs x) w (by simp) (by omega) (fun j hj => by rw [Nat.zero_add]; exact hz j (by simpa using hj))
    refine h.mono fun e w' h => ⟨?_, h.2.symm⟩
    rw [h.1, List.take_of_length_le (by simp), contains_bs _ _ h8 hx])
  cases ts with
  | nil =>
    simp only [List.length_nil] at c0
    clear HCON hz h8 hp
    go_enter Try.func54, Try.ntmps54
    go_wp2
    go_ret
    exact ⟨rfl, rfl⟩
  | cons t r =>
    obtain ⟨b, off, rfl, -, x0, x1, -, -⟩ := hp.head
    have HC := HCON t.1.2.1 (hp.by8 t (by simp))
    simp only [List.length_cons] at c0
    have hlen : ((r.length + 1 : Nat) : Int) ≤ 1000000 := by have h1 := hp.hc; have h2 := hp.lim; simp only [List.length_cons] at h1 h2; omega
    have hlp : (0 : Int) < ((r.length + 1 : Nat) : Int) := by omega
    obtain ⟨n, hn⟩ : ∃ n, n = r.length + 1 := ⟨_, rfl⟩
    rw [← hn] at c0 hlen hlp
    have hn0 : 0 < n := by omega
    clear HCON hz h8 hp hn
    by_cases hkk : t.1.1 = k
    · have hkb : ((t.1.1 : Int) == (k : Int)) = true := by rw [hkk]; simp
      have HE : Hid (isT k texts (t :: r) = texts.contains t.1.2.1) := Lib.hid (by simp [isT, hkk])
      obtain ⟨q, hq⟩ : ∃ q, q = texts.contains t.1.2.1 := ⟨_, rfl⟩
      rw [← hq] at HC HE
      clear hkk hq
      go_enter Try.func54, Try.ntmps54
      go_wp2_with (refine HC.out.mono ?_; rintro e w2 ⟨rfl, rfl⟩)
      go_ret
      exact ⟨by rw [HE.out]; rfl, rfl⟩
    · have hkb : ((t.1.1 : Int) == (k : Int)) = false := by rw [beq_eq_false_iff_ne]; omega
      have HE : Hid (isT k texts (t :: r) = false) := Lib.hid (by simp [isT, hkk])
      clear hkk HC
      go_enter Try.func54, Try.ntmps54
      go_wp2
      go_ret
      exact ⟨by rw [HE.out]; rfl, rfl⟩

/-- the token that is taken -/
def hdV : List Tk → Value
  | [] => tokV 0 (bs []) 0 0
  | t :: _ => tokV (t.1.1 : Nat) (bs t.1.2.1) (t.1.2.2 : Nat) (t.2 : Nat)
def TakePost (w : World) (pb : Nat) (ts : List Tk) (bad : Bool) (w' : World) : Prop := (∃ a c, PS w' pb a c ts.tail (bad || ts.isEmpty)) ∧ Fr (fun x => x = pb) w w'

set_option maxRecDepth 100000 in
set_option maxHeartbeats 1500000 in
theorem take_any {w : World} {pb a c ts bad} (hp : PS w pb a c ts bad) :
    Calls Try.prog 55 #[.pointer (some ⟨pb, 0, none⟩)] w fun e w' => e = .returned (hdV ts) ∧ TakePost w pb ts bad w' := by
  obtain ⟨w1, hw1⟩ : ∃ w1, w1 = w.alloc (.cells #[.int .i64 0, .string ⟨#[]⟩, .int .i64 0, .int .i64 0] 33) := ⟨_, rfl⟩
  have HB1 : Hid (Below w.heap.size w w1) := Lib.hid (by rw [hw1]; exact below_alloc _ _)
  have HS1 : Hid (w1.heap.size = w.heap.size + 1) := Lib.hid (by rw [hw1]; simp)
  have hTC : TC w1 w.heap.size 0 ByteArray.empty 0 0 := by rw [hw1]; exact alloc_tc _ _ _ _ _ _
  have HP1 := Lib.hid (hp.below HB1.out)
  have HPL := Lib.hid hp.lt
  have HW1 := Lib.hid hw1
  have HTC := Lib.hid hTC
  obtain ⟨r0, r1, r2, r3, rf⟩ := hTC
  have rf0 := rf 0
  have rf1 := rf 1
  have rf2 := rf 2
  have rf3 := rf 3
  have c0 := HP1.out.c0
  have c1 := HP1.out.c1
  have cf0 := HP1.out.fz 0
  have cf1 := HP1.out.fz 1
  have hne : ¬ (pb = w.heap.size) := by have := HPL.out; omega
  have hne' : ¬ (w.heap.size = pb) := by have := HPL.out; omega
  have HP := Lib.hid hp
  clear rf hw1 hp
  cases ts with
  | nil =>
    simp only [List.length_nil] at c0
    go_enter Try.func55, Try.ntmps55
    go_upto_region 1 with fail
    rw [← HW1.out]
    go_wp2
    refine bodyPost_ret (v := .agg #[.int .i64 0, .string ⟨#[]⟩, .int .i64 0, .int .i64 0]) (by simp [results, Try.results55, go_sem, r0, r1, r2, r3]; try rfl) rfl ⟨rfl, ⟨a, c, ?_⟩, ?_⟩
    · have h := HP1.out.setBad.fr (fr4 _ w.heap.size (.int .i64 0) (.string ⟨#[]⟩) (.int .i64 0) (.int .i64 0)) hne (fun x _ h0 => absurd h0 (by simp))
      simpa using h
    · exact ((Fr.of_below (S := fun x => x = pb) HB1.out).setCell (p := ⟨pb, 1, none⟩) rfl _).then (fr4 _ w.heap.size (.int .i64 0) (.string ⟨#[]⟩) (.int .i64 0) (.int .i64 0)) (fun i e => .inr (by omega))
  | cons t r =>
    obtain ⟨b, off, rfl, hbp, x0, x1, x2, x3⟩ := HP1.out.head
    simp only [List.length_cons] at c0
    have hlen : ((r.length + 1 : Nat) : Int) ≤ 1000000 := by have h1 := HP1.out.hc; have h2 := HP1.out.lim; simp only [List.length_cons] at h1 h2; omega
    have hcc : r.length + 1 ≤ c := HP1.out.hc
    obtain ⟨n, hn⟩ : ∃ n, n = r.length + 1 := ⟨_, rfl⟩
    rw [← hn] at c0 hlen hcc
    have hn0 : 0 < n := by omega
    have hn1 : 1 ≤ n := by omega
    have hnb : ((n : Int) == 0) = false := by rw [beq_eq_false_iff_ne]; omega
    have hn1i : (1 : Int) ≤ (n : Int) := by omega
    have HN : Hid (n - 1 = r.length) := Lib.hid (by omega)
    clear hn
    go_enter Try.func55, Try.ntmps55
    go_upto_region 1 with fail
    rw [← HW1.out]
    go_upto_region 5 with fail
    obtain ⟨w2, hw2⟩ : ∃ w2, w2 = w1.alloc (.cells #[.int .i64 (t.1.1 : Nat), .string (bs t.1.2.1), .int .i64 (t.1.2.2 : Nat), .int .i64 (t.2 : Nat)] 33) := ⟨_, rfl⟩
    rw [← hw2]
    have HB2 : Hid (Below w1.heap.size w1 w2) := Lib.hid (by rw [hw2]; exact below_alloc _ _)
    have HP2 := Lib.hid (HP1.out.below HB2.out)
    have hTC2 : TC w2 w1.heap.size (t.1.1 : Nat) (bs t.1.2.1) (t.1.2.2 : Nat) (t.2 : Nat) := by rw [hw2]; exact alloc_tc _ _ _ _ _ _
    have HTC2 := Lib.hid hTC2
    have HTC1 := Lib.hid (HTC.out.below HB2.out)
    have c02 := HP2.out.c0
    simp only [List.length_cons] at c02
    have cf02 := HP2.out.fz 0
    have hq9 : Hid (n = r.length + 1) := Lib.hid (by have := HN.out; omega)
    rw [← hq9.out] at c02
    obtain ⟨b1, hb1⟩ : ∃ b1, b1 = w1.heap.size := ⟨_, rfl⟩
    have HB1S := Lib.hid hb1
    rw [← hb1] at HTC2 ⊢
    clear hTC2 hw2 hb1 c0 c1 cf0 cf1 r0 r1 r2 r3 rf0 rf1 rf2 rf3 x0 x1 x2 x3
    go_upto_region 6 with fail
    obtain ⟨ad, had⟩ : ∃ ad, ad = (if c = 1 then some (⟨b, off, none⟩ : Addr) else some ⟨b, off + 4, none⟩) := ⟨_, rfl⟩
    rw [← had]
    have hps := HP2.out.setTail had
    have HAD : Hid (∀ x, ad = some x → x.block = b) := Lib.hid (fun x hx => by rw [had] at hx; split at hx <;> cases hx <;> rfl)
    rw [← HN.out] at hps
    obtain ⟨w3, hw3⟩ : ∃ w3, w3 = w2.setCell ⟨pb, 0, none⟩ (.slice ad (n - 1) (c - 1)) := ⟨_, rfl⟩
    rw [← hw3] at hps ⊢
    have HP3 := Lib.hid hps
    have HF3 : Hid (Fr (fun x => x = pb) w2 w3) := Lib.hid (by rw [hw3]; exact (Fr.refl (fun x => x = pb) w2).setCell (p := ⟨pb, 0, none⟩) rfl _)
    have hb1p : ¬ (b1 = pb) := by have h1 := HB1S.out; have h2 := HS1.out; have h3 := HPL.out; omega
    obtain ⟨r0, r1, r2, r3, rf⟩ := HTC1.out.fr HF3.out hne'
    have rf0 := rf 0
    have rf1 := rf 1
    have rf2 := rf 2
    have rf3 := rf 3
    obtain ⟨y0, y1, y2, y3, yf⟩ := HTC2.out.fr HF3.out hb1p
    clear hps hw3 had c02 cf02 rf yf
    go_wp2
    refine bodyPost_ret (v := .agg #[.int .i64 (t.1.1 : Nat), .string (bs t.1.2.1), .int .i64 (t.1.2.2 : Nat), .int .i64 (t.2 : Nat)]) (by simp [results, Try.results55, go_sem, r0, r1, r2, r3]; try rfl) rfl ⟨rfl, ⟨ad, c - 1, ?_⟩, ?_⟩
    · have h := HP3.out.fr (fr4 _ w.heap.size (.int .i64 (t.1.1 : Nat)) (.string (bs t.1.2.1)) (.int .i64 (t.1.2.2 : Nat)) (.int .i64 (t.2 : Nat))) hne (fun x hx h0 => by
        have h1 := HP.out.blk (x := ⟨b, off, none⟩) rfl (by simp)
        have h2 := HAD.out x hx
        rw [h2]; simp only at h1; omega)
      simpa using h
    · exact (((Fr.of_below (S := fun x => x = pb) (bthen HB1.out HB2.out)).trans HF3.out)).then (fr4 _ w.heap.size _ _ _ _) (fun i e => .inr (by omega))

theorem PS.trail {w w' pb ts bad} (h : TakePost w pb ts bad w') : ∃ a c, PS w' pb a c ts.tail (bad || ts.isEmpty) := h.1

set_option maxRecDepth 100000 in
set_option maxHeartbeats 1500000 in
/-- a sign is taken, or the parser goes bad -/
theorem expect_any (l : List Nat) (h8 : ∀ c ∈ l, c < 256) {w : World} {pb a c ts bad} (hp : PS w pb a c ts bad) :
    Calls Try.prog 69 #[.pointer (some ⟨pb, 0, none⟩), .string (bs l)] w fun e w' => e = .returned (.tuple #[]) ∧ (∃ a' c', PS w' pb a' c' (if isT 5 [l] ts then ts.tail else ts) (if isT 5 [l] ts then bad else true)) ∧ Fr (fun x => x = pb) w w' := by
  obtain ⟨w1, hw1⟩ : ∃ w1, w1 = w.alloc (.cells #[.string (bs l)] 9) := ⟨_, rfl⟩
  have HB1 : Hid (Below w.heap.size w w1) := Lib.hid (by rw [hw1]; exact below_alloc _ _)
  have HP1 := Lib.hid (hp.below HB1.out)
  have HAT := Lib.hid (at_any 5 [l] (by simpa using h8) (by omega) (by simp) w.heap.size 1 w1 (fun j hj => by
    simp at hj; subst hj; rw [hw1]; simp) HP1.out)
  simp only [List.length_cons, List.length_nil, Nat.zero_add] at HAT
  have HTK := Lib.hid (take_any HP1.out)
  have c1 := HP1.out.c1
  have cf1 := HP1.out.fz 1
  have HW1 := Lib.hid hw1
  clear hw1 hp h8
  cases hi : isT 5 [l] ts with
  | true =>
    rw [hi] at HAT
    have hie : ts.isEmpty = false := by cases ts with
      | nil => cases hi
      | cons t r => rfl
    simp only [TakePost, hie, Bool.or_false] at HTK
    clear hi hie
    go_enter Try.func69, Try.ntmps69
    go_wp2_with (first | (go_at_call 54; rw [← HW1.out]; refine HAT.out.mono ?_; rintro e w2 ⟨rfl, rfl⟩) | (go_at_call 55; refine HTK.out.mono ?_; rintro e w2 ⟨rfl, hps, hf⟩; have HPS := Lib.hid hps; have HF := Lib.hid hf; clear hps hf))
    refine bodyPost_end (v := .tuple #[]) (by simp [results, Try.results69, go_sem]; try rfl) rfl ?_
    exact ⟨rfl, by simpa using HPS.out, (Fr.of_below (S := fun x => x = pb) HB1.out).trans HF.out⟩
  | false =>
    rw [hi] at HAT
    clear hi
    go_enter Try.func69, Try.ntmps69
    go_wp2_with (first | (go_at_call 54; rw [← HW1.out]; refine HAT.out.mono ?_; rintro e w2 ⟨rfl, rfl⟩))
    refine bodyPost_ret (v := .tuple #[]) (by simp [results, Try.results69, go_sem]; try rfl) rfl ?_
    exact ⟨rfl, ⟨a, c, by simpa using HP1.out.setBad⟩, (Fr.of_below (S := fun x => x = pb) HB1.out).setCell (p := ⟨pb, 1, none⟩) rfl _⟩

set_option maxRecDepth 100000 in
set_option maxHeartbeats 1500000 in
theorem call_any (s : ByteArray) (a : Option Addr) (n c : Nat) (w : World) : Calls Try.prog 56 #[.string s, .slice a n c] w fun e w' => e = .returned (.agg #[.int .i64 4, .string s, .int .i64 0, .slice a n c]) ∧ Below w.heap.size w w' := by
  go_enter Try.func56, Try.ntmps56
  go_wp2
  exact bodyPost_ret (v := .agg #[.int .i64 4, .string s, .int .i64 0, .slice a n c]) (by simp [results, Try.results56, go_sem]; try rfl) rfl ⟨rfl, below_alloc _ _⟩

end Go.Proofs.Ytpabngicbfcdkaa
