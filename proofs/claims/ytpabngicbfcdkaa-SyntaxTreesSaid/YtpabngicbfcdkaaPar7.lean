/-
  The parser: arguments.
-/
import Derived.Test.YtpabngicbfcdkaaPar6
import Derived.Deep.RegionLaw
namespace Go.Proofs.Ytpabngicbfcdkaa
open Go.RowKit
set_option linter.unusedVariables false
set_option linter.unusedSimpArgs false

theorem EExpr : EltG Try.prog 36 38 (.agg #[.int .i64 0, .string ByteArray.empty, .int .i64 0, .slice none 0 0]) 4 56 := ⟨Try.underlying36, info_parts (by kernel_rfl), rfl, by decide⟩
theorem cellsX_snoc (L : List TV) (x : TV) : cellsX (L ++ [x]) = cellsX L ++ [.int .i64 x.1.kind, .string x.1.text, .int .i64 x.1.num, .slice x.2.1 x.1.args.length x.2.2] := by simp [cellsX]
/-- trees in a row -/
theorem rdA_row {T : Nat → Prop} {w : World} {B : Nat} {ty : TypeId} {a : Option Addr} {c : Nat} (L : List TV) (hr : Row w B ty 4 (.slice a L.length c) L.length (cellsX L)) (hT : ∀ g, (Value.slice a L.length c).ownBlock = some g → T g)
    (h : ∀ x ∈ L, x.1.args.length ≤ x.2.2 ∧ RdA T w x.1.args x.2.1) : RdA T w (L.map (·.1)) a := by
  by_cases h0 : L = []
  · subst h0; exact .inl rfl
  have hlen : 0 < L.length := List.length_pos_iff.2 h0
  have hr0 := hr
  rcases hr.2 with ⟨hv, hn⟩ | ⟨g, cap, cur, hv, hb, hg, rest⟩
  · omega
  · cases hv
    refine .inr ⟨g, 0, rfl, RdL.of_get fun i t ht => ?_⟩
    rw [List.getElem?_map] at ht
    obtain ⟨x, hx, rfl⟩ := Option.map_eq_some_iff.1 ht
    have hm := h x (List.mem_of_getElem? hx)
    have hi := (List.getElem?_eq_some_iff.1 hx).1
    have hcell : ∀ j, j < L.length * 4 → cur[j]? = (cellsX L)[j]? := fun j hj => by
      have h1 := World.ownsRow.cellAt hr0 j hj
      simp only [World.cell?, hg] at h1
      exact h1
    refine RdE.mk' (hT g rfl) (a := x.2.1) (c := x.2.2) ⟨cur, _, hg, ?_, ?_, ?_, ?_⟩ hm.1 hm.2
    all_goals rw [Nat.zero_add, hcell _ (by omega)]
    · have := cellsX_get L i 0 x hx (by omega); simpa using this
    · have := cellsX_get L i 1 x hx (by omega); simpa using this
    · have := cellsX_get L i 2 x hx (by omega); simpa using this
    · have := cellsX_get L i 3 x hx (by omega); simpa using this

def argsRes (name : List Nat) (ts : List Tk) : Res := if isT 5 [[40]] ts then (if isT 5 [[41]] ts.tail then some (callE name [], ts.tail.tail) else runJ (.args name [] ts.tail)) else none

/-- the walk of arguments between its rounds -/
structure CHA (w : World) (pb be : Nat) (name : List Nat) (all : Res) (ts : List Tk) (wr : World) (L : List TV) (ra : Option Addr) (rc : Nat) (ts' : List Tk) (bad' : Bool) : Prop where
  ps : ∃ a c, PS wr pb a c ts' bad'
  ec : EC wr be (callE name (L.map (·.1))) ra rc
  row : Row wr (be + 1) 38 4 (.slice ra L.length rc) L.length (cellsX L)
  tr : ∀ x ∈ L, x.1.args.length ≤ x.2.2 ∧ RdA (fun i => w.heap.size < i ∧ i ≠ be ∧ (Value.slice ra L.length rc).ownBlock ≠ some i) wr x.1.args x.2.1
  fr : Fr (fun x => x = pb) w wr
  so : Sofar all (runJ (.args name (L.map (·.1)) ts')) false bad' ts ts'
  ln : L.length + ts'.length ≤ ts.length
  tl : bad' = false → ts'.length ≤ ts.tail.length
theorem CHA.rd {w pb be name all ts wr L ra rc ts' bad'} (h : CHA w pb be name all ts wr L ra rc ts' bad') (hbe : w.heap.size < be) : RdA (fun i => w.heap.size < i ∧ i ≠ be) wr (callE name (L.map (·.1))).args ra := by
  refine rdA_row L h.row (fun g hg => ?_) (fun x hx => ⟨(h.tr x hx).1, (h.tr x hx).2.mono (fun i _ hi => ⟨hi.1, hi.2.1⟩)⟩)
  have := (Row.block_lt h.row hg).2
  exact ⟨by omega, by omega⟩

theorem cha_push {w wr w6 w7 : World} {pb be : Nat} {name : List Nat} {L : List TV} {ra a7 aa6 : Option Addr} {rc c7 cc6 : Nat} {t6 : Ex} {o : Obj}
    (ec : EC w6 be (callE name (L.map (·.1))) ra rc) (row : Row wr (be + 1) 38 4 (.slice ra L.length rc) L.length (cellsX L))
    (tr : ∀ x ∈ L, x.1.args.length ≤ x.2.2 ∧ RdA (fun i => w.heap.size < i ∧ i ≠ be ∧ (Value.slice ra L.length rc).ownBlock ≠ some i) wr x.1.args x.2.1)
    (fr : Fr (fun x => x = pb) w wr) (hpl : pb < w.heap.size) (hbe : w.heap.size < be) (hbw : be < wr.heap.size)
    (hf6 : Fr (fun x => x = pb) wr w6) (hcc6 : t6.args.length ≤ cc6) (hra6 : RdA (fun i => wr.heap.size ≤ i) w6 t6.args aa6)
    (hr7 : Row w7 (be + 1) 38 4 (.slice a7 (L.length + 1) c7) (L.length + 1) (cellsX L ++ [.int .i64 t6.kind, .string t6.text, .int .i64 t6.num, .slice aa6 t6.args.length cc6]))
    (hgf : Fr (fun x => (Value.slice ra L.length rc).ownBlock = some x) (w6.alloc o) w7) (hat : (Value.slice a7 (L.length + 1) c7).ownBlock = (Value.slice ra L.length rc).ownBlock ∨ (Value.slice a7 (L.length + 1) c7).ownBlock = some (w6.alloc o).heap.size) :
    EC (w7.setCell ⟨be, 3, none⟩ (.slice a7 (L.length + 1) c7)) be (callE name ((L ++ [(t6, aa6, cc6)]).map (·.1))) a7 c7 ∧
    Row (w7.setCell ⟨be, 3, none⟩ (.slice a7 (L.length + 1) c7)) (be + 1) 38 4 (.slice a7 (L ++ [(t6, aa6, cc6)]).length c7) (L ++ [(t6, aa6, cc6)]).length (cellsX (L ++ [(t6, aa6, cc6)])) ∧
    (∀ x ∈ L ++ [(t6, aa6, cc6)], x.1.args.length ≤ x.2.2 ∧ RdA (fun i => w.heap.size < i ∧ i ≠ be ∧ (Value.slice a7 (L ++ [(t6, aa6, cc6)]).length c7).ownBlock ≠ some i) (w7.setCell ⟨be, 3, none⟩ (.slice a7 (L.length + 1) c7)) x.1.args x.2.1) ∧
    Fr (fun x => x = pb) w (w7.setCell ⟨be, 3, none⟩ (.slice a7 (L.length + 1) c7)) ∧
    (∀ a c ts b, PS w6 pb a c ts b → PS (w7.setCell ⟨be, 3, none⟩ (.slice a7 (L.length + 1) c7)) pb a c ts b) ∧
    (EC w6 w.heap.size eE none 0 → EC (w7.setCell ⟨be, 3, none⟩ (.slice a7 (L.length + 1) c7)) w.heap.size eE none 0) := by
  have hob : ∀ g, (Value.slice ra L.length rc).ownBlock = some g → be < g ∧ g < wr.heap.size := fun g hg => by have := Row.block_lt row hg; omega
  have h6 := hf6.size
  have hsa : (w6.alloc o).heap.size = w6.heap.size + 1 := by simp
  have hs : Fr (fun x => x = be) w7 (w7.setCell ⟨be, 3, none⟩ (.slice a7 (L.length + 1) c7)) := (Fr.refl (fun x => x = be) w7).setCell (p := ⟨be, 3, none⟩) rfl _
  have hnb : ∀ g, (Value.slice a7 (L.length + 1) c7).ownBlock = some g → be < g := fun g hg => (by
    rcases hat with h | h
    · rw [h] at hg; exact (hob g hg).1
    · rw [h] at hg; cases hg; omega)
  have hlen : (L ++ [(t6, aa6, cc6)]).length = L.length + 1 := by simp
  have h67 : ∀ {b : Nat}, b < w6.heap.size → (Value.slice ra L.length rc).ownBlock ≠ some b → b ≠ be → True := fun _ _ _ => trivial
  have ec7 : EC w7 be (callE name (L.map (·.1))) ra rc := (ec.below (below_alloc w6 o)).fr hgf (fun e => by have := hob _ e; omega)
  have fwd : ∀ (us : List Ex) (a : Option Addr), RdA (fun i => w.heap.size < i ∧ i ≠ be ∧ (Value.slice ra L.length rc).ownBlock ≠ some i) w6 us a → RdA (fun i => w.heap.size < i ∧ i ≠ be ∧ (Value.slice a7 (L.length + 1) c7).ownBlock ≠ some i) (w7.setCell ⟨be, 3, none⟩ (.slice a7 (L.length + 1) c7)) us a := fun us a h => by
    have h1 : RdA (fun i => w.heap.size < i ∧ i ≠ be ∧ (Value.slice ra L.length rc).ownBlock ≠ some i ∧ i < w6.heap.size) w6 us a := h.mono (fun i hi hh => ⟨hh.1, hh.2.1, hh.2.2, hi⟩)
    have h2 := ((h1.below (below_alloc w6 o)).fr hgf (fun i hi e => hi.2.2.1 e)).fr hs (fun i hi e => hi.2.1 e)
    refine h2.mono (fun i _ hi => ⟨hi.1, hi.2.1, fun e => ?_⟩)
    rcases hat with h | h
    · rw [h] at e; exact hi.2.2.1 e
    · rw [h] at e; cases e; have := hi.2.2.2; omega
  refine ⟨⟨set_other (by simp) ec7.c0, set_other (by simp) ec7.c1, set_other (by simp) ec7.c2, ?_, fun j => by simp [ec7.fz j]⟩, ?_, fun x hx => ?_, ?_, fun a c ts b hp => ?_, fun hp => ?_⟩
  · have := set_same (v := .slice a7 (L.length + 1) c7) ec7.c3
    simpa [callE, Ex.args] using this
  · rw [hlen, cellsX_snoc]
    exact Row.fr hr7 hs (fun g hg e => by have := hnb g hg; omega)
  · rw [hlen]
    rcases List.mem_append.1 hx with hx | hx
    · exact ⟨(tr x hx).1, fwd _ _ ((tr x hx).2.fr hf6 (fun i hi e => by omega))⟩
    · rcases List.mem_cons.1 hx with rfl | hx
      · exact ⟨hcc6, fwd _ _ (hra6.mono (fun i hi hh => ⟨by omega, by omega, fun e => by have := hob i e; omega⟩))⟩
      · cases hx
  · refine (((fr.trans hf6).trans (.of_below (below_alloc w6 o))).then hgf (fun i e => .inr (by have := hob i e; omega))).then hs (fun i e => .inr (by omega))
  · refine ((hp.below (below_alloc w6 o)).fr hgf (fun e => by have := hob _ e; omega) (fun x hx _ e => by have h1 := hp.ap x hx; have := hob _ e; omega)).fr hs (by omega) (fun x hx _ e => by have h1 := hp.ap x hx; omega)
  · exact ((hp.below (below_alloc w6 o)).fr hgf (fun e => by have := hob _ e; omega)).fr hs (by omega)

set_option maxRecDepth 100000 in
set_option maxHeartbeats 3000000 in
theorem args_any (M : Nat) (H : Spec M) (name : List Nat) (w : World) (pb : Nat) (a : Option Addr) (c : Nat) (ts : List Tk) (hp : PS w pb a c ts false) (hM : (Job.args name [] ts.tail).wt ≤ M) :
    Calls Try.prog 71 #[.pointer (some ⟨pb, 0, none⟩), .string (bs name)] w (ParPost pb w (argsRes name ts) false ts) := by
  obtain ⟨w1, hw1⟩ : ∃ w1, w1 = w.alloc (.cells #[.int .i64 0, .string ⟨#[]⟩, .int .i64 0, .slice none 0 0] 38) := ⟨_, rfl⟩
  have HB1 : Hid (Below w.heap.size w w1) := Lib.hid (by rw [hw1]; exact below_alloc _ _)
  have HS1 : Hid (w1.heap.size = w.heap.size + 1) := Lib.hid (by rw [hw1]; simp)
  have HTC : Hid (EC w1 w.heap.size eE none 0) := Lib.hid (by rw [hw1]; exact alloc_ec w eE none 0 _)
  have HP1 := Lib.hid (hp.below HB1.out)
  have HCL := Lib.hid (call_any (bs name) none 0 0 w1)
  have HPL := Lib.hid hp.lt
  have HW1 := Lib.hid hw1
  have HM := Lib.hid hM
  have HQ : Hid (∀ (w : World) (a : Option Addr) (c : Nat) (ts' : List Tk) (bad : Bool), PS w pb a c ts' bad → ts'.length ≤ ts.tail.length → Calls Try.prog 22 #[.pointer (some ⟨pb, 0, none⟩)] w (ParPost pb w (runJ (.lev 1 ts')) bad ts')) := Lib.hid (fun w a c ts' bad h hl => H 1 (by omega) (by omega) w pb a c ts' bad h (by simp only [Job.wt] at *; omega))
  clear H hw1 hp hM
  go_enter Try.func71, Try.ntmps71
  go_upto_region 1 with fail
  rw [← HW1.out]
  go_upto_region 2 with (go_at_call 56; refine HCL.out.mono ?_; rintro e w2 ⟨rfl, hb2⟩)
  obtain ⟨w3, hw3⟩ : ∃ w3, w3 = w2.alloc (.cells #[.int .i64 4, .string (bs name), .int .i64 0, .slice none 0 0] 38) := ⟨_, rfl⟩
  rw [← hw3]
  have HB3 : Hid (Below w1.heap.size w1 w3) := Lib.hid (bthen hb2 (by rw [hw3]; exact below_alloc _ _))
  obtain ⟨be, hbe⟩ : ∃ be, be = w2.heap.size := ⟨_, rfl⟩
  have HEC3 : Hid (EC w3 be (callE name []) none 0) := Lib.hid (by rw [hw3, hbe]; exact alloc_ec w2 (callE name []) none 0 _)
  have HBE : Hid (w.heap.size < be) := Lib.hid (by have h1 := hb2.size; have h2 := HS1.out; omega)
  have HBEP : Hid (¬ (be = pb)) := Lib.hid (by have := HBE.out; have := HPL.out; omega)
  have HPS3 := Lib.hid (HP1.out.below HB3.out)
  have HTC3 := Lib.hid (HTC.out.below HB3.out)
  rw [← hbe]
  clear hw3 hbe hb2
  obtain ⟨ts4, hts4⟩ : ∃ x, x = (if isT 5 [[40]] ts then ts.tail else ts) := ⟨_, rfl⟩
  obtain ⟨bad4, hbad4⟩ : ∃ x, x = (if isT 5 [[40]] ts then false else true) := ⟨_, rfl⟩
  have HEX : Hid (Calls Try.prog 69 #[.pointer (some ⟨pb, 0, none⟩), .string ⟨#[40]⟩] w3 fun e w' => e = .returned (.tuple #[]) ∧ (∃ a' c', PS w' pb a' c' ts4 bad4) ∧ Fr (fun x => x = pb) w3 w') := Lib.hid (by rw [hts4, hbad4]; exact expect_any [40] (by simp) HPS3.out)
  have HL4 : Hid (ts4.length ≤ ts.length) := Lib.hid (by rw [hts4]; split <;> simp)
  have HT4 : Hid (bad4 = false → ts4 = ts.tail) := Lib.hid (fun h => by
    rw [hbad4] at h; rw [hts4]
    split at h
    · rename_i h1; rw [if_pos h1]
    · cases h)
  have HR4 : Hid (if bad4 = true then argsRes name ts = none else argsRes name ts = if isT 5 [[41]] ts4 then some (callE name [], ts4.tail) else runJ (.args name [] ts4)) := Lib.hid (by
    rw [hts4, hbad4]; unfold argsRes
    cases isT 5 [[40]] ts <;> simp)
  clear hts4 hbad4
  go_upto_region 3 with (go_at_call 69; refine HEX.out.mono ?_; rintro e9 w4 ⟨rfl, ⟨a4, c4, hps4⟩, hf4⟩; have HPS4 := Lib.hid hps4; have HF4 := Lib.hid hf4; clear hps4 hf4)
  have HEC4 := Lib.hid (HEC3.out.fr HF4.out HBEP.out)
  have HTC4 := Lib.hid (HTC3.out.fr HF4.out (by have := HPL.out; omega))
  have HFW4 : Hid (Fr (fun x => x = pb) w w4) := Lib.hid ((Fr.of_below (S := fun x => x = pb) (bthen HB1.out HB3.out)).trans HF4.out)
  obtain ⟨w5, hw5⟩ : ∃ w5, w5 = w4.alloc (.cells #[.string ⟨#[41]⟩] 9) := ⟨_, rfl⟩
  have HB5 : Hid (Below w4.heap.size w4 w5) := Lib.hid (by rw [hw5]; exact below_alloc _ _)
  have HPS5 := Lib.hid (HPS4.out.below HB5.out)
  have HAT : Hid (Calls Try.prog 54 #[.pointer (some ⟨pb, 0, none⟩), .int .i64 5, .slice (some ⟨w4.heap.size, 0, none⟩) 1 1] w5 fun e w' => e = .returned (.bool (isT 5 [[41]] ts4)) ∧ w5 = w') := Lib.hid (at_any 5 [[41]] (by simp) (by omega) (by simp) w4.heap.size 1 w5 (fun j hj => by
    have hj : j < 1 := hj
    rw [hw5]
    match j, hj with
    | 0, _ => simp; rfl) HPS5.out)
  have HW5 := Lib.hid hw5
  have HEC5 := Lib.hid (HEC4.out.below HB5.out)
  have HTC5 := Lib.hid (HTC4.out.below HB5.out)
  have HFW5 : Hid (Fr (fun x => x = pb) w w5) := Lib.hid (HFW4.out.trans (.of_below HB5.out))
  clear hw5
  cases hi : isT 5 [[41]] ts4 with
  | true =>
    rw [hi] at HAT
    have HR5 : Hid (if bad4 = true then argsRes name ts = none else argsRes name ts = some (callE name [], ts4.tail)) := Lib.hid (by have := HR4.out; rw [hi] at this; exact this)
    obtain ⟨hie, htl⟩ := isT_tail hi
    have HTK := Lib.hid (take_any HPS5.out)
    simp only [TakePost, hie, Bool.or_false] at HTK
    have HTL := Lib.hid htl
    clear hi hie htl
    go_upto_region 5 with (first
      | (go_at_call 54; rw [← HW5.out]; refine HAT.out.mono ?_; rintro e9 w9 ⟨rfl, rfl⟩)
      | (go_at_call 55; refine HTK.out.mono ?_; rintro e9 w6 ⟨rfl, ⟨a6, c6, hps6⟩, hf6⟩; have HPS6 := Lib.hid hps6; have HF6 := Lib.hid hf6; clear hps6 hf6))
    obtain ⟨x0, x1, x2, x3, xf⟩ := HEC5.out.fr HF6.out HBEP.out
    change w6.cell? ⟨be, 0, none⟩ = some (.int .i64 4) at x0
    change w6.cell? ⟨be, 1, none⟩ = some (.string (bs name)) at x1
    change w6.cell? ⟨be, 2, none⟩ = some (.int .i64 0) at x2
    change w6.cell? ⟨be, 3, none⟩ = some (.slice none 0 0) at x3
    obtain ⟨y0, y1, y2, y3, yf⟩ := HTC5.out.fr HF6.out (by have := HPL.out; omega)
    have yf0 := yf 0
    have yf1 := yf 1
    have yf2 := yf 2
    have yf3 := yf 3
    clear xf yf
    go_wp2
    exact bodyPost_ret (v := .agg #[.int .i64 4, .string (bs name), .int .i64 0, .slice none 0 0]) (by simp [results, Try.results71, go_sem, y0, y1, y2, y3]; try rfl) rfl (fin_par (be := be) (e := callE name []) HPS6.out (by simp [callE, Ex.args]) (.inl rfl) (HFW5.out.trans HF6.out) ⟨by have := HTL.out; have := HL4.out; omega, (fun h => by cases h), fun _ => HR5.out⟩ (fun _ => rfl) (fr4 w6 w.heap.size (.int .i64 4) (.string (bs name)) (.int .i64 0) (.slice none 0 0)) HPL.out)
  | false =>
    rw [hi] at HAT
    have HCH : Hid (CHA w pb be name (argsRes name ts) ts w5 [] none 0 ts4 bad4) := Lib.hid ⟨⟨_, _, HPS5.out⟩, HEC5.out, World.ownsRow_nil _ _ _ _, (fun x hx => by cases hx), HFW5.out, ⟨HL4.out, (fun h => by cases h), fun _ => by have := HR4.out; rw [hi] at this; exact this⟩, by have := HL4.out; simpa using this, fun h => by rw [HT4.out h]; omega⟩
    clear hi
    go_wp2_with (go_at_call 54; rw [← HW5.out]; refine HAT.out.mono ?_; rintro e9 w9 ⟨rfl, rfl⟩)
    go_loopg [16] (ts.length + 1) (fun gg nv wr => ∃ (L : List TV) (ra : Option Addr) (rc : Nat) (ts' : List Tk) (bad' : Bool), ts'.length + 1 ≤ gg ∧ CHA w pb be name (argsRes name ts) ts wr L ra rc ts' bad' ∧ EC wr w.heap.size eE none 0)
    case atStart => exact ⟨[], none, 0, ts4, bad4, by have := HL4.out; omega, HCH.out, HTC5.out⟩
    case round =>
      clear HCH HTC5 HEC5 HFW5 HPS5 HAT HW5 HB5 HFW4 HTC4 HEC4 HPS4 HF4 HR4 HT4 HL4 HEX
      obtain ⟨L, ra, rc, ts', bad', hgg, hch, htc⟩ := hrel
      obtain ⟨a', c', hps⟩ := hch.ps
      have HGQ := Lib.hid hgg
      have HCH := Lib.hid hch
      have HTCR := Lib.hid htc
      have HPS := Lib.hid hps
      have c1 := hps.c1
      clear hgg hps htc hch
      cases hbd : bad' with
      | true =>
        subst hbd
        obtain ⟨tsX, htsX⟩ : ∃ x, x = (if isT 5 [[41]] ts' then ts'.tail else ts') := ⟨_, rfl⟩
        have HLX : Hid (tsX.length ≤ ts.length) := Lib.hid (by have h1 := HCH.out.ln; have h2 : tsX.length ≤ ts'.length := by rw [htsX]; split <;> simp
                                                               omega)
        have HEX : Hid (Calls Try.prog 69 #[.pointer (some ⟨pb, 0, none⟩), .string ⟨#[41]⟩] wr fun e w' => e = .returned (.tuple #[]) ∧ (∃ a' c', PS w' pb a' c' tsX true) ∧ Fr (fun x => x = pb) wr w') := Lib.hid (by
          have h := expect_any [41] (by simp) HPS.out
          rw [← htsX, ite_self] at h
          exact h)
        have HNO : Hid (argsRes name ts = none) := Lib.hid (by have := HCH.out.so.2.2 rfl; simpa using this)
        obtain ⟨E, hE⟩ : ∃ E, E = callE name (L.map (·.1)) := ⟨_, rfl⟩
        have HEE := Lib.hid hE
        clear htsX hE
        go_upto_region 11 with (go_at_call 69; refine HEX.out.mono ?_; rintro e9 w9 ⟨rfl, ⟨a9, c9, hps9⟩, hf9⟩; have HPS9 := Lib.hid hps9; have HF9 := Lib.hid hf9; clear hps9 hf9)
        have HEC9 : Hid (EC w9 be E ra rc) := Lib.hid (by rw [HEE.out]; exact HCH.out.ec.fr HF9.out HBEP.out)
        obtain ⟨x0, x1, x2, x3, xf⟩ := HEC9.out
        obtain ⟨y0, y1, y2, y3, yf⟩ := HTCR.out.fr HF9.out (by have := HPL.out; omega)
        have yf0 := yf 0
        have yf1 := yf 1
        have yf2 := yf 2
        have yf3 := yf 3
        clear xf yf c1
        go_wp2
        exact bodyPost_ret (v := .agg #[.int .i64 E.kind, .string E.text, .int .i64 E.num, .slice ra E.args.length rc]) (by simp [results, Try.results71, go_sem, y0, y1, y2, y3]; try rfl) rfl (fin_par (be := be) (e := E) (rest := none) HPS9.out (by rw [HEE.out]; simp only [callE, Ex.args, List.length_map]; exact Row.cap HCH.out.row) (by rw [HEE.out]; exact (HCH.out.rd HBE.out).fr HF9.out (fun i hi e => by have := HPL.out; omega)) (HCH.out.fr.trans HF9.out) ⟨HLX.out, (fun h => by cases h), fun _ => by rw [if_pos rfl]; exact HNO.out⟩ (fun h => by cases h) (fr4 w9 w.heap.size (.int .i64 E.kind) (.string E.text) (.int .i64 E.num) (.slice ra E.args.length rc)) HPL.out)
      | false =>
        subst hbd
        have HROW := Lib.hid HCH.out.row
        have hx3 : wr.cell? ⟨be, 3, none⟩ = some (.slice ra L.length rc) := by have := HCH.out.ec.c3; simpa [callE, Ex.args] using this
        have HX3 := Lib.hid hx3
        have HROWB : Hid (∀ g, (Value.slice ra L.length rc).ownBlock = some g → be < g) := Lib.hid (fun g hg => by have := (Row.block_lt HCH.out.row hg).2; omega)
        have HTL := Lib.hid (HCH.out.tl rfl)
        have HC6 := Lib.hid (HQ.out wr.drew a' c' ts' false HPS.out.drew HTL.out)
        have HLN := Lib.hid HCH.out.ln
        have HTSL : Hid (ts.length ≤ 1000000) := Lib.hid (by have h1 := HP1.out.hc; have h2 := HP1.out.lim; omega)
        have HBW : Hid (be < wr.heap.size) := Lib.hid HCH.out.ec.lt
        have hx3d : wr.drew.cell? ⟨be, 3, none⟩ = some (.slice ra L.length rc) := hx3
        go_wp2
        clear hx3
        go_region_law (first
          | (refine step_app_row_at (.tmp 22) (.tmp 25) EExpr rfl rfl (be + 1) (.slice ra L.length rc) L.length (cellsX L) rfl (Row.below HROW6.out (below_alloc w6 _)) (some ⟨_, 0, none⟩) 1 1 [.int .i64 t6.kind, .string t6.text, .int .i64 t6.num, .slice aa6 t6.args.length cc6] rfl (RdG.lits w6 4 38 1 [.int .i64 t6.kind, .string t6.text, .int .i64 t6.num, .slice aa6 t6.args.length cc6] rfl) (by simp [Value.oneCell']) (by have := HLN.out; have := HTSL.out; omega) (by decide) (by have := HBW.out; have := HW6.out; simp; omega) ?_; intro a7 c7 w7 hr7 hg7 hat7; have HR7 := Lib.hid hr7; have HG7 := Lib.hid hg7; have HAT7 := Lib.hid hat7; have HGF7 : Hid (Fr (fun x => (Value.slice ra L.length rc).ownBlock = some x) (w6.alloc (.cells #[.int .i64 t6.kind, .string t6.text, .int .i64 t6.num, .slice aa6 t6.args.length cc6] 38)) w7) := Lib.hid (Fr.of_grown hg7 (fun k hk => hk)); have HEC7 := Lib.hid ((HEC6.out.below (below_alloc _ _)).fr HGF7.out (fun e => by have := HROWB.out _ e; omega)); have p3 := HEC7.out.c3; have pf3 := HEC7.out.fz 3; clear hr7 hg7 hat7)
          | (go_simp; go_at_call 22; refine HC6.out.mono ?_; rintro e9 w6 ⟨t6, v6, a6, c6, ts6, bad6, rfl, ⟨aa6, cc6, rfl, hcc6, hra6⟩, hps6, hlen6, hf6, hb6, hb6'⟩; simp only [exV]; have HF6 : Hid (Fr (fun x => x = pb) wr w6) := Lib.hid ((Fr.refl (fun x => x = pb) wr).drew.trans hf6); have HEC6 := Lib.hid (HCH.out.ec.fr HF6.out HBEP.out); have HW6 := Lib.hid HF6.out.size; have HROW6 := Lib.hid (HROW.out.fr HF6.out (fun g hg e => by have h1 := HROWB.out g hg; have h2 := HBE.out; have h3 := HPL.out; omega)); have hx36 : w6.cell? ⟨be, 3, none⟩ = some (.slice ra L.length rc) := HF6.out.cell HX3.out HBEP.out; have hx3a : (w6.alloc (.cells #[.int .i64 t6.kind, .string t6.text, .int .i64 t6.num, .slice aa6 t6.args.length cc6] 38)).cell? ⟨be, 3, none⟩ = some (.slice ra L.length rc) := below_cell (below_alloc _ _) hx36))
        all_goals
          have hpush := cha_push HEC6.out HROW.out HCH.out.tr HCH.out.fr HPL.out HBE.out HBW.out HF6.out hcc6 (hra6.mono (fun i _ hi => hi)) HR7.out HGF7.out HAT7.out
          obtain ⟨wA, hwA⟩ : ∃ wA, wA = w7.setCell ⟨be, 3, none⟩ (.slice a7 (L.length + 1) c7) := ⟨_, rfl⟩
          rw [← hwA] at hpush ⊢
          obtain ⟨hecA, hrowA, htrA, hfrA, hpsA, htcA⟩ := hpush
          have HECA := Lib.hid hecA
          have HROWA := Lib.hid hrowA
          have HTRA := Lib.hid htrA
          have HFRA := Lib.hid hfrA
          have HPSA := Lib.hid (hpsA _ _ _ _ hps6)
          have HTCA := Lib.hid (htcA (HTCR.out.fr HF6.out (by have := HPL.out; omega)))
          have HL6 := Lib.hid hlen6
          have HK6 := Lib.hid (hb6' (by first | rfl | trivial))
          have HSO := Lib.hid HCH.out.so
          clear hwA hecA hrowA htrA hfrA hpsA htcA hps6 hlen6 hb6 hb6' hf6 hra6 hcc6 hx3d hx36 hx3a p3 pf3
          obtain ⟨L', hL'⟩ : ∃ L', L' = L ++ [(t6, aa6, cc6)] := ⟨_, rfl⟩
          have HLL : Hid (L'.length = L.length + 1) := Lib.hid (by rw [hL']; simp)
          have HS7 : Hid (if bad6 = true then argsRes name ts = none else argsRes name ts = if isT 5 [[44]] ts6 then runJ (.args name (L'.map (·.1)) ts6.tail) else if isT 5 [[41]] ts6 then some (callE name (L'.map (·.1)), ts6.tail) else none) := Lib.hid (by
            have h1 := HSO.out.2.2 rfl
            rw [if_neg (by simp), runJ_args] at h1
            unfold argsJ at h1
            have h2 := HK6.out
            split at h2
            · rename_i hx; rw [if_pos hx, h1, h2]; rfl
            · rename_i hx; rw [if_neg hx, h1, h2, hL']; simp only [Option.bind_some, List.map_append, List.map_cons, List.map_nil])
          rw [← hL'] at HECA HROWA HTRA
          clear hL'
          obtain ⟨wB, hwB⟩ : ∃ wB, wB = wA.alloc (.cells #[.string ⟨#[44]⟩] 9) := ⟨_, rfl⟩
          have HBB : Hid (Below wA.heap.size wA wB) := Lib.hid (by rw [hwB]; exact below_alloc _ _)
          have HPSB := Lib.hid (HPSA.out.below HBB.out)
          have HATB : Hid (Calls Try.prog 54 #[.pointer (some ⟨pb, 0, none⟩), .int .i64 5, .slice (some ⟨wA.heap.size, 0, none⟩) 1 1] wB fun e w' => e = .returned (.bool (isT 5 [[44]] ts6)) ∧ wB = w') := Lib.hid (at_any 5 [[44]] (by simp) (by omega) (by simp) wA.heap.size 1 wB (fun j hj => by
            have hj : j < 1 := hj
            rw [hwB]
            match j, hj with
            | 0, _ => simp; rfl) HPSB.out)
          have HWB := Lib.hid hwB
          clear hwB
          have HRDA : Hid (RdA (fun i => w.heap.size < i ∧ i ≠ be) wA (L'.map (·.1)) a7) := Lib.hid (rdA_row L' HROWA.out (fun g hg => by have := (Row.block_lt HROWA.out hg).2; have := HBE.out; exact ⟨by omega, by omega⟩) (fun x hx => ⟨(HTRA.out x hx).1, (HTRA.out x hx).2.mono (fun i _ hi => ⟨hi.1, hi.2.1⟩)⟩))
          cases hi : isT 5 [[44]] ts6 with
          | true =>
            rw [hi] at HATB
            have HS8 : Hid (if bad6 = true then argsRes name ts = none else argsRes name ts = runJ (.args name (L'.map (·.1)) ts6.tail)) := Lib.hid (by have := HS7.out; rw [hi] at this; exact this)
            obtain ⟨hie, htl⟩ := isT_tail hi
            have HTK := Lib.hid (take_any HPSB.out)
            simp only [TakePost, hie, Bool.or_false] at HTK
            have HT6 := Lib.hid htl
            clear hi hie htl
            go_wp2_with (first
              | (go_at_call 54; rw [← HWB.out]; refine HATB.out.mono ?_; rintro e9 w9 ⟨rfl, rfl⟩)
              | (go_at_call 55; refine HTK.out.mono ?_; rintro e9 wC ⟨rfl, hpsC, hfC⟩; have HPSC := Lib.hid hpsC; have HFC := Lib.hid hfC; clear hpsC hfC))
            go_roundg (ts6.length)
            case measure => have h1 := HGQ.out; have h2 := HL6.out; omega
            case rel =>
              have hts := HT6.out
              have h6 := HL6.out
              have hll := HLL.out
              have hln := HLN.out
              have htl := HTL.out
              exact ⟨L', a7, c7, ts6.tail, bad6, by omega, ⟨HPSC.out, (HECA.out.below HBB.out).fr HFC.out HBEP.out, Row.fr (Row.below HROWA.out HBB.out) HFC.out (fun g hg e => by have := (Row.block_lt HROWA.out hg).2; have := HBE.out; have := HPL.out; omega), fun x hx => ⟨(HTRA.out x hx).1, ((HTRA.out x hx).2.below HBB.out).fr HFC.out (fun i hi e => by have := HPL.out; omega)⟩, (HFRA.out.trans (.of_below HBB.out)).trans HFC.out, ⟨by omega, (fun h => by cases h), fun _ => HS8.out⟩, by omega, fun _ => by omega⟩, (HTCA.out.below HBB.out).fr HFC.out (by have := HPL.out; omega)⟩
          | false =>
            rw [hi] at HATB
            obtain ⟨tsX, htsX⟩ : ∃ x, x = (if isT 5 [[41]] ts6 then ts6.tail else ts6) := ⟨_, rfl⟩
            obtain ⟨badX, hbadX⟩ : ∃ x, x = (if isT 5 [[41]] ts6 then bad6 else true) := ⟨_, rfl⟩
            have HLX : Hid (tsX.length ≤ ts.length) := Lib.hid (by
              have h1 := HLN.out
              have h2 := HL6.out
              have h3 : tsX.length ≤ ts6.length := by rw [htsX]; split <;> simp
              omega)
            have HEX : Hid (Calls Try.prog 69 #[.pointer (some ⟨pb, 0, none⟩), .string ⟨#[41]⟩] wB fun e w' => e = .returned (.tuple #[]) ∧ (∃ a' c', PS w' pb a' c' tsX badX) ∧ Fr (fun x => x = pb) wB w') := Lib.hid (by rw [htsX, hbadX]; exact expect_any [41] (by simp) HPSB.out)
            have HNO : Hid (if badX = true then argsRes name ts = none else argsRes name ts = some (callE name (L'.map (·.1)), tsX)) := Lib.hid (by
              have h := HS7.out
              rw [hi] at h
              rw [htsX, hbadX]
              cases hx : isT 5 [[41]] ts6 with
              | true =>
                rw [hx] at h
                simpa using h
              | false =>
                rw [hx] at h
                simp only [Bool.false_eq_true, if_false, if_true] at h ⊢
                split at h <;> exact h)
            obtain ⟨E, hE⟩ : ∃ E, E = callE name (L'.map (·.1)) := ⟨_, rfl⟩
            have HEE := Lib.hid hE
            clear htsX hbadX hE hi
            go_upto_region 11 with (first
              | (go_at_call 54; rw [← HWB.out]; refine HATB.out.mono ?_; rintro e9 w9 ⟨rfl, rfl⟩)
              | (go_at_call 69; refine HEX.out.mono ?_; rintro e9 w9 ⟨rfl, ⟨a9, c9, hps9⟩, hf9⟩; have HPS9 := Lib.hid hps9; have HF9 := Lib.hid hf9; clear hps9 hf9))
            have HEC9 : Hid (EC w9 be E a7 c7) := Lib.hid (by rw [HEE.out]; exact (HECA.out.below HBB.out).fr HF9.out HBEP.out)
            obtain ⟨x0, x1, x2, x3, xf⟩ := HEC9.out
            obtain ⟨y0, y1, y2, y3, yf⟩ := (HTCA.out.below HBB.out).fr HF9.out (by have := HPL.out; omega)
            have yf0 := yf 0
            have yf1 := yf 1
            have yf2 := yf 2
            have yf3 := yf 3
            clear xf yf c1
            go_wp2
            exact bodyPost_ret (v := .agg #[.int .i64 E.kind, .string E.text, .int .i64 E.num, .slice a7 E.args.length c7]) (by simp [results, Try.results71, go_sem, y0, y1, y2, y3]; try rfl) rfl (fin_par (be := be) (e := E) (rest := some (E, tsX)) HPS9.out (by rw [HEE.out]; simp only [callE, Ex.args, List.length_map]; exact Row.cap HROWA.out) (by rw [HEE.out]; exact (HRDA.out.below HBB.out).fr HF9.out (fun i hi e => by have := HPL.out; omega)) ((HFRA.out.trans (.of_below HBB.out)).trans HF9.out) ⟨HLX.out, (fun h => by cases h), fun _ => by rw [HEE.out]; exact HNO.out⟩ (fun _ => rfl) (fr4 w9 w.heap.size (.int .i64 E.kind) (.string E.text) (.int .i64 E.num) (.slice a7 E.args.length c7)) HPL.out)

end Go.Proofs.Ytpabngicbfcdkaa
