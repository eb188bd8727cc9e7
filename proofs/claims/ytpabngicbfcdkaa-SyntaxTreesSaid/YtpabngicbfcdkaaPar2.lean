/-
  The parser: chain.
-/
import Derived.Test.YtpabngicbfcdkaaPar1
import Derived.Deep.RegionWith
namespace Go.Proofs.Ytpabngicbfcdkaa
open Go.RowKit
set_option linter.unusedVariables false
set_option linter.unusedSimpArgs false

/-- a tree by value, its arguments in blocks from B on -/
def RE (B : Nat) (w : World) (t : Ex) (v : Value) : Prop := ∃ a c, v = exV t a c ∧ t.args.length ≤ c ∧ RdA (fun i => B ≤ i) w t.args a
theorem RE.fr {B pb : Nat} {w w' t v} (h : RE B w t v) (hf : Fr (fun x => x = pb) w w') (hB : pb < B) : RE B w' t v := by
  obtain ⟨a, c, h1, h2, h3⟩ := h
  exact ⟨a, c, h1, h2, h3.fr hf (fun i hi e => by omega)⟩
theorem RE.mono {B B' : Nat} {w t v} (h : RE B w t v) (hB : B' ≤ B) : RE B' w t v := by
  obtain ⟨a, c, h1, h2, h3⟩ := h
  exact ⟨a, c, h1, h2, h3.mono (fun i _ hi => by omega)⟩
/-- how a part of the parser ends -/
def ParPost (pb : Nat) (w : World) (res : Res) (bad : Bool) (ts : List Tk) (e : Ending) (w' : World) : Prop :=
  ∃ t v a c ts' bad', e = .returned v ∧ RE w.heap.size w' t v ∧ PS w' pb a c ts' bad' ∧ ts'.length ≤ ts.length ∧ Fr (fun x => x = pb) w w' ∧ (bad = true → bad' = true) ∧ (bad = false → if bad' = true then res = none else res = some (t, ts'))
/-- the program's functions, by level -/
def FN : Nat → Nat
  | 1 => 22
  | 2 => 41
  | 3 => 57
  | 4 => 62
  | 5 => 64
  | 6 => 65
  | 7 => 66
  | 8 => 67
  | _ => 68
def Spec (M : Nat) : Prop := ∀ (n : Nat), 1 ≤ n → n ≤ 9 → ∀ (w : World) (pb : Nat) (a : Option Addr) (c : Nat) (ts : List Tk) (bad : Bool), PS w pb a c ts bad → (Job.lev n ts).wt < M → Calls Try.prog (FN n) #[.pointer (some ⟨pb, 0, none⟩)] w (ParPost pb w (runJ (.lev n ts)) bad ts)

/-- trees by value, one behind the other -/
abbrev TV := Ex × Option Addr × Nat
def cellsX (L : List TV) : List Value := L.flatMap fun x => [.int .i64 x.1.kind, .string x.1.text, .int .i64 x.1.num, .slice x.2.1 x.1.args.length x.2.2]
theorem cellsX_len (L : List TV) : (cellsX L).length = L.length * 4 := by
  induction L with
  | nil => rfl
  | cons x r ih => simp only [cellsX, List.flatMap_cons, List.length_append, List.length_cons, List.length_nil] at *; omega
theorem cellsX_get : ∀ (L : List TV) (i j : Nat) (x : TV), L[i]? = some x → j < 4 → (cellsX L)[4 * i + j]? = [Value.int .i64 x.1.kind, .string x.1.text, .int .i64 x.1.num, .slice x.2.1 x.1.args.length x.2.2][j]?
  | y :: r, 0, j, x, h, hj => by
    simp at h; subst h
    simp only [cellsX, List.flatMap_cons, Nat.mul_zero, Nat.zero_add]
    rw [List.getElem?_append_left (by simpa using hj)]
  | y :: r, i + 1, j, x, h, hj => by
    simp only [cellsX, List.flatMap_cons]
    rw [List.getElem?_append_right (by simp; omega)]
    have := cellsX_get r i j x (by simpa using h) hj
    rw [← this]
    simp only [cellsX, List.length_cons, List.length_nil]
    congr 1
    omega
/-- trees in a block of their own -/
theorem rdA_block {T : Nat → Prop} {w : World} {g : Nat} {ty : TypeId} {cs : Array Value} (L : List TV) (hb : w.heap[g]? = some (.cells cs ty (0, 0))) (hc : cs.toList = cellsX L) (hT : T g)
    (h : ∀ x ∈ L, x.1.args.length ≤ x.2.2 ∧ RdA T w x.1.args x.2.1) : RdA T w (L.map (·.1)) (some ⟨g, 0, none⟩) := by
  refine .inr ⟨g, 0, rfl, RdL.of_get fun i t ht => ?_⟩
  rw [List.getElem?_map] at ht
  obtain ⟨x, hx, rfl⟩ := Option.map_eq_some_iff.1 ht
  have hm := h x (List.mem_of_getElem? hx)
  refine RdE.mk' hT (a := x.2.1) (c := x.2.2) ⟨cs, ty, hb, ?_, ?_, ?_, ?_⟩ hm.1 hm.2
  all_goals rw [← Array.getElem?_toList, hc, Nat.zero_add]
  · have := cellsX_get L i 0 x hx (by omega); simpa using this
  · have := cellsX_get L i 1 x hx (by omega); simpa using this
  · have := cellsX_get L i 2 x hx (by omega); simpa using this
  · have := cellsX_get L i 3 x hx (by omega); simpa using this
/-- the four cells of a tree's value -/
structure EC (w : World) (g : Nat) (t : Ex) (a : Option Addr) (c : Nat) : Prop where
  c0 : w.cell? ⟨g, 0, none⟩ = some (.int .i64 t.kind)
  c1 : w.cell? ⟨g, 1, none⟩ = some (.string t.text)
  c2 : w.cell? ⟨g, 2, none⟩ = some (.int .i64 t.num)
  c3 : w.cell? ⟨g, 3, none⟩ = some (.slice a t.args.length c)
  fz : ∀ j, w.frozen? ⟨g, j, none⟩ = false
theorem EC.lt {w : World} {g t a c} (h : EC w g t a c) : g < w.heap.size := World.block_lt_of_cell? w _ h.c0
theorem EC.fr {w w' : World} {F : Nat → Prop} {g t a c} (h : EC w g t a c) (hf : Fr F w w') (hF : ¬ F g) : EC w' g t a c :=
  ⟨hf.cell h.c0 hF, hf.cell h.c1 hF, hf.cell h.c2 hF, hf.cell h.c3 hF, fun j => (hf.frozen h.lt hF).trans (h.fz j)⟩
theorem EC.below {w w' : World} {g t a c} (h : EC w g t a c) (hb : Below w.heap.size w w') : EC w' g t a c := h.fr (.of_below (S := fun _ => False) hb) (fun h => h)
theorem alloc_ec (w : World) (t : Ex) (a : Option Addr) (c : Nat) (A : TypeId) : EC (w.alloc (.cells #[.int .i64 t.kind, .string t.text, .int .i64 t.num, .slice a t.args.length c] A)) w.heap.size t a c := ⟨by simp, by simp, by simp, by simp, fun j => by simp⟩
theorem set_ec {w : World} {g t a c} (h : EC w g t a c) (t' : Ex) (a' : Option Addr) (c' : Nat) : EC ((((w.setCell ⟨g, 0, none⟩ (.int .i64 t'.kind)).setCell ⟨g, 1, none⟩ (.string t'.text)).setCell ⟨g, 2, none⟩ (.int .i64 t'.num)).setCell ⟨g, 3, none⟩ (.slice a' t'.args.length c')) g t' a' c' := by
  have n1 : ∀ {i j : Nat}, i ≠ j → (⟨g, i, none⟩ : Addr) ≠ ⟨g, j, none⟩ := fun h e => h (by cases e; rfl)
  refine ⟨?_, ?_, ?_, ?_, fun j => ?_⟩
  · exact set_other (n1 (by omega)) (set_other (n1 (by omega)) (set_other (n1 (by omega)) (set_same h.c0)))
  · exact set_other (n1 (by omega)) (set_other (n1 (by omega)) (set_same (set_other (n1 (by omega)) h.c1)))
  · exact set_other (n1 (by omega)) (set_same (set_other (n1 (by omega)) (set_other (n1 (by omega)) h.c2)))
  · exact set_same (set_other (n1 (by omega)) (set_other (n1 (by omega)) (set_other (n1 (by omega)) h.c3)))
  · simp [h.fz j]

/-- what has been read so far, against the whole -/
def Sofar (all rest : Res) (bad bad' : Bool) (ts ts' : List Tk) : Prop := ts'.length ≤ ts.length ∧ (bad = true → bad' = true) ∧ (bad = false → if bad' = true then all = none else all = rest)

/-- the walk of chain between its rounds -/
def CH (n : Nat) (w : World) (pb be lb : Nat) (all : Res) (bad : Bool) (ts : List Tk) (wr : World) (e : Ex) (ts' : List Tk) (bad' : Bool) : Prop :=
  (∃ a c, PS wr pb a c ts' bad') ∧ (∃ aa cc, EC wr be e aa cc ∧ e.args.length ≤ cc ∧ RdA (fun i => w.heap.size < i ∧ i ≠ be) wr e.args aa) ∧
  (∀ j, j < (lvlO n).length → wr.cell? ⟨lb, j, none⟩ = some (.string (((lvlO n).map bs).getD j ByteArray.empty))) ∧ Fr (fun x => x = pb) w wr ∧
  Sofar all (runJ (.loop n e ts')) bad bad' ts ts'

theorem PS.drew {w pb a c ts bad} (h : PS w pb a c ts bad) : PS w.drew pb a c ts bad := ⟨h.c0, h.c1, h.fz, ⟨h.rd.len, h.rd.cell⟩, h.ap, h.hc, h.lim, h.by8, h.sz⟩
theorem EC.drew {w : World} {g t a c} (h : EC w g t a c) : EC w.drew g t a c := ⟨h.c0, h.c1, h.c2, h.c3, h.fz⟩
theorem fld1 (k : Int) (s : ByteArray) (n a : Int) (w : World) : (Instr.field 33 (.agg #[.int .i64 k, .string s, .int .i64 n, .int .i64 a]) 1).run Try.prog w = .ok (.string s) w := by kernel_rfl
/-- the end of a part whose result cell is the first block -/
theorem fin_par {w wr wf : World} {pb be : Nat} {all rest : Res} {bad bad' : Bool} {ts ts' : List Tk} {e : Ex} {a aa : Option Addr} {c cc : Nat} (hps : PS wr pb a c ts' bad') (hcc : e.args.length ≤ cc) (hra : RdA (fun i => w.heap.size < i ∧ i ≠ be) wr e.args aa)
    (hfr : Fr (fun x => x = pb) w wr) (hso : Sofar all rest bad bad' ts ts') (hend : bad' = false → rest = some (e, ts')) (hf : Fr (fun x => x = w.heap.size) wr wf) (hpl : pb < w.heap.size) : ParPost pb w all bad ts (.returned (exV e aa cc)) wf := by
  refine ⟨e, _, a, c, ts', bad', rfl, ⟨aa, cc, rfl, hcc, (hra.fr hf (fun i hi e => by omega)).mono (fun i _ hi => by omega)⟩, hps.fr hf (by omega) (fun x hx _ e => by have := hps.ap x hx; omega), hso.1, hfr.then hf (fun i e => .inr (by omega)), hso.2.1, fun hb => ?_⟩
  have h := hso.2.2 hb
  split at h
  · rename_i hx; rw [if_pos hx]; exact h
  · rename_i hx
    rw [if_neg hx, h]
    exact hend (by simpa using hx)

set_option maxRecDepth 100000 in
set_option maxHeartbeats 1500000 in
/-- operands with operators between them -/
theorem chain_any (n : Nat) (hn : n ≤ 7) (h3 : n ≠ 3) (h4 : n ≠ 4) (G : Nat) (hcf : ∀ args w, (callFunc G args).run Try.prog w = .ok (.enter G args) w)
    (M : Nat) (HG : ∀ (w : World) (pb : Nat) (a : Option Addr) (c : Nat) (ts : List Tk) (bad : Bool), PS w pb a c ts bad → (Job.lev (n + 1) ts).wt < M → Calls Try.prog G #[.pointer (some ⟨pb, 0, none⟩)] w (ParPost pb w (runJ (.lev (n + 1) ts)) bad ts))
    (h8 : ∀ l ∈ lvlO n, ∀ c ∈ l, c < 256) (hl9 : (lvlO n).length ≤ 9) (lb lc : Nat)
    (w : World) (pb : Nat) (a : Option Addr) (c : Nat) (ts : List Tk) (bad : Bool) (hp : PS w pb a c ts bad) (hM : (Job.lev n ts).wt ≤ M)
    (hlb : lb ≠ pb) (hz : ∀ j, j < (lvlO n).length → w.cell? ⟨lb, j, none⟩ = some (.string (((lvlO n).map bs).getD j ByteArray.empty))) :
    Calls Try.prog 40 #[.pointer (some ⟨pb, 0, none⟩), .func (.func G) #[.pointer (some ⟨pb, 0, none⟩)] #[], .int .i64 (lvlK n), .slice (some ⟨lb, 0, none⟩) (lvlO n).length lc] w (ParPost pb w (runJ (.lev n ts)) bad ts) := by
  obtain ⟨w1, hw1⟩ : ∃ w1, w1 = w.alloc (.cells #[.int .i64 0, .string ⟨#[]⟩, .int .i64 0, .slice none 0 0] 38) := ⟨_, rfl⟩
  have HB1 : Hid (Below w.heap.size w w1) := Lib.hid (by rw [hw1]; exact below_alloc _ _)
  have HS1 : Hid (w1.heap.size = w.heap.size + 1) := Lib.hid (by rw [hw1]; simp)
  have HP1 := Lib.hid (hp.below HB1.out)
  have hTC : EC w1 w.heap.size eE none 0 := by rw [hw1]; exact alloc_ec w eE none 0 _
  have HTC := Lib.hid hTC
  have HC1 := Lib.hid (HG w1 pb a c ts bad HP1.out (by simp only [Job.wt] at *; omega))
  have HGG := Lib.hid HG
  have HPL := Lib.hid hp.lt
  have HW1 := Lib.hid hw1
  have HZ := Lib.hid hz
  have HM := Lib.hid hM
  have HCF := Lib.hid hcf
  have HH8 := Lib.hid h8
  have HLB := Lib.hid hlb
  obtain ⟨K, hK⟩ : ∃ K, K = lvlK n := ⟨_, rfl⟩
  obtain ⟨O, hO⟩ : ∃ O, O = lvlO n := ⟨_, rfl⟩
  have HO := Lib.hid hO
  have HK := Lib.hid hK
  rw [← hK, ← hO]
  clear HG hw1 hz h8 hp hM hK hO hlb
  go_enter Try.func40, Try.ntmps40
  go_upto_region 1 with fail
  rw [← HW1.out]
  go_wp2_with (refine HC1.out.mono ?_; rintro e w2 ⟨t, v, a2, c2, ts2, bad2, rfl, ⟨aa, cc, rfl, hcc, hra⟩, hps, hlen, hf, hb1, hb2⟩; simp only [exV])
  obtain ⟨w3, hw3⟩ : ∃ w3, w3 = w2.alloc (.cells #[.int .i64 t.kind, .string t.text, .int .i64 t.num, .slice aa t.args.length cc] 38) := ⟨_, rfl⟩
  rw [← hw3]
  have hb3 : Below w2.heap.size w2 w3 := by rw [hw3]; exact below_alloc _ _
  obtain ⟨be, hbe⟩ : ∃ be, be = w2.heap.size := ⟨_, rfl⟩
  have hec : EC w3 be t aa cc := by rw [hw3, hbe]; exact alloc_ec _ _ _ _ _
  have HBE : Hid (w.heap.size < be) := Lib.hid (by have h1 := hf.size; have h2 := HS1.out; omega)
  have hfw3 : Fr (fun x => x = pb) w w3 := (Fr.of_below (S := fun x => x = pb) HB1.out).trans (hf.trans (.of_below hb3))
  have HCH : Hid (CH n w pb be lb (runJ (.lev n ts)) bad ts w3 t ts2 bad2) := Lib.hid ⟨⟨a2, c2, hps.below hb3⟩, ⟨aa, cc, hec, hcc, (hra.mono (fun i h1 h2 => ⟨by have := HS1.out; omega, by omega⟩)).below hb3⟩, fun j hj => hfw3.cell (HZ.out j hj) HLB.out, hfw3, hlen, hb1, fun h => by
    have h2 := hb2 h
    rw [runJ_lev h3 h4 (by omega)]
    split at h2
    · rename_i hx; rw [if_pos hx, h2]; rfl
    · rename_i hx; rw [if_neg hx, h2]; rfl⟩
  have HTC3 : Hid (EC w3 w.heap.size eE none 0) := Lib.hid ((HTC.out.fr hf (by have := HPL.out; omega)).below hb3)
  rw [← hbe]
  clear hw3 hb3 hbe hec hfw3 hcc hra hps hlen hf hb1 hb2
  go_loopg [10] (ts.length + 1) (fun gg nv wr => ∃ (e : Ex) (ts' : List Tk) (bad' : Bool), ts'.length + 1 ≤ gg ∧ ts'.length ≤ ts.length ∧ CH n w pb be lb (runJ (.lev n ts)) bad ts wr e ts' bad' ∧ EC wr w.heap.size eE none 0)
  case atStart => exact ⟨t, ts2, bad2, by have := HCH.out.2.2.2.2.1; omega, HCH.out.2.2.2.2.1, HCH.out, HTC3.out⟩
  case round =>
    clear HCH HTC3
    obtain ⟨e, ts', bad', hgg, hle, ⟨⟨a', c', hps⟩, ⟨aa, cc, hec, hcc, hra⟩, hzr, hfr, hso⟩, htc⟩ := hrel
    obtain ⟨x0, x1, x2, x3, xf⟩ := hec
    obtain ⟨y0, y1, y2, y3, yf⟩ := htc
    have yf0 := yf 0
    have yf1 := yf 1
    have yf2 := yf 2
    have yf3 := yf 3
    have HLE := Lib.hid hle
    have HGQ := Lib.hid hgg
    clear hgg
    have HPS := Lib.hid hps
    have HRA := Lib.hid hra
    have HZR := Lib.hid hzr
    have HFR := Lib.hid hfr
    have HSO := Lib.hid hso
    have HEC : Hid (EC wr be e aa cc) := Lib.hid ⟨x0, x1, x2, x3, xf⟩
    have HTCR : Hid (EC wr w.heap.size eE none 0) := Lib.hid ⟨y0, y1, y2, y3, yf⟩
    have HCC := Lib.hid hcc
    have c1 := hps.c1
    have HAT := Lib.hid (at_any K O (by rw [HO.out]; exact HH8.out) (by rw [HK.out]; unfold lvlK; split <;> omega) (by rw [HO.out]; exact hl9) lb lc wr (by rw [HO.out]; exact hzr) hps)
    clear hle hps hra hzr hfr hso xf yf hcc
    cases hbd : bad' with
    | true =>
      subst hbd
      go_wp2
      exact bodyPost_ret (v := .agg #[.int .i64 e.kind, .string e.text, .int .i64 e.num, .slice aa e.args.length cc]) (by simp [results, Try.results40, go_sem, y0, y1, y2, y3]; try rfl) rfl (fin_par HPS.out HCC.out HRA.out HFR.out HSO.out (fun h => by cases h) (fr4 wr w.heap.size (.int .i64 e.kind) (.string e.text) (.int .i64 e.num) (.slice aa e.args.length cc)) HPL.out)
    | false =>
      subst hbd
      cases hi : isT K O ts' with
      | false =>
        rw [hi] at HAT
        have HRES : Hid (runJ (.loop n e ts') = some (e, ts')) := Lib.hid (by rw [runJ_loop n hn]; unfold loopJ; rw [← HK.out, ← HO.out, hi]; rfl)
        clear hi
        go_wp2_with (refine HAT.out.mono ?_; rintro e9 w9 ⟨rfl, rfl⟩)
        exact bodyPost_ret (v := .agg #[.int .i64 e.kind, .string e.text, .int .i64 e.num, .slice aa e.args.length cc]) (by simp [results, Try.results40, go_sem, y0, y1, y2, y3]; try rfl) rfl (fin_par HPS.out HCC.out HRA.out HFR.out HSO.out (fun _ => HRES.out) (fr4 wr w.heap.size (.int .i64 e.kind) (.string e.text) (.int .i64 e.num) (.slice aa e.args.length cc)) HPL.out)
      | true =>
        obtain ⟨t0, r0, rfl⟩ : ∃ t0 r0, ts' = t0 :: r0 := by
          cases ts' with
          | nil => cases hi
          | cons a b => exact ⟨a, b, rfl⟩
        rw [hi] at HAT
        have HRES : Hid (runJ (.loop n e (t0 :: r0)) = (runJ (.lev (n + 1) r0)).bind fun x => runJ (.loop n (callE t0.1.2.1 [e, x.1]) x.2)) := Lib.hid (by rw [runJ_loop n hn]; unfold loopJ; rw [← HK.out, ← HO.out, hi]; rfl)
        have HTK := Lib.hid (take_any HPS.out)
        simp only [hdV, tokV, TakePost, List.isEmpty, Bool.or_false, List.tail_cons] at HTK
        have hfld := fld1 (t0.1.1 : Nat) (bs t0.1.2.1) (t0.1.2.2 : Nat) (t0.2 : Nat)
        clear hi
        go_upto_region 4 with (first | (go_at_call 54; refine HAT.out.mono ?_; rintro e9 w9 ⟨rfl, rfl⟩) | (go_at_call 55; refine HTK.out.mono ?_; rintro e9 w5 ⟨rfl, ⟨a5, c5, hps5⟩, hf5⟩; have HPS5 := Lib.hid hps5; have HF5 := Lib.hid hf5; clear hps5 hf5))
        have HBEP : Hid (¬ (be = pb)) := Lib.hid (by have := HBE.out; have := HPL.out; omega)
        have HEC5 := Lib.hid (HEC.out.fr HF5.out HBEP.out).drew
        obtain ⟨x0, x1, x2, x3, xf⟩ := HEC5.out
        have HC5 := Lib.hid (HGG.out w5.drew pb a5 c5 r0 false HPS5.out.drew (by have h1 := HM.out; have h2 := HLE.out; simp only [Job.wt, List.length_cons] at *; omega))
        clear c1 y0 y1 y2 y3 yf0 yf1 yf2 yf3
        go_region_with (first
          | (go_at_call 56; refine (call_any _ _ _ _ _).mono ?_; rintro e9 w7 ⟨rfl, hb7⟩; obtain ⟨q0, q1, q2, q3, qf⟩ := (HEC6.out.below (below_alloc _ _)).below hb7; have qf0 := qf 0; have qf1 := qf 1; have qf2 := qf 2; have qf3 := qf 3; clear qf)
          | (refine HC5.out.mono ?_; rintro e9 w6 ⟨t6, v6, a6, c6, ts6, bad6, rfl, ⟨aa6, cc6, rfl, hcc6, hra6⟩, hps6, hlen6, hf6, hb6, hb6'⟩; simp only [exV]; have HEC6 := Lib.hid (HEC5.out.fr hf6 HBEP.out); obtain ⟨z0, z1, z2, z3, zf⟩ := HEC6.out; clear zf))
        all_goals
          have HF6 : Hid (Fr (fun x => x = pb) wr w6) := Lib.hid (HF5.out.drew.trans hf6)
          have HB67 := Lib.hid (bthen (below_alloc w6 (.cells #[.int .i64 e.kind, .string e.text, .int .i64 e.num, .slice aa e.args.length cc, .int .i64 t6.kind, .string t6.text, .int .i64 t6.num, .slice aa6 t6.args.length cc6] 38)) hb7)
          have HBW : Hid (be < wr.heap.size) := Lib.hid HEC.out.lt
          have HW5 : Hid (wr.heap.size ≤ w5.drew.heap.size) := Lib.hid HF5.out.drew.size
          have HW6 : Hid (wr.heap.size ≤ w6.heap.size) := Lib.hid HF6.out.size
          have HRA6 : Hid (RdA (fun i => w.heap.size < i ∧ i ≠ be) w6 e.args aa) := Lib.hid (HRA.out.fr HF6.out (fun i hi e => by have := HPL.out; omega))
          have HRT6 : Hid (RdA (fun i => w.heap.size < i ∧ i ≠ be) w6 t6.args aa6) := Lib.hid (hra6.mono (fun i h1 h2 => ⟨by have := HBE.out; have := HBW.out; have := HW5.out; omega, by have := HBW.out; have := HW5.out; omega⟩))
          have HRB : Hid (RdA (fun i => w.heap.size < i ∧ i ≠ be) w7 [e, t6] (some ⟨w6.heap.size, 0, none⟩)) := Lib.hid ((rdA_block [(e, aa, cc), (t6, aa6, cc6)] (heap_new_at rfl) rfl ⟨by have := HBE.out; have := HBW.out; have := HW6.out; omega, by have := HBW.out; have := HW6.out; omega⟩ (fun x hx => by
            rcases List.mem_cons.1 hx with rfl | hx
            · exact ⟨HCC.out, HRA6.out.below (below_alloc _ _)⟩
            · rcases List.mem_cons.1 hx with rfl | hx
              · exact ⟨hcc6, HRT6.out.below (below_alloc _ _)⟩
              · cases hx)).below hb7)
          have HEC7 := Lib.hid ((HEC6.out.below (below_alloc _ _)).below hb7)
          have HPS7 := Lib.hid ((hps6.below (below_alloc _ _)).below hb7)
          have HF7 : Hid (Fr (fun x => x = pb) wr w7) := Lib.hid (HF6.out.trans (.of_below HB67.out))
          have HSO6 : Hid (Sofar (runJ (.lev n ts)) (runJ (.loop n (callE t0.1.2.1 [e, t6]) ts6)) bad bad6 ts ts6) := Lib.hid ⟨by have := HLE.out; simp only [List.length_cons] at this; omega, fun h => (by have := HSO.out.2.1 h; cases this), fun h => by
            have h1 := HSO.out.2.2 h
            rw [if_neg (by simp), HRES.out] at h1
            have h2 := hb6' (by first | rfl | trivial)
            split at h2
            · rename_i hx; rw [if_pos hx, h1, h2]; rfl
            · rename_i hx; rw [if_neg hx, h1, h2]; rfl⟩
          have HL6 := Lib.hid hlen6
          clear hra6 hps6 hlen6 hf6 hb6 hb6' hb7 x0 x1 x2 x3 xf z0 z1 z2 z3 q0 q1 q2 q3 qf0 qf1 qf2 qf3 hcc6
          obtain ⟨wf, hwf⟩ : ∃ wf, wf = ((((w7.setCell ⟨be, 0, none⟩ (.int .i64 4)).setCell ⟨be, 1, none⟩ (.string (bs t0.1.2.1))).setCell ⟨be, 2, none⟩ (.int .i64 0)).setCell ⟨be, 3, none⟩ (.slice (some ⟨w6.heap.size, 0, none⟩) 2 2)) := ⟨_, rfl⟩
          rw [← hwf]
          have HFF : Hid (Fr (fun x => x = be) w7 wf) := Lib.hid (by rw [hwf]; exact fr4 w7 be _ _ _ _)
          have HECF : Hid (EC wf be (callE t0.1.2.1 [e, t6]) (some ⟨w6.heap.size, 0, none⟩) 2) := Lib.hid (by rw [hwf]; exact set_ec HEC7.out (callE t0.1.2.1 [e, t6]) (some ⟨w6.heap.size, 0, none⟩) 2)
          clear hwf
          go_wp2
          go_roundg (r0.length + 1)
          case measure => have := HGQ.out; simp only [List.length_cons] at this; omega
          case rel =>
            refine ⟨callE t0.1.2.1 [e, t6], ts6, bad6, by have := HL6.out; omega, HSO6.out.1, ⟨⟨a6, c6, HPS7.out.fr HFF.out (fun e => HBEP.out e.symm) (fun x hx _ e => by have := HPS7.out.ap x hx; have := HPL.out; have := HBE.out; omega)⟩, ⟨_, _, HECF.out, by simp [callE, Ex.args], HRB.out.fr HFF.out (fun i hi e => hi.2 e)⟩, fun j hj => ?_, ?_, HSO6.out⟩, ?_⟩
            · refine HFF.out.cell (HF7.out.cell (HZR.out j hj) HLB.out) ?_
              have := World.block_lt_of_cell? w _ (HZ.out j hj)
              have := HBE.out
              simp only at *; omega
            · exact (HFR.out.trans HF7.out).then HFF.out (fun i e => .inr (by have := HBE.out; omega))
            · exact (HTCR.out.fr HF7.out (by have := HPL.out; omega)).fr HFF.out (by have := HBE.out; omega)

end Go.Proofs.Ytpabngicbfcdkaa
