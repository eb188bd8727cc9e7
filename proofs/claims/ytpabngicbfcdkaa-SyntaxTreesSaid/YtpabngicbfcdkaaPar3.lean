/-
  The parser: the levels that are chains. Printed by wip/gen/lev.py.
-/
import Derived.Test.YtpabngicbfcdkaaPar2
namespace Go.Proofs.Ytpabngicbfcdkaa
open Go.RowKit
set_option linter.unusedVariables false
set_option linter.unusedSimpArgs false

theorem ParPost.sofar {pb : Nat} {w : World} {res : Res} {bad : Bool} {ts : List Tk} {bad' : Bool} {ts' : List Tk} {t : Ex} (hlen : ts'.length ≤ ts.length) (h1 : bad = true → bad' = true) (h2 : bad = false → if bad' = true then res = none else res = some (t, ts')) : Sofar res (some (t, ts')) bad bad' ts ts' := ⟨hlen, h1, h2⟩
theorem cf_and (args : Array Value) (w : World) : (callFunc 41 args).run Try.prog w = .ok (.enter 41 args) w := by
  obtain ⟨c, hc⟩ : ∃ c, Try.f41.body = some c := ⟨_, rfl⟩
  exact cf_enter Try.func41 (by kernel_rfl) hc args w
theorem cf_not (args : Array Value) (w : World) : (callFunc 57 args).run Try.prog w = .ok (.enter 57 args) w := by
  obtain ⟨c, hc⟩ : ∃ c, Try.f57.body = some c := ⟨_, rfl⟩
  exact cf_enter Try.func57 (by kernel_rfl) hc args w
theorem cf_compare (args : Array Value) (w : World) : (callFunc 62 args).run Try.prog w = .ok (.enter 62 args) w := by
  obtain ⟨c, hc⟩ : ∃ c, Try.f62.body = some c := ⟨_, rfl⟩
  exact cf_enter Try.func62 (by kernel_rfl) hc args w
theorem cf_cat (args : Array Value) (w : World) : (callFunc 64 args).run Try.prog w = .ok (.enter 64 args) w := by
  obtain ⟨c, hc⟩ : ∃ c, Try.f64.body = some c := ⟨_, rfl⟩
  exact cf_enter Try.func64 (by kernel_rfl) hc args w
theorem cf_sum (args : Array Value) (w : World) : (callFunc 65 args).run Try.prog w = .ok (.enter 65 args) w := by
  obtain ⟨c, hc⟩ : ∃ c, Try.f65.body = some c := ⟨_, rfl⟩
  exact cf_enter Try.func65 (by kernel_rfl) hc args w
theorem cf_term (args : Array Value) (w : World) : (callFunc 66 args).run Try.prog w = .ok (.enter 66 args) w := by
  obtain ⟨c, hc⟩ : ∃ c, Try.f66.body = some c := ⟨_, rfl⟩
  exact cf_enter Try.func66 (by kernel_rfl) hc args w
theorem cf_post (args : Array Value) (w : World) : (callFunc 67 args).run Try.prog w = .ok (.enter 67 args) w := by
  obtain ⟨c, hc⟩ : ∃ c, Try.f67.body = some c := ⟨_, rfl⟩
  exact cf_enter Try.func67 (by kernel_rfl) hc args w

set_option maxRecDepth 100000 in
set_option maxHeartbeats 1500000 in
theorem lev1_any (M : Nat) (H : Spec M) (w : World) (pb : Nat) (a : Option Addr) (c : Nat) (ts : List Tk) (bad : Bool) (hp : PS w pb a c ts bad) (hM : (Job.lev 1 ts).wt ≤ M) :
    Calls Try.prog 22 #[.pointer (some ⟨pb, 0, none⟩)] w (ParPost pb w (runJ (.lev 1 ts)) bad ts) := by
  obtain ⟨w1, hw1⟩ : ∃ w1, w1 = w.alloc (.cells #[.int .i64 0, .string ⟨#[]⟩, .int .i64 0, .slice none 0 0] 38) := ⟨_, rfl⟩
  have HB1 : Hid (Below w.heap.size w w1) := Lib.hid (by rw [hw1]; exact below_alloc _ _)
  have HS1 : Hid (w1.heap.size = w.heap.size + 1) := Lib.hid (by rw [hw1]; simp)
  have HTC : Hid (EC w1 w.heap.size eE none 0) := Lib.hid (by rw [hw1]; exact alloc_ec w eE none 0 _)
  obtain ⟨w2, hw2⟩ : ∃ w2, w2 = w1.alloc (.cells #[.string ⟨#[111, 114]⟩] 9) := ⟨_, rfl⟩
  have HB2 : Hid (Below w1.heap.size w1 w2) := Lib.hid (by rw [hw2]; exact below_alloc _ _)
  have HPL := Lib.hid hp.lt
  have HCH : Hid (Calls Try.prog 40 #[.pointer (some ⟨pb, 0, none⟩), .func (.func 41) #[.pointer (some ⟨pb, 0, none⟩)] #[], .int .i64 4, .slice (some ⟨w1.heap.size, 0, none⟩) 1 1] w2 (ParPost pb w2 (runJ (.lev 1 ts)) bad ts)) :=
    Lib.hid (chain_any 1 (by omega) (by omega) (by omega) 41 cf_and M (fun w pb a c ts bad h hw => H 2 (by omega) (by omega) w pb a c ts bad h hw) (by simp [lvlO]) (by simp [lvlO]) w1.heap.size 1 w2 pb a c ts bad ((hp.below HB1.out).below HB2.out) hM (by have := HPL.out; have := HS1.out; omega)
      (fun j hj => by
        have hj : j < 1 := hj
        rw [hw2]
        match j, hj with
        | 0, _ => simp; rfl))
  have HW1 := Lib.hid hw1
  have HW2 := Lib.hid hw2
  clear hw1 hw2 hp
  go_enter Try.func22, Try.ntmps22
  go_wp2_with (go_at_call 40; rw [← HW1.out, ← HW2.out]; try rw [← HS1.out]; refine HCH.out.mono ?_; rintro e w3 ⟨t, v, a3, c3, ts3, bad3, rfl, ⟨aa, cc, rfl, hcc, hra⟩, hps, hlen, hf, hb1, hb2⟩; simp only [exV]; have HEC3 := Lib.hid ((HTC.out.below HB2.out).fr hf (by have := HPL.out; omega)); obtain ⟨y0, y1, y2, y3, yf⟩ := HEC3.out; have yf0 := yf 0; have yf1 := yf 1; have yf2 := yf 2; have yf3 := yf 3; have HRA := Lib.hid hra; have HPS := Lib.hid hps; have HF := Lib.hid hf; have HSO := Lib.hid (ParPost.sofar (pb := pb) (w := w) hlen hb1 hb2); have HCC := Lib.hid hcc; clear hra hps hf hb1 hb2 yf hlen hcc)
  exact bodyPost_ret (v := .agg #[.int .i64 t.kind, .string t.text, .int .i64 t.num, .slice aa t.args.length cc]) (by simp [results, Try.results22, go_sem, y0, y1, y2, y3]; try rfl) rfl (fin_par (be := 0) HPS.out HCC.out (HRA.out.mono (fun i _ hi => ⟨by have h1 := HB2.out.size; have h2 := HS1.out; omega, by have h1 := HB2.out.size; have h2 := HS1.out; omega⟩)) ((Fr.of_below (S := fun x => x = pb) (bthen HB1.out HB2.out)).trans HF.out) HSO.out (fun _ => rfl) (fr4 w3 w.heap.size (.int .i64 t.kind) (.string t.text) (.int .i64 t.num) (.slice aa t.args.length cc)) HPL.out)

set_option maxRecDepth 100000 in
set_option maxHeartbeats 1500000 in
theorem lev2_any (M : Nat) (H : Spec M) (w : World) (pb : Nat) (a : Option Addr) (c : Nat) (ts : List Tk) (bad : Bool) (hp : PS w pb a c ts bad) (hM : (Job.lev 2 ts).wt ≤ M) :
    Calls Try.prog 41 #[.pointer (some ⟨pb, 0, none⟩)] w (ParPost pb w (runJ (.lev 2 ts)) bad ts) := by
  obtain ⟨w1, hw1⟩ : ∃ w1, w1 = w.alloc (.cells #[.int .i64 0, .string ⟨#[]⟩, .int .i64 0, .slice none 0 0] 38) := ⟨_, rfl⟩
  have HB1 : Hid (Below w.heap.size w w1) := Lib.hid (by rw [hw1]; exact below_alloc _ _)
  have HS1 : Hid (w1.heap.size = w.heap.size + 1) := Lib.hid (by rw [hw1]; simp)
  have HTC : Hid (EC w1 w.heap.size eE none 0) := Lib.hid (by rw [hw1]; exact alloc_ec w eE none 0 _)
  obtain ⟨w2, hw2⟩ : ∃ w2, w2 = w1.alloc (.cells #[.string ⟨#[97, 110, 100]⟩] 9) := ⟨_, rfl⟩
  have HB2 : Hid (Below w1.heap.size w1 w2) := Lib.hid (by rw [hw2]; exact below_alloc _ _)
  have HPL := Lib.hid hp.lt
  have HCH : Hid (Calls Try.prog 40 #[.pointer (some ⟨pb, 0, none⟩), .func (.func 57) #[.pointer (some ⟨pb, 0, none⟩)] #[], .int .i64 4, .slice (some ⟨w1.heap.size, 0, none⟩) 1 1] w2 (ParPost pb w2 (runJ (.lev 2 ts)) bad ts)) :=
    Lib.hid (chain_any 2 (by omega) (by omega) (by omega) 57 cf_not M (fun w pb a c ts bad h hw => H 3 (by omega) (by omega) w pb a c ts bad h hw) (by simp [lvlO]) (by simp [lvlO]) w1.heap.size 1 w2 pb a c ts bad ((hp.below HB1.out).below HB2.out) hM (by have := HPL.out; have := HS1.out; omega)
      (fun j hj => by
        have hj : j < 1 := hj
        rw [hw2]
        match j, hj with
        | 0, _ => simp; rfl))
  have HW1 := Lib.hid hw1
  have HW2 := Lib.hid hw2
  clear hw1 hw2 hp
  go_enter Try.func41, Try.ntmps41
  go_wp2_with (go_at_call 40; rw [← HW1.out, ← HW2.out]; try rw [← HS1.out]; refine HCH.out.mono ?_; rintro e w3 ⟨t, v, a3, c3, ts3, bad3, rfl, ⟨aa, cc, rfl, hcc, hra⟩, hps, hlen, hf, hb1, hb2⟩; simp only [exV]; have HEC3 := Lib.hid ((HTC.out.below HB2.out).fr hf (by have := HPL.out; omega)); obtain ⟨y0, y1, y2, y3, yf⟩ := HEC3.out; have yf0 := yf 0; have yf1 := yf 1; have yf2 := yf 2; have yf3 := yf 3; have HRA := Lib.hid hra; have HPS := Lib.hid hps; have HF := Lib.hid hf; have HSO := Lib.hid (ParPost.sofar (pb := pb) (w := w) hlen hb1 hb2); have HCC := Lib.hid hcc; clear hra hps hf hb1 hb2 yf hlen hcc)
  exact bodyPost_ret (v := .agg #[.int .i64 t.kind, .string t.text, .int .i64 t.num, .slice aa t.args.length cc]) (by simp [results, Try.results41, go_sem, y0, y1, y2, y3]; try rfl) rfl (fin_par (be := 0) HPS.out HCC.out (HRA.out.mono (fun i _ hi => ⟨by have h1 := HB2.out.size; have h2 := HS1.out; omega, by have h1 := HB2.out.size; have h2 := HS1.out; omega⟩)) ((Fr.of_below (S := fun x => x = pb) (bthen HB1.out HB2.out)).trans HF.out) HSO.out (fun _ => rfl) (fr4 w3 w.heap.size (.int .i64 t.kind) (.string t.text) (.int .i64 t.num) (.slice aa t.args.length cc)) HPL.out)

set_option maxRecDepth 100000 in
set_option maxHeartbeats 1500000 in
theorem lev5_any (M : Nat) (H : Spec M) (w : World) (pb : Nat) (a : Option Addr) (c : Nat) (ts : List Tk) (bad : Bool) (hp : PS w pb a c ts bad) (hM : (Job.lev 5 ts).wt ≤ M) :
    Calls Try.prog 64 #[.pointer (some ⟨pb, 0, none⟩)] w (ParPost pb w (runJ (.lev 5 ts)) bad ts) := by
  obtain ⟨w1, hw1⟩ : ∃ w1, w1 = w.alloc (.cells #[.int .i64 0, .string ⟨#[]⟩, .int .i64 0, .slice none 0 0] 38) := ⟨_, rfl⟩
  have HB1 : Hid (Below w.heap.size w w1) := Lib.hid (by rw [hw1]; exact below_alloc _ _)
  have HS1 : Hid (w1.heap.size = w.heap.size + 1) := Lib.hid (by rw [hw1]; simp)
  have HTC : Hid (EC w1 w.heap.size eE none 0) := Lib.hid (by rw [hw1]; exact alloc_ec w eE none 0 _)
  obtain ⟨w2, hw2⟩ : ∃ w2, w2 = w1.alloc (.cells #[.string ⟨#[43, 43]⟩] 9) := ⟨_, rfl⟩
  have HB2 : Hid (Below w1.heap.size w1 w2) := Lib.hid (by rw [hw2]; exact below_alloc _ _)
  have HPL := Lib.hid hp.lt
  have HCH : Hid (Calls Try.prog 40 #[.pointer (some ⟨pb, 0, none⟩), .func (.func 65) #[.pointer (some ⟨pb, 0, none⟩)] #[], .int .i64 5, .slice (some ⟨w1.heap.size, 0, none⟩) 1 1] w2 (ParPost pb w2 (runJ (.lev 5 ts)) bad ts)) :=
    Lib.hid (chain_any 5 (by omega) (by omega) (by omega) 65 cf_sum M (fun w pb a c ts bad h hw => H 6 (by omega) (by omega) w pb a c ts bad h hw) (by simp [lvlO]) (by simp [lvlO]) w1.heap.size 1 w2 pb a c ts bad ((hp.below HB1.out).below HB2.out) hM (by have := HPL.out; have := HS1.out; omega)
      (fun j hj => by
        have hj : j < 1 := hj
        rw [hw2]
        match j, hj with
        | 0, _ => simp; rfl))
  have HW1 := Lib.hid hw1
  have HW2 := Lib.hid hw2
  clear hw1 hw2 hp
  go_enter Try.func64, Try.ntmps64
  go_wp2_with (go_at_call 40; rw [← HW1.out, ← HW2.out]; try rw [← HS1.out]; refine HCH.out.mono ?_; rintro e w3 ⟨t, v, a3, c3, ts3, bad3, rfl, ⟨aa, cc, rfl, hcc, hra⟩, hps, hlen, hf, hb1, hb2⟩; simp only [exV]; have HEC3 := Lib.hid ((HTC.out.below HB2.out).fr hf (by have := HPL.out; omega)); obtain ⟨y0, y1, y2, y3, yf⟩ := HEC3.out; have yf0 := yf 0; have yf1 := yf 1; have yf2 := yf 2; have yf3 := yf 3; have HRA := Lib.hid hra; have HPS := Lib.hid hps; have HF := Lib.hid hf; have HSO := Lib.hid (ParPost.sofar (pb := pb) (w := w) hlen hb1 hb2); have HCC := Lib.hid hcc; clear hra hps hf hb1 hb2 yf hlen hcc)
  exact bodyPost_ret (v := .agg #[.int .i64 t.kind, .string t.text, .int .i64 t.num, .slice aa t.args.length cc]) (by simp [results, Try.results64, go_sem, y0, y1, y2, y3]; try rfl) rfl (fin_par (be := 0) HPS.out HCC.out (HRA.out.mono (fun i _ hi => ⟨by have h1 := HB2.out.size; have h2 := HS1.out; omega, by have h1 := HB2.out.size; have h2 := HS1.out; omega⟩)) ((Fr.of_below (S := fun x => x = pb) (bthen HB1.out HB2.out)).trans HF.out) HSO.out (fun _ => rfl) (fr4 w3 w.heap.size (.int .i64 t.kind) (.string t.text) (.int .i64 t.num) (.slice aa t.args.length cc)) HPL.out)

set_option maxRecDepth 100000 in
set_option maxHeartbeats 1500000 in
theorem lev6_any (M : Nat) (H : Spec M) (w : World) (pb : Nat) (a : Option Addr) (c : Nat) (ts : List Tk) (bad : Bool) (hp : PS w pb a c ts bad) (hM : (Job.lev 6 ts).wt ≤ M) :
    Calls Try.prog 65 #[.pointer (some ⟨pb, 0, none⟩)] w (ParPost pb w (runJ (.lev 6 ts)) bad ts) := by
  obtain ⟨w1, hw1⟩ : ∃ w1, w1 = w.alloc (.cells #[.int .i64 0, .string ⟨#[]⟩, .int .i64 0, .slice none 0 0] 38) := ⟨_, rfl⟩
  have HB1 : Hid (Below w.heap.size w w1) := Lib.hid (by rw [hw1]; exact below_alloc _ _)
  have HS1 : Hid (w1.heap.size = w.heap.size + 1) := Lib.hid (by rw [hw1]; simp)
  have HTC : Hid (EC w1 w.heap.size eE none 0) := Lib.hid (by rw [hw1]; exact alloc_ec w eE none 0 _)
  obtain ⟨w2, hw2⟩ : ∃ w2, w2 = w1.alloc (.cells #[.string ⟨#[43]⟩, .string ⟨#[45]⟩] 9) := ⟨_, rfl⟩
  have HB2 : Hid (Below w1.heap.size w1 w2) := Lib.hid (by rw [hw2]; exact below_alloc _ _)
  have HPL := Lib.hid hp.lt
  have HCH : Hid (Calls Try.prog 40 #[.pointer (some ⟨pb, 0, none⟩), .func (.func 66) #[.pointer (some ⟨pb, 0, none⟩)] #[], .int .i64 5, .slice (some ⟨w1.heap.size, 0, none⟩) 2 2] w2 (ParPost pb w2 (runJ (.lev 6 ts)) bad ts)) :=
    Lib.hid (chain_any 6 (by omega) (by omega) (by omega) 66 cf_term M (fun w pb a c ts bad h hw => H 7 (by omega) (by omega) w pb a c ts bad h hw) (by simp [lvlO]) (by simp [lvlO]) w1.heap.size 2 w2 pb a c ts bad ((hp.below HB1.out).below HB2.out) hM (by have := HPL.out; have := HS1.out; omega)
      (fun j hj => by
        have hj : j < 2 := hj
        rw [hw2]
        match j, hj with
        | 0, _ => simp; rfl
        | 1, _ => simp; rfl))
  have HW1 := Lib.hid hw1
  have HW2 := Lib.hid hw2
  clear hw1 hw2 hp
  go_enter Try.func65, Try.ntmps65
  go_wp2_with (go_at_call 40; rw [← HW1.out, ← HW2.out]; try rw [← HS1.out]; refine HCH.out.mono ?_; rintro e w3 ⟨t, v, a3, c3, ts3, bad3, rfl, ⟨aa, cc, rfl, hcc, hra⟩, hps, hlen, hf, hb1, hb2⟩; simp only [exV]; have HEC3 := Lib.hid ((HTC.out.below HB2.out).fr hf (by have := HPL.out; omega)); obtain ⟨y0, y1, y2, y3, yf⟩ := HEC3.out; have yf0 := yf 0; have yf1 := yf 1; have yf2 := yf 2; have yf3 := yf 3; have HRA := Lib.hid hra; have HPS := Lib.hid hps; have HF := Lib.hid hf; have HSO := Lib.hid (ParPost.sofar (pb := pb) (w := w) hlen hb1 hb2); have HCC := Lib.hid hcc; clear hra hps hf hb1 hb2 yf hlen hcc)
  exact bodyPost_ret (v := .agg #[.int .i64 t.kind, .string t.text, .int .i64 t.num, .slice aa t.args.length cc]) (by simp [results, Try.results65, go_sem, y0, y1, y2, y3]; try rfl) rfl (fin_par (be := 0) HPS.out HCC.out (HRA.out.mono (fun i _ hi => ⟨by have h1 := HB2.out.size; have h2 := HS1.out; omega, by have h1 := HB2.out.size; have h2 := HS1.out; omega⟩)) ((Fr.of_below (S := fun x => x = pb) (bthen HB1.out HB2.out)).trans HF.out) HSO.out (fun _ => rfl) (fr4 w3 w.heap.size (.int .i64 t.kind) (.string t.text) (.int .i64 t.num) (.slice aa t.args.length cc)) HPL.out)

set_option maxRecDepth 100000 in
set_option maxHeartbeats 1500000 in
theorem lev7_any (M : Nat) (H : Spec M) (w : World) (pb : Nat) (a : Option Addr) (c : Nat) (ts : List Tk) (bad : Bool) (hp : PS w pb a c ts bad) (hM : (Job.lev 7 ts).wt ≤ M) :
    Calls Try.prog 66 #[.pointer (some ⟨pb, 0, none⟩)] w (ParPost pb w (runJ (.lev 7 ts)) bad ts) := by
  obtain ⟨w1, hw1⟩ : ∃ w1, w1 = w.alloc (.cells #[.int .i64 0, .string ⟨#[]⟩, .int .i64 0, .slice none 0 0] 38) := ⟨_, rfl⟩
  have HB1 : Hid (Below w.heap.size w w1) := Lib.hid (by rw [hw1]; exact below_alloc _ _)
  have HS1 : Hid (w1.heap.size = w.heap.size + 1) := Lib.hid (by rw [hw1]; simp)
  have HTC : Hid (EC w1 w.heap.size eE none 0) := Lib.hid (by rw [hw1]; exact alloc_ec w eE none 0 _)
  obtain ⟨w2, hw2⟩ : ∃ w2, w2 = w1.alloc (.cells #[.string ⟨#[42]⟩] 9) := ⟨_, rfl⟩
  have HB2 : Hid (Below w1.heap.size w1 w2) := Lib.hid (by rw [hw2]; exact below_alloc _ _)
  have HPL := Lib.hid hp.lt
  have HCH : Hid (Calls Try.prog 40 #[.pointer (some ⟨pb, 0, none⟩), .func (.func 67) #[.pointer (some ⟨pb, 0, none⟩)] #[], .int .i64 5, .slice (some ⟨w1.heap.size, 0, none⟩) 1 1] w2 (ParPost pb w2 (runJ (.lev 7 ts)) bad ts)) :=
    Lib.hid (chain_any 7 (by omega) (by omega) (by omega) 67 cf_post M (fun w pb a c ts bad h hw => H 8 (by omega) (by omega) w pb a c ts bad h hw) (by simp [lvlO]) (by simp [lvlO]) w1.heap.size 1 w2 pb a c ts bad ((hp.below HB1.out).below HB2.out) hM (by have := HPL.out; have := HS1.out; omega)
      (fun j hj => by
        have hj : j < 1 := hj
        rw [hw2]
        match j, hj with
        | 0, _ => simp; rfl))
  have HW1 := Lib.hid hw1
  have HW2 := Lib.hid hw2
  clear hw1 hw2 hp
  go_enter Try.func66, Try.ntmps66
  go_wp2_with (go_at_call 40; rw [← HW1.out, ← HW2.out]; try rw [← HS1.out]; refine HCH.out.mono ?_; rintro e w3 ⟨t, v, a3, c3, ts3, bad3, rfl, ⟨aa, cc, rfl, hcc, hra⟩, hps, hlen, hf, hb1, hb2⟩; simp only [exV]; have HEC3 := Lib.hid ((HTC.out.below HB2.out).fr hf (by have := HPL.out; omega)); obtain ⟨y0, y1, y2, y3, yf⟩ := HEC3.out; have yf0 := yf 0; have yf1 := yf 1; have yf2 := yf 2; have yf3 := yf 3; have HRA := Lib.hid hra; have HPS := Lib.hid hps; have HF := Lib.hid hf; have HSO := Lib.hid (ParPost.sofar (pb := pb) (w := w) hlen hb1 hb2); have HCC := Lib.hid hcc; clear hra hps hf hb1 hb2 yf hlen hcc)
  exact bodyPost_ret (v := .agg #[.int .i64 t.kind, .string t.text, .int .i64 t.num, .slice aa t.args.length cc]) (by simp [results, Try.results66, go_sem, y0, y1, y2, y3]; try rfl) rfl (fin_par (be := 0) HPS.out HCC.out (HRA.out.mono (fun i _ hi => ⟨by have h1 := HB2.out.size; have h2 := HS1.out; omega, by have h1 := HB2.out.size; have h2 := HS1.out; omega⟩)) ((Fr.of_below (S := fun x => x = pb) (bthen HB1.out HB2.out)).trans HF.out) HSO.out (fun _ => rfl) (fr4 w3 w.heap.size (.int .i64 t.kind) (.string t.text) (.int .i64 t.num) (.slice aa t.args.length cc)) HPL.out)

end Go.Proofs.Ytpabngicbfcdkaa
