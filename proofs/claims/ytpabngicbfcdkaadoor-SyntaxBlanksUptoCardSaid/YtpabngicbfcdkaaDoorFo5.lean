/-
  Joined texts: The parser: the levels that are chains. Printed by wip/gen/lev.py. · The parser: not and compare. · The parser: compare. · The parser: post. · The parser: arguments. · The parser: names, primary.
-/
import Derived.Test.YtpabngicbfcdkaaDoorFo4
import Derived.Deep.RegionLaw

/- The parser: the levels that are chains. Printed by wip/gen/lev.py. -/
namespace Go.Proofs.YtpabngicbfcdkaaDoor
open Go.RowKit
set_option linter.unusedVariables false
set_option linter.unusedSimpArgs false

theorem ParPost.sofar {pb : Nat} {w : World} {res : Res} {bad : Bool} {ts : List Tk} {bad' : Bool} {ts' : List Tk} {t : Ex} (hlen : ts'.length ≤ ts.length) (h1 : bad = true → bad' = true) (h2 : bad = false → if bad' = true then res = none else res = some (t, ts')) : Sofar res (some (t, ts')) bad bad' ts ts' := ⟨hlen, h1, h2⟩
theorem cf_and (args : Array Value) (w : World) : (callFunc 51 args).run Tryd.prog w = .ok (.enter 51 args) w := by
  obtain ⟨c, hc⟩ : ∃ c, Tryd.f51.body = some c := ⟨_, rfl⟩
  exact cf_enter Tryd.func51 (by kernel_rfl) hc args w
theorem cf_not (args : Array Value) (w : World) : (callFunc 63 args).run Tryd.prog w = .ok (.enter 63 args) w := by
  obtain ⟨c, hc⟩ : ∃ c, Tryd.f63.body = some c := ⟨_, rfl⟩
  exact cf_enter Tryd.func63 (by kernel_rfl) hc args w
theorem cf_compare (args : Array Value) (w : World) : (callFunc 68 args).run Tryd.prog w = .ok (.enter 68 args) w := by
  obtain ⟨c, hc⟩ : ∃ c, Tryd.f68.body = some c := ⟨_, rfl⟩
  exact cf_enter Tryd.func68 (by kernel_rfl) hc args w
theorem cf_cat (args : Array Value) (w : World) : (callFunc 75 args).run Tryd.prog w = .ok (.enter 75 args) w := by
  obtain ⟨c, hc⟩ : ∃ c, Tryd.f75.body = some c := ⟨_, rfl⟩
  exact cf_enter Tryd.func75 (by kernel_rfl) hc args w
theorem cf_sum (args : Array Value) (w : World) : (callFunc 81 args).run Tryd.prog w = .ok (.enter 81 args) w := by
  obtain ⟨c, hc⟩ : ∃ c, Tryd.f81.body = some c := ⟨_, rfl⟩
  exact cf_enter Tryd.func81 (by kernel_rfl) hc args w
theorem cf_term (args : Array Value) (w : World) : (callFunc 84 args).run Tryd.prog w = .ok (.enter 84 args) w := by
  obtain ⟨c, hc⟩ : ∃ c, Tryd.f84.body = some c := ⟨_, rfl⟩
  exact cf_enter Tryd.func84 (by kernel_rfl) hc args w
theorem cf_post (args : Array Value) (w : World) : (callFunc 85 args).run Tryd.prog w = .ok (.enter 85 args) w := by
  obtain ⟨c, hc⟩ : ∃ c, Tryd.f85.body = some c := ⟨_, rfl⟩
  exact cf_enter Tryd.func85 (by kernel_rfl) hc args w

set_option maxRecDepth 100000 in
set_option maxHeartbeats 1500000 in
theorem lev1_any (M : Nat) (H : Spec M) (w : World) (pb : Nat) (a : Option Addr) (c : Nat) (ts : List Tk) (bad : Bool) (hp : PS w pb a c ts bad) (hM : (Job.lev 1 ts).wt ≤ M) :
    Calls Tryd.prog 31 #[.pointer (some ⟨pb, 0, none⟩)] w (ParPost pb w (runJ (.lev 1 ts)) bad ts) := by
  obtain ⟨w1, hw1⟩ : ∃ w1, w1 = w.alloc (.cells #[.int .i64 0, .string ⟨#[]⟩, .int .i64 0, .slice none 0 0] 25) := ⟨_, rfl⟩
  have HB1 : Hid (Below w.heap.size w w1) := Lib.hid (by rw [hw1]; exact below_alloc _ _)
  have HS1 : Hid (w1.heap.size = w.heap.size + 1) := Lib.hid (by rw [hw1]; simp)
  have HTC : Hid (EC w1 w.heap.size eE none 0) := Lib.hid (by rw [hw1]; exact alloc_ec w eE none 0 _)
  obtain ⟨w2, hw2⟩ : ∃ w2, w2 = w1.alloc (.cells #[.string ⟨#[111, 114]⟩] 9) := ⟨_, rfl⟩
  have HB2 : Hid (Below w1.heap.size w1 w2) := Lib.hid (by rw [hw2]; exact below_alloc _ _)
  have HPL := Lib.hid hp.lt
  have HCH : Hid (Calls Tryd.prog 50 #[.pointer (some ⟨pb, 0, none⟩), .func (.func 51) #[.pointer (some ⟨pb, 0, none⟩)] #[], .int .i64 4, .slice (some ⟨w1.heap.size, 0, none⟩) 1 1] w2 (ParPost pb w2 (runJ (.lev 1 ts)) bad ts)) :=
    Lib.hid (chain_any 1 (by omega) (by omega) (by omega) 51 cf_and M (fun w pb a c ts bad h hw => H 2 (by omega) (by omega) w pb a c ts bad h hw) (by simp [lvlO]) (by simp [lvlO]) w1.heap.size 1 w2 pb a c ts bad ((hp.below HB1.out).below HB2.out) hM (by have := HPL.out; have := HS1.out; omega)
      (fun j hj => by
        have hj : j < 1 := hj
        rw [hw2]
        match j, hj with
        | 0, _ => simp; rfl))
  have HW1 := Lib.hid hw1
  have HW2 := Lib.hid hw2
  clear hw1 hw2 hp
  go_enter Tryd.func31, Tryd.ntmps31
  go_wp2_with (go_at_call 50; rw [← HW1.out, ← HW2.out]; try rw [← HS1.out]; refine HCH.out.mono ?_; rintro e w3 ⟨t, v, a3, c3, ts3, bad3, rfl, ⟨aa, cc, rfl, hcc, hra⟩, hps, hlen, hf, hb1, hb2⟩; simp only [exV]; have HEC3 := Lib.hid ((HTC.out.below HB2.out).fr hf (by have := HPL.out; omega)); obtain ⟨y0, y1, y2, y3, yf⟩ := HEC3.out; have yf0 := yf 0; have yf1 := yf 1; have yf2 := yf 2; have yf3 := yf 3; have HRA := Lib.hid hra; have HPS := Lib.hid hps; have HF := Lib.hid hf; have HSO := Lib.hid (ParPost.sofar (pb := pb) (w := w) hlen hb1 hb2); have HCC := Lib.hid hcc; clear hra hps hf hb1 hb2 yf hlen hcc)
  exact bodyPost_ret (v := .agg #[.int .i64 t.kind, .string t.text, .int .i64 t.num, .slice aa t.args.length cc]) (by simp [results, Tryd.results31, go_sem, y0, y1, y2, y3]; try rfl) rfl (fin_par (be := 0) HPS.out HCC.out (HRA.out.mono (fun i _ hi => ⟨by have h1 := HB2.out.size; have h2 := HS1.out; omega, by have h1 := HB2.out.size; have h2 := HS1.out; omega⟩)) ((Fr.of_below (S := fun x => x = pb) (bthen HB1.out HB2.out)).trans HF.out) HSO.out (fun _ => rfl) (fr4 w3 w.heap.size (.int .i64 t.kind) (.string t.text) (.int .i64 t.num) (.slice aa t.args.length cc)) HPL.out)

set_option maxRecDepth 100000 in
set_option maxHeartbeats 1500000 in
theorem lev2_any (M : Nat) (H : Spec M) (w : World) (pb : Nat) (a : Option Addr) (c : Nat) (ts : List Tk) (bad : Bool) (hp : PS w pb a c ts bad) (hM : (Job.lev 2 ts).wt ≤ M) :
    Calls Tryd.prog 51 #[.pointer (some ⟨pb, 0, none⟩)] w (ParPost pb w (runJ (.lev 2 ts)) bad ts) := by
  obtain ⟨w1, hw1⟩ : ∃ w1, w1 = w.alloc (.cells #[.int .i64 0, .string ⟨#[]⟩, .int .i64 0, .slice none 0 0] 25) := ⟨_, rfl⟩
  have HB1 : Hid (Below w.heap.size w w1) := Lib.hid (by rw [hw1]; exact below_alloc _ _)
  have HS1 : Hid (w1.heap.size = w.heap.size + 1) := Lib.hid (by rw [hw1]; simp)
  have HTC : Hid (EC w1 w.heap.size eE none 0) := Lib.hid (by rw [hw1]; exact alloc_ec w eE none 0 _)
  obtain ⟨w2, hw2⟩ : ∃ w2, w2 = w1.alloc (.cells #[.string ⟨#[97, 110, 100]⟩] 9) := ⟨_, rfl⟩
  have HB2 : Hid (Below w1.heap.size w1 w2) := Lib.hid (by rw [hw2]; exact below_alloc _ _)
  have HPL := Lib.hid hp.lt
  have HCH : Hid (Calls Tryd.prog 50 #[.pointer (some ⟨pb, 0, none⟩), .func (.func 63) #[.pointer (some ⟨pb, 0, none⟩)] #[], .int .i64 4, .slice (some ⟨w1.heap.size, 0, none⟩) 1 1] w2 (ParPost pb w2 (runJ (.lev 2 ts)) bad ts)) :=
    Lib.hid (chain_any 2 (by omega) (by omega) (by omega) 63 cf_not M (fun w pb a c ts bad h hw => H 3 (by omega) (by omega) w pb a c ts bad h hw) (by simp [lvlO]) (by simp [lvlO]) w1.heap.size 1 w2 pb a c ts bad ((hp.below HB1.out).below HB2.out) hM (by have := HPL.out; have := HS1.out; omega)
      (fun j hj => by
        have hj : j < 1 := hj
        rw [hw2]
        match j, hj with
        | 0, _ => simp; rfl))
  have HW1 := Lib.hid hw1
  have HW2 := Lib.hid hw2
  clear hw1 hw2 hp
  go_enter Tryd.func51, Tryd.ntmps51
  go_wp2_with (go_at_call 50; rw [← HW1.out, ← HW2.out]; try rw [← HS1.out]; refine HCH.out.mono ?_; rintro e w3 ⟨t, v, a3, c3, ts3, bad3, rfl, ⟨aa, cc, rfl, hcc, hra⟩, hps, hlen, hf, hb1, hb2⟩; simp only [exV]; have HEC3 := Lib.hid ((HTC.out.below HB2.out).fr hf (by have := HPL.out; omega)); obtain ⟨y0, y1, y2, y3, yf⟩ := HEC3.out; have yf0 := yf 0; have yf1 := yf 1; have yf2 := yf 2; have yf3 := yf 3; have HRA := Lib.hid hra; have HPS := Lib.hid hps; have HF := Lib.hid hf; have HSO := Lib.hid (ParPost.sofar (pb := pb) (w := w) hlen hb1 hb2); have HCC := Lib.hid hcc; clear hra hps hf hb1 hb2 yf hlen hcc)
  exact bodyPost_ret (v := .agg #[.int .i64 t.kind, .string t.text, .int .i64 t.num, .slice aa t.args.length cc]) (by simp [results, Tryd.results51, go_sem, y0, y1, y2, y3]; try rfl) rfl (fin_par (be := 0) HPS.out HCC.out (HRA.out.mono (fun i _ hi => ⟨by have h1 := HB2.out.size; have h2 := HS1.out; omega, by have h1 := HB2.out.size; have h2 := HS1.out; omega⟩)) ((Fr.of_below (S := fun x => x = pb) (bthen HB1.out HB2.out)).trans HF.out) HSO.out (fun _ => rfl) (fr4 w3 w.heap.size (.int .i64 t.kind) (.string t.text) (.int .i64 t.num) (.slice aa t.args.length cc)) HPL.out)

set_option maxRecDepth 100000 in
set_option maxHeartbeats 1500000 in
theorem lev5_any (M : Nat) (H : Spec M) (w : World) (pb : Nat) (a : Option Addr) (c : Nat) (ts : List Tk) (bad : Bool) (hp : PS w pb a c ts bad) (hM : (Job.lev 5 ts).wt ≤ M) :
    Calls Tryd.prog 75 #[.pointer (some ⟨pb, 0, none⟩)] w (ParPost pb w (runJ (.lev 5 ts)) bad ts) := by
  obtain ⟨w1, hw1⟩ : ∃ w1, w1 = w.alloc (.cells #[.int .i64 0, .string ⟨#[]⟩, .int .i64 0, .slice none 0 0] 25) := ⟨_, rfl⟩
  have HB1 : Hid (Below w.heap.size w w1) := Lib.hid (by rw [hw1]; exact below_alloc _ _)
  have HS1 : Hid (w1.heap.size = w.heap.size + 1) := Lib.hid (by rw [hw1]; simp)
  have HTC : Hid (EC w1 w.heap.size eE none 0) := Lib.hid (by rw [hw1]; exact alloc_ec w eE none 0 _)
  obtain ⟨w2, hw2⟩ : ∃ w2, w2 = w1.alloc (.cells #[.string ⟨#[43, 43]⟩] 9) := ⟨_, rfl⟩
  have HB2 : Hid (Below w1.heap.size w1 w2) := Lib.hid (by rw [hw2]; exact below_alloc _ _)
  have HPL := Lib.hid hp.lt
  have HCH : Hid (Calls Tryd.prog 50 #[.pointer (some ⟨pb, 0, none⟩), .func (.func 81) #[.pointer (some ⟨pb, 0, none⟩)] #[], .int .i64 5, .slice (some ⟨w1.heap.size, 0, none⟩) 1 1] w2 (ParPost pb w2 (runJ (.lev 5 ts)) bad ts)) :=
    Lib.hid (chain_any 5 (by omega) (by omega) (by omega) 81 cf_sum M (fun w pb a c ts bad h hw => H 6 (by omega) (by omega) w pb a c ts bad h hw) (by simp [lvlO]) (by simp [lvlO]) w1.heap.size 1 w2 pb a c ts bad ((hp.below HB1.out).below HB2.out) hM (by have := HPL.out; have := HS1.out; omega)
      (fun j hj => by
        have hj : j < 1 := hj
        rw [hw2]
        match j, hj with
        | 0, _ => simp; rfl))
  have HW1 := Lib.hid hw1
  have HW2 := Lib.hid hw2
  clear hw1 hw2 hp
  go_enter Tryd.func75, Tryd.ntmps75
  go_wp2_with (go_at_call 50; rw [← HW1.out, ← HW2.out]; try rw [← HS1.out]; refine HCH.out.mono ?_; rintro e w3 ⟨t, v, a3, c3, ts3, bad3, rfl, ⟨aa, cc, rfl, hcc, hra⟩, hps, hlen, hf, hb1, hb2⟩; simp only [exV]; have HEC3 := Lib.hid ((HTC.out.below HB2.out).fr hf (by have := HPL.out; omega)); obtain ⟨y0, y1, y2, y3, yf⟩ := HEC3.out; have yf0 := yf 0; have yf1 := yf 1; have yf2 := yf 2; have yf3 := yf 3; have HRA := Lib.hid hra; have HPS := Lib.hid hps; have HF := Lib.hid hf; have HSO := Lib.hid (ParPost.sofar (pb := pb) (w := w) hlen hb1 hb2); have HCC := Lib.hid hcc; clear hra hps hf hb1 hb2 yf hlen hcc)
  exact bodyPost_ret (v := .agg #[.int .i64 t.kind, .string t.text, .int .i64 t.num, .slice aa t.args.length cc]) (by simp [results, Tryd.results75, go_sem, y0, y1, y2, y3]; try rfl) rfl (fin_par (be := 0) HPS.out HCC.out (HRA.out.mono (fun i _ hi => ⟨by have h1 := HB2.out.size; have h2 := HS1.out; omega, by have h1 := HB2.out.size; have h2 := HS1.out; omega⟩)) ((Fr.of_below (S := fun x => x = pb) (bthen HB1.out HB2.out)).trans HF.out) HSO.out (fun _ => rfl) (fr4 w3 w.heap.size (.int .i64 t.kind) (.string t.text) (.int .i64 t.num) (.slice aa t.args.length cc)) HPL.out)

set_option maxRecDepth 100000 in
set_option maxHeartbeats 1500000 in
theorem lev6_any (M : Nat) (H : Spec M) (w : World) (pb : Nat) (a : Option Addr) (c : Nat) (ts : List Tk) (bad : Bool) (hp : PS w pb a c ts bad) (hM : (Job.lev 6 ts).wt ≤ M) :
    Calls Tryd.prog 81 #[.pointer (some ⟨pb, 0, none⟩)] w (ParPost pb w (runJ (.lev 6 ts)) bad ts) := by
  obtain ⟨w1, hw1⟩ : ∃ w1, w1 = w.alloc (.cells #[.int .i64 0, .string ⟨#[]⟩, .int .i64 0, .slice none 0 0] 25) := ⟨_, rfl⟩
  have HB1 : Hid (Below w.heap.size w w1) := Lib.hid (by rw [hw1]; exact below_alloc _ _)
  have HS1 : Hid (w1.heap.size = w.heap.size + 1) := Lib.hid (by rw [hw1]; simp)
  have HTC : Hid (EC w1 w.heap.size eE none 0) := Lib.hid (by rw [hw1]; exact alloc_ec w eE none 0 _)
  obtain ⟨w2, hw2⟩ : ∃ w2, w2 = w1.alloc (.cells #[.string ⟨#[43]⟩, .string ⟨#[45]⟩] 9) := ⟨_, rfl⟩
  have HB2 : Hid (Below w1.heap.size w1 w2) := Lib.hid (by rw [hw2]; exact below_alloc _ _)
  have HPL := Lib.hid hp.lt
  have HCH : Hid (Calls Tryd.prog 50 #[.pointer (some ⟨pb, 0, none⟩), .func (.func 84) #[.pointer (some ⟨pb, 0, none⟩)] #[], .int .i64 5, .slice (some ⟨w1.heap.size, 0, none⟩) 2 2] w2 (ParPost pb w2 (runJ (.lev 6 ts)) bad ts)) :=
    Lib.hid (chain_any 6 (by omega) (by omega) (by omega) 84 cf_term M (fun w pb a c ts bad h hw => H 7 (by omega) (by omega) w pb a c ts bad h hw) (by simp [lvlO]) (by simp [lvlO]) w1.heap.size 2 w2 pb a c ts bad ((hp.below HB1.out).below HB2.out) hM (by have := HPL.out; have := HS1.out; omega)
      (fun j hj => by
        have hj : j < 2 := hj
        rw [hw2]
        match j, hj with
        | 0, _ => simp; rfl
        | 1, _ => simp; rfl))
  have HW1 := Lib.hid hw1
  have HW2 := Lib.hid hw2
  clear hw1 hw2 hp
  go_enter Tryd.func81, Tryd.ntmps81
  go_wp2_with (go_at_call 50; rw [← HW1.out, ← HW2.out]; try rw [← HS1.out]; refine HCH.out.mono ?_; rintro e w3 ⟨t, v, a3, c3, ts3, bad3, rfl, ⟨aa, cc, rfl, hcc, hra⟩, hps, hlen, hf, hb1, hb2⟩; simp only [exV]; have HEC3 := Lib.hid ((HTC.out.below HB2.out).fr hf (by have := HPL.out; omega)); obtain ⟨y0, y1, y2, y3, yf⟩ := HEC3.out; have yf0 := yf 0; have yf1 := yf 1; have yf2 := yf 2; have yf3 := yf 3; have HRA := Lib.hid hra; have HPS := Lib.hid hps; have HF := Lib.hid hf; have HSO := Lib.hid (ParPost.sofar (pb := pb) (w := w) hlen hb1 hb2); have HCC := Lib.hid hcc; clear hra hps hf hb1 hb2 yf hlen hcc)
  exact bodyPost_ret (v := .agg #[.int .i64 t.kind, .string t.text, .int .i64 t.num, .slice aa t.args.length cc]) (by simp [results, Tryd.results81, go_sem, y0, y1, y2, y3]; try rfl) rfl (fin_par (be := 0) HPS.out HCC.out (HRA.out.mono (fun i _ hi => ⟨by have h1 := HB2.out.size; have h2 := HS1.out; omega, by have h1 := HB2.out.size; have h2 := HS1.out; omega⟩)) ((Fr.of_below (S := fun x => x = pb) (bthen HB1.out HB2.out)).trans HF.out) HSO.out (fun _ => rfl) (fr4 w3 w.heap.size (.int .i64 t.kind) (.string t.text) (.int .i64 t.num) (.slice aa t.args.length cc)) HPL.out)

set_option maxRecDepth 100000 in
set_option maxHeartbeats 1500000 in
theorem lev7_any (M : Nat) (H : Spec M) (w : World) (pb : Nat) (a : Option Addr) (c : Nat) (ts : List Tk) (bad : Bool) (hp : PS w pb a c ts bad) (hM : (Job.lev 7 ts).wt ≤ M) :
    Calls Tryd.prog 84 #[.pointer (some ⟨pb, 0, none⟩)] w (ParPost pb w (runJ (.lev 7 ts)) bad ts) := by
  obtain ⟨w1, hw1⟩ : ∃ w1, w1 = w.alloc (.cells #[.int .i64 0, .string ⟨#[]⟩, .int .i64 0, .slice none 0 0] 25) := ⟨_, rfl⟩
  have HB1 : Hid (Below w.heap.size w w1) := Lib.hid (by rw [hw1]; exact below_alloc _ _)
  have HS1 : Hid (w1.heap.size = w.heap.size + 1) := Lib.hid (by rw [hw1]; simp)
  have HTC : Hid (EC w1 w.heap.size eE none 0) := Lib.hid (by rw [hw1]; exact alloc_ec w eE none 0 _)
  obtain ⟨w2, hw2⟩ : ∃ w2, w2 = w1.alloc (.cells #[.string ⟨#[42]⟩] 9) := ⟨_, rfl⟩
  have HB2 : Hid (Below w1.heap.size w1 w2) := Lib.hid (by rw [hw2]; exact below_alloc _ _)
  have HPL := Lib.hid hp.lt
  have HCH : Hid (Calls Tryd.prog 50 #[.pointer (some ⟨pb, 0, none⟩), .func (.func 85) #[.pointer (some ⟨pb, 0, none⟩)] #[], .int .i64 5, .slice (some ⟨w1.heap.size, 0, none⟩) 1 1] w2 (ParPost pb w2 (runJ (.lev 7 ts)) bad ts)) :=
    Lib.hid (chain_any 7 (by omega) (by omega) (by omega) 85 cf_post M (fun w pb a c ts bad h hw => H 8 (by omega) (by omega) w pb a c ts bad h hw) (by simp [lvlO]) (by simp [lvlO]) w1.heap.size 1 w2 pb a c ts bad ((hp.below HB1.out).below HB2.out) hM (by have := HPL.out; have := HS1.out; omega)
      (fun j hj => by
        have hj : j < 1 := hj
        rw [hw2]
        match j, hj with
        | 0, _ => simp; rfl))
  have HW1 := Lib.hid hw1
  have HW2 := Lib.hid hw2
  clear hw1 hw2 hp
  go_enter Tryd.func84, Tryd.ntmps84
  go_wp2_with (go_at_call 50; rw [← HW1.out, ← HW2.out]; try rw [← HS1.out]; refine HCH.out.mono ?_; rintro e w3 ⟨t, v, a3, c3, ts3, bad3, rfl, ⟨aa, cc, rfl, hcc, hra⟩, hps, hlen, hf, hb1, hb2⟩; simp only [exV]; have HEC3 := Lib.hid ((HTC.out.below HB2.out).fr hf (by have := HPL.out; omega)); obtain ⟨y0, y1, y2, y3, yf⟩ := HEC3.out; have yf0 := yf 0; have yf1 := yf 1; have yf2 := yf 2; have yf3 := yf 3; have HRA := Lib.hid hra; have HPS := Lib.hid hps; have HF := Lib.hid hf; have HSO := Lib.hid (ParPost.sofar (pb := pb) (w := w) hlen hb1 hb2); have HCC := Lib.hid hcc; clear hra hps hf hb1 hb2 yf hlen hcc)
  exact bodyPost_ret (v := .agg #[.int .i64 t.kind, .string t.text, .int .i64 t.num, .slice aa t.args.length cc]) (by simp [results, Tryd.results84, go_sem, y0, y1, y2, y3]; try rfl) rfl (fin_par (be := 0) HPS.out HCC.out (HRA.out.mono (fun i _ hi => ⟨by have h1 := HB2.out.size; have h2 := HS1.out; omega, by have h1 := HB2.out.size; have h2 := HS1.out; omega⟩)) ((Fr.of_below (S := fun x => x = pb) (bthen HB1.out HB2.out)).trans HF.out) HSO.out (fun _ => rfl) (fr4 w3 w.heap.size (.int .i64 t.kind) (.string t.text) (.int .i64 t.num) (.slice aa t.args.length cc)) HPL.out)

end Go.Proofs.YtpabngicbfcdkaaDoor

/- The parser: not and compare. -/
namespace Go.Proofs.YtpabngicbfcdkaaDoor
open Go.RowKit
set_option linter.unusedVariables false
set_option linter.unusedSimpArgs false

theorem isT_tail {k : Nat} {l : List (List Nat)} {ts : List Tk} (h : isT k l ts = true) : ts.isEmpty = false ∧ ts.tail.length + 1 = ts.length := by
  cases ts with
  | nil => cases h
  | cons t r => exact ⟨rfl, rfl⟩

set_option maxRecDepth 100000 in
set_option maxHeartbeats 1500000 in
theorem lev3_any (M : Nat) (H : Spec M) (w : World) (pb : Nat) (a : Option Addr) (c : Nat) (ts : List Tk) (bad : Bool) (hp : PS w pb a c ts bad) (hM : (Job.lev 3 ts).wt ≤ M) :
    Calls Tryd.prog 63 #[.pointer (some ⟨pb, 0, none⟩)] w (ParPost pb w (runJ (.lev 3 ts)) bad ts) := by
  obtain ⟨w1, hw1⟩ : ∃ w1, w1 = w.alloc (.cells #[.int .i64 0, .string ⟨#[]⟩, .int .i64 0, .slice none 0 0] 25) := ⟨_, rfl⟩
  have HB1 : Hid (Below w.heap.size w w1) := Lib.hid (by rw [hw1]; exact below_alloc _ _)
  have HS1 : Hid (w1.heap.size = w.heap.size + 1) := Lib.hid (by rw [hw1]; simp)
  have HTC : Hid (EC w1 w.heap.size eE none 0) := Lib.hid (by rw [hw1]; exact alloc_ec w eE none 0 _)
  obtain ⟨w2, hw2⟩ : ∃ w2, w2 = w1.alloc (.cells #[.string ⟨#[110, 111, 116]⟩] 9) := ⟨_, rfl⟩
  have HB2 : Hid (Below w1.heap.size w1 w2) := Lib.hid (by rw [hw2]; exact below_alloc _ _)
  have HPL := Lib.hid hp.lt
  have HP2 := Lib.hid ((hp.below HB1.out).below HB2.out)
  have HAT : Hid (Calls Tryd.prog 60 #[.pointer (some ⟨pb, 0, none⟩), .int .i64 4, .slice (some ⟨w1.heap.size, 0, none⟩) 1 1] w2 fun e w' => e = .returned (.bool (isT 4 [wNot] ts)) ∧ w2 = w') := Lib.hid (at_any 4 [wNot] (by simp [wNot]) (by omega) (by simp) w1.heap.size 1 w2 (fun j hj => by
      have hj : j < 1 := hj
      rw [hw2]
      match j, hj with
      | 0, _ => simp; rfl) HP2.out)
  have HW1 := Lib.hid hw1
  have HW2 := Lib.hid hw2
  have HF2 : Hid (Fr (fun x => x = pb) w w2) := Lib.hid (Fr.of_below (bthen HB1.out HB2.out))
  clear hw1 hw2 hp
  cases hi : isT 4 [wNot] ts with
  | true =>
    rw [hi] at HAT
    obtain ⟨hie, htl⟩ := isT_tail hi
    have HTK := Lib.hid (take_any HP2.out)
    simp only [TakePost, hie, Bool.or_false] at HTK
    have HTL := Lib.hid htl
    have HRES : Hid (runJ (.lev 3 ts) = (runJ (.lev 3 ts.tail)).bind fun x => some (callE wNot [x.1], x.2)) := Lib.hid (by rw [runJ_not]; unfold notJ; rw [hi]; rfl)
    have HN : Hid (∀ (w : World) (a : Option Addr) (c : Nat), PS w pb a c ts.tail bad → Calls Tryd.prog 63 #[.pointer (some ⟨pb, 0, none⟩)] w (ParPost pb w (runJ (.lev 3 ts.tail)) bad ts.tail)) := Lib.hid (fun w a c h => H 3 (by omega) (by omega) w pb a c ts.tail bad h (by simp only [Job.wt] at *; omega))
    clear hi hie htl
    go_enter Tryd.func63, Tryd.ntmps63
    go_wp2_with (first
      | (go_at_call 60; rw [← HW1.out, ← HW2.out]; try rw [← HS1.out]; refine HAT.out.mono ?_; rintro e w3 ⟨rfl, rfl⟩)
      | (go_at_call 61; refine HTK.out.mono ?_; rintro e w3 ⟨rfl, ⟨a3, c3, hps3⟩, hf3⟩; have HPS3 := Lib.hid hps3; have HF3 := Lib.hid hf3; clear hps3 hf3)
      | (go_at_call 63; refine (HN.out _ _ _ HPS3.out).mono ?_; rintro e w4 ⟨t, v, a4, c4, ts4, bad4, rfl, ⟨aa, cc, rfl, hcc, hra⟩, hps, hlen, hf, hb1, hb2⟩; simp only [exV]; have HF4 := Lib.hid hf; have HRA := Lib.hid hra; have HPS4 := Lib.hid hps; have HCC := Lib.hid hcc; have HLEN := Lib.hid hlen; have HK1 := Lib.hid hb1; have HK2 := Lib.hid hb2; clear hra hps hf hb1 hb2 hlen hcc)
      | (go_at_call 62; refine (call_any _ _ _ _ _).mono ?_; rintro e w5 ⟨rfl, hb5⟩; have HB45 := Lib.hid (bthen (below_alloc w4 (.cells #[.int .i64 t.kind, .string t.text, .int .i64 t.num, .slice aa t.args.length cc] 25)) hb5); have HEC5 := Lib.hid ((((HTC.out.below HB2.out).fr HF3.out (by have := HPL.out; omega)).fr HF4.out (by have := HPL.out; omega)).below HB45.out); obtain ⟨y0, y1, y2, y3, yf⟩ := HEC5.out; have yf0 := yf 0; have yf1 := yf 1; have yf2 := yf 2; have yf3 := yf 3; have HRB : Hid (RdA (fun i => w.heap.size < i ∧ i ≠ 0) w5 [t] (some ⟨w4.heap.size, 0, none⟩)) := Lib.hid ((rdA_block [(t, aa, cc)] (heap_new_at rfl) rfl ⟨by have h1 := HF2.out.size; have h2 := HF3.out.size; have h3 := HF4.out.size; have h4 := HB2.out.size; have h5 := HS1.out; omega, by have h1 := HF2.out.size; have h2 := HF3.out.size; have h3 := HF4.out.size; have h4 := HB2.out.size; have h5 := HS1.out; omega⟩ (fun x hx => by
          rcases List.mem_cons.1 hx with rfl | hx
          · exact ⟨HCC.out, (HRA.out.mono (fun i _ hi => ⟨by have h3 := HF3.out.size; have h4 := HB2.out.size; have h5 := HS1.out; omega, by have h3 := HF3.out.size; have h4 := HB2.out.size; have h5 := HS1.out; omega⟩)).below (below_alloc _ _)⟩
          · cases hx)).below hb5); clear hb5 yf))
    exact bodyPost_ret (v := .agg #[.int .i64 4, .string (bs wNot), .int .i64 0, .slice (some ⟨w4.heap.size, 0, none⟩) 1 1]) (by simp [results, Tryd.results63, go_sem, y0, y1, y2, y3]; try rfl) rfl (fin_par (be := 0) (e := callE wNot [t]) (rest := some (callE wNot [t], ts4)) (HPS4.out.below HB45.out) (by simp [callE, Ex.args]) HRB.out (((HF2.out.trans HF3.out).trans HF4.out).trans (.of_below HB45.out)) ⟨by have := HLEN.out; have := HTL.out; omega, HK1.out, fun h => by
      have h2 := HK2.out h
      split at h2
      · rename_i hx; rw [if_pos hx, HRES.out, h2]; rfl
      · rename_i hx; rw [if_neg hx, HRES.out, h2]; rfl⟩ (fun _ => rfl) (fr4 w5 w.heap.size (.int .i64 4) (.string (bs wNot)) (.int .i64 0) (.slice (some ⟨w4.heap.size, 0, none⟩) 1 1)) HPL.out)
  | false =>
    rw [hi] at HAT
    have HRES : Hid (runJ (.lev 3 ts) = runJ (.lev 4 ts)) := Lib.hid (by rw [runJ_not]; unfold notJ; rw [hi]; rfl)
    have HN := Lib.hid (H 4 (by omega) (by omega) w2 pb a c ts bad HP2.out (by simp only [Job.wt] at *; omega))
    change Hid (Calls Tryd.prog 68 _ _ _) at HN
    clear hi
    go_enter Tryd.func63, Tryd.ntmps63
    go_wp2_with (first
      | (go_at_call 60; rw [← HW1.out, ← HW2.out]; try rw [← HS1.out]; refine HAT.out.mono ?_; rintro e w3 ⟨rfl, rfl⟩)
      | (go_at_call 68; refine HN.out.mono ?_; rintro e w3 ⟨t, v, a3, c3, ts3, bad3, rfl, ⟨aa, cc, rfl, hcc, hra⟩, hps, hlen, hf, hb1, hb2⟩; simp only [exV]; have HEC3 := Lib.hid ((HTC.out.below HB2.out).fr hf (by have := HPL.out; omega)); obtain ⟨y0, y1, y2, y3, yf⟩ := HEC3.out; have yf0 := yf 0; have yf1 := yf 1; have yf2 := yf 2; have yf3 := yf 3; have HRA := Lib.hid hra; have HPS := Lib.hid hps; have HF := Lib.hid hf; have HSO := Lib.hid (ParPost.sofar (pb := pb) (w := w) hlen hb1 hb2); have HCC := Lib.hid hcc; clear hra hps hf hb1 hb2 yf hlen hcc))
    rw [HRES.out]
    exact bodyPost_ret (v := .agg #[.int .i64 t.kind, .string t.text, .int .i64 t.num, .slice aa t.args.length cc]) (by simp [results, Tryd.results63, go_sem, y0, y1, y2, y3]; try rfl) rfl (fin_par (be := 0) HPS.out HCC.out (HRA.out.mono (fun i _ hi => ⟨by have h1 := HB2.out.size; have h2 := HS1.out; omega, by have h1 := HB2.out.size; have h2 := HS1.out; omega⟩)) (HF2.out.trans HF.out) HSO.out (fun _ => rfl) (fr4 w3 w.heap.size (.int .i64 t.kind) (.string t.text) (.int .i64 t.num) (.slice aa t.args.length cc)) HPL.out)

end Go.Proofs.YtpabngicbfcdkaaDoor

/- The parser: compare. -/
namespace Go.Proofs.YtpabngicbfcdkaaDoor
open Go.RowKit
set_option linter.unusedVariables false
set_option linter.unusedSimpArgs false

set_option maxRecDepth 100000 in
set_option maxHeartbeats 2000000 in
theorem lev4_any (M : Nat) (H : Spec M) (w : World) (pb : Nat) (a : Option Addr) (c : Nat) (ts : List Tk) (bad : Bool) (hp : PS w pb a c ts bad) (hM : (Job.lev 4 ts).wt ≤ M) :
    Calls Tryd.prog 68 #[.pointer (some ⟨pb, 0, none⟩)] w (ParPost pb w (runJ (.lev 4 ts)) bad ts) := by
  obtain ⟨w1, hw1⟩ : ∃ w1, w1 = w.alloc (.cells #[.int .i64 0, .string ⟨#[]⟩, .int .i64 0, .slice none 0 0] 25) := ⟨_, rfl⟩
  have HB1 : Hid (Below w.heap.size w w1) := Lib.hid (by rw [hw1]; exact below_alloc _ _)
  have HS1 : Hid (w1.heap.size = w.heap.size + 1) := Lib.hid (by rw [hw1]; simp)
  have HTC : Hid (EC w1 w.heap.size eE none 0) := Lib.hid (by rw [hw1]; exact alloc_ec w eE none 0 _)
  have HP1 := Lib.hid (hp.below HB1.out)
  have HC1 : Hid (Calls Tryd.prog 75 #[.pointer (some ⟨pb, 0, none⟩)] w1 (ParPost pb w1 (runJ (.lev 5 ts)) bad ts)) := Lib.hid (H 5 (by omega) (by omega) w1 pb a c ts bad HP1.out (by simp only [Job.wt] at *; omega))
  have HPL := Lib.hid hp.lt
  have HW1 := Lib.hid hw1
  have HM := Lib.hid hM
  have HSPEC := Lib.hid H
  clear H hw1 hp hM
  go_enter Tryd.func68, Tryd.ntmps68
  go_upto_region 1 with fail
  rw [← HW1.out]
  go_upto_region 2 with (refine HC1.out.mono ?_; rintro e w2 ⟨t, v, a2, c2, ts2, bad2, rfl, ⟨aa, cc, rfl, hcc, hra⟩, hps, hlen, hf, hb1, hb2⟩; simp only [exV])
  obtain ⟨w3, hw3⟩ : ∃ w3, w3 = w2.alloc (.cells #[.int .i64 t.kind, .string t.text, .int .i64 t.num, .slice aa t.args.length cc] 25) := ⟨_, rfl⟩
  rw [← hw3]
  have hb3 : Below w2.heap.size w2 w3 := by rw [hw3]; exact below_alloc _ _
  obtain ⟨be, hbe⟩ : ∃ be, be = w2.heap.size := ⟨_, rfl⟩
  have hec : EC w3 be t aa cc := by rw [hw3, hbe]; exact alloc_ec _ _ _ _ _
  have HBE : Hid (w.heap.size < be) := Lib.hid (by have h1 := hf.size; have h2 := HS1.out; omega)
  have HBEP : Hid (¬ (be = pb)) := Lib.hid (by have := HBE.out; have := HPL.out; omega)
  have HF3 : Hid (Fr (fun x => x = pb) w w3) := Lib.hid ((Fr.of_below (S := fun x => x = pb) HB1.out).trans (hf.trans (.of_below hb3)))
  have HPS3 := Lib.hid (hps.below hb3)
  have HRA3 : Hid (RdA (fun i => w.heap.size < i ∧ i ≠ be) w3 t.args aa) := Lib.hid ((hra.mono (fun i h1 h2 => ⟨by have := HS1.out; omega, by omega⟩)).below hb3)
  have HCC := Lib.hid hcc
  have HLEN := Lib.hid hlen
  have HK1 := Lib.hid hb1
  have HK2 := Lib.hid hb2
  have HTC3 : Hid (EC w3 w.heap.size eE none 0) := Lib.hid ((HTC.out.fr hf (by have := HPL.out; omega)).below hb3)
  have HS3 : Hid (w3.heap.size = be + 1) := Lib.hid (by rw [hw3, hbe]; simp)
  rw [← hbe]
  obtain ⟨w4, hw4⟩ : ∃ w4, w4 = w3.alloc (.cells #[.string ⟨#[61, 61]⟩, .string ⟨#[33, 61]⟩, .string ⟨#[60]⟩, .string ⟨#[60, 61]⟩] 9) := ⟨_, rfl⟩
  have HB4 : Hid (Below w3.heap.size w3 w4) := Lib.hid (by rw [hw4]; exact below_alloc _ _)
  have HPS4 := Lib.hid (HPS3.out.below HB4.out)
  have HAT : Hid (Calls Tryd.prog 60 #[.pointer (some ⟨pb, 0, none⟩), .int .i64 5, .slice (some ⟨w3.heap.size, 0, none⟩) 4 4] w4 fun e w' => e = .returned (.bool (isT 5 (lvlO 4) ts2)) ∧ w4 = w') := Lib.hid (at_any 5 (lvlO 4) (by simp [lvlO]) (by omega) (by simp [lvlO]) w3.heap.size 4 w4 (fun j hj => by
      have hj : j < 4 := hj
      rw [hw4]
      match j, hj with
      | 0, _ => simp; rfl
      | 1, _ => simp; rfl
      | 2, _ => simp; rfl
      | 3, _ => simp; rfl) HPS4.out)
  have HW4 := Lib.hid hw4
  have HEC4 := Lib.hid (hec.below HB4.out)
  have HTC4 := Lib.hid (HTC3.out.below HB4.out)
  have HRA4 := Lib.hid (HRA3.out.below HB4.out)
  have HF4 : Hid (Fr (fun x => x = pb) w w4) := Lib.hid (HF3.out.trans (.of_below HB4.out))
  have HBW : Hid (be < w4.heap.size) := Lib.hid HEC4.out.lt
  clear hw3 hb3 hbe hec hcc hra hps hlen hf hb1 hb2 hw4
  cases hi : isT 5 (lvlO 4) ts2 with
  | false =>
    rw [hi] at HAT
    have HRES : Hid (bad = false → if bad2 = true then runJ (.lev 4 ts) = none else runJ (.lev 4 ts) = some (t, ts2)) := Lib.hid (fun h => by
      have h2 := HK2.out h
      rw [runJ_cmp]; unfold cmpJ
      split at h2
      · rename_i hx; rw [if_pos hx, h2]; rfl
      · rename_i hx; rw [if_neg hx, h2]; show (if isT 5 (lvlO 4) ts2 then _ else _) = _; rw [hi]; rfl)
    clear hi
    obtain ⟨x0, x1, x2, x3, xf⟩ := HEC4.out
    obtain ⟨y0, y1, y2, y3, yf⟩ := HTC4.out
    have yf0 := yf 0
    have yf1 := yf 1
    have yf2 := yf 2
    have yf3 := yf 3
    clear xf yf
    go_wp2_with (go_at_call 60; rw [← HW4.out]; refine HAT.out.mono ?_; rintro e w5 ⟨rfl, rfl⟩)
    exact bodyPost_ret (v := .agg #[.int .i64 t.kind, .string t.text, .int .i64 t.num, .slice aa t.args.length cc]) (by simp [results, Tryd.results68, go_sem, y0, y1, y2, y3]; try rfl) rfl (fin_par HPS4.out HCC.out HRA4.out HF4.out (ParPost.sofar (pb := pb) (w := w) HLEN.out HK1.out HRES.out) (fun _ => rfl) (fr4 w4 w.heap.size (.int .i64 t.kind) (.string t.text) (.int .i64 t.num) (.slice aa t.args.length cc)) HPL.out)
  | true =>
    obtain ⟨t0, r0, rfl⟩ : ∃ t0 r0, ts2 = t0 :: r0 := by
      cases ts2 with
      | nil => cases hi
      | cons a b => exact ⟨a, b, rfl⟩
    rw [hi] at HAT
    have HTK := Lib.hid (take_any HPS4.out)
    simp only [hdV, tokV, TakePost, List.isEmpty, Bool.or_false, List.tail_cons] at HTK
    have hfld := fld1 (t0.1.1 : Nat) (bs t0.1.2.1) (t0.1.2.2 : Nat) (t0.2 : Nat)
    have HI := Lib.hid hi
    clear hi
    go_upto_region 4 with (first | (go_at_call 60; rw [← HW4.out]; refine HAT.out.mono ?_; rintro e9 w9 ⟨rfl, rfl⟩) | (go_at_call 61; refine HTK.out.mono ?_; rintro e9 w5 ⟨rfl, ⟨a5, c5, hps5⟩, hf5⟩; have HPS5 := Lib.hid hps5; have HF5 := Lib.hid hf5; clear hps5 hf5))
    have HEC5 := Lib.hid (HEC4.out.fr HF5.out HBEP.out).drew
    obtain ⟨x0, x1, x2, x3, xf⟩ := HEC5.out
    have HC5 : Hid (Calls Tryd.prog 75 #[.pointer (some ⟨pb, 0, none⟩)] w5.drew (ParPost pb w5.drew (runJ (.lev 5 r0)) bad2 r0)) := Lib.hid (HSPEC.out 5 (by omega) (by omega) w5.drew pb a5 c5 r0 bad2 HPS5.out.drew (by have h1 := HM.out; have h2 := HLEN.out; simp only [Job.wt, List.length_cons] at *; omega))
    go_region_with (first
      | (go_at_call 62; refine (call_any _ _ _ _ _).mono ?_; rintro e9 w7 ⟨rfl, hb7⟩; obtain ⟨q0, q1, q2, q3, qf⟩ := (HEC6.out.below (below_alloc _ _)).below hb7; have qf0 := qf 0; have qf1 := qf 1; have qf2 := qf 2; have qf3 := qf 3; clear qf)
      | (go_at_call 75; refine HC5.out.mono ?_; rintro e9 w6 ⟨t6, v6, a6, c6, ts6, bad6, rfl, ⟨aa6, cc6, rfl, hcc6, hra6⟩, hps6, hlen6, hf6, hb6, hb6'⟩; simp only [exV]; have HEC6 := Lib.hid (HEC5.out.fr hf6 HBEP.out); obtain ⟨z0, z1, z2, z3, zf⟩ := HEC6.out; clear zf))
    all_goals
      have HF6 : Hid (Fr (fun x => x = pb) w4 w6) := Lib.hid (HF5.out.drew.trans hf6)
      have HB67 := Lib.hid (bthen (below_alloc w6 (.cells #[.int .i64 t.kind, .string t.text, .int .i64 t.num, .slice aa t.args.length cc, .int .i64 t6.kind, .string t6.text, .int .i64 t6.num, .slice aa6 t6.args.length cc6] 25)) hb7)
      have HW5 : Hid (w4.heap.size ≤ w5.drew.heap.size) := Lib.hid HF5.out.drew.size
      have HW6 : Hid (w4.heap.size ≤ w6.heap.size) := Lib.hid HF6.out.size
      have HRA6 : Hid (RdA (fun i => w.heap.size < i ∧ i ≠ be) w6 t.args aa) := Lib.hid (HRA4.out.fr HF6.out (fun i hi e => by have := HPL.out; omega))
      have HRT6 : Hid (RdA (fun i => w.heap.size < i ∧ i ≠ be) w6 t6.args aa6) := Lib.hid (hra6.mono (fun i h1 h2 => ⟨by have := HBE.out; have := HBW.out; have := HW5.out; omega, by have := HBW.out; have := HW5.out; omega⟩))
      have HRB : Hid (RdA (fun i => w.heap.size < i ∧ i ≠ be) w7 [t, t6] (some ⟨w6.heap.size, 0, none⟩)) := Lib.hid ((rdA_block [(t, aa, cc), (t6, aa6, cc6)] (heap_new_at rfl) rfl ⟨by have := HBE.out; have := HBW.out; have := HW6.out; omega, by have := HBW.out; have := HW6.out; omega⟩ (fun x hx => by
        rcases List.mem_cons.1 hx with rfl | hx
        · exact ⟨HCC.out, HRA6.out.below (below_alloc _ _)⟩
        · rcases List.mem_cons.1 hx with rfl | hx
          · exact ⟨hcc6, HRT6.out.below (below_alloc _ _)⟩
          · cases hx)).below hb7)
      have HEC7 := Lib.hid ((HEC6.out.below (below_alloc _ _)).below hb7)
      have HPS7 := Lib.hid ((hps6.below (below_alloc _ _)).below hb7)
      have HF7 : Hid (Fr (fun x => x = pb) w4 w7) := Lib.hid (HF6.out.trans (.of_below HB67.out))
      have HSO6 : Hid (Sofar (runJ (.lev 4 ts)) (some (callE t0.1.2.1 [t, t6], ts6)) bad bad6 ts ts6) := Lib.hid ⟨by have := HLEN.out; simp only [List.length_cons] at this; omega, fun h => hb6 (HK1.out h), fun h => by
        have h1 := HK2.out h
        rw [runJ_cmp]; unfold cmpJ
        split at h1
        · rename_i hx
          rw [if_pos (hb6 hx), h1]; rfl
        · rename_i hx
          have h2 := hb6' (by simpa using hx)
          rw [h1]
          simp only [Option.bind_some, HI.out, if_true, List.tail_cons]
          split at h2
          · rename_i hy; rw [if_pos hy, h2]; rfl
          · rename_i hy; rw [if_neg hy, h2]; rfl⟩
      have HL6 := Lib.hid hlen6
      clear hra6 hps6 hlen6 hf6 hb6 hb6' hb7 x0 x1 x2 x3 xf z0 z1 z2 z3 q0 q1 q2 q3 qf0 qf1 qf2 qf3 hcc6
      obtain ⟨wf, hwf⟩ : ∃ wf, wf = ((((w7.setCell ⟨be, 0, none⟩ (.int .i64 4)).setCell ⟨be, 1, none⟩ (.string (bs t0.1.2.1))).setCell ⟨be, 2, none⟩ (.int .i64 0)).setCell ⟨be, 3, none⟩ (.slice (some ⟨w6.heap.size, 0, none⟩) 2 2)) := ⟨_, rfl⟩
      rw [← hwf]
      have HFF : Hid (Fr (fun x => x = be) w7 wf) := Lib.hid (by rw [hwf]; exact fr4 w7 be _ _ _ _)
      have HECF : Hid (EC wf be (callE t0.1.2.1 [t, t6]) (some ⟨w6.heap.size, 0, none⟩) 2) := Lib.hid (by rw [hwf]; exact set_ec HEC7.out (callE t0.1.2.1 [t, t6]) (some ⟨w6.heap.size, 0, none⟩) 2)
      have HTCF : Hid (EC wf w.heap.size eE none 0) := Lib.hid ((HTC4.out.fr HF7.out (by have := HPL.out; omega)).fr HFF.out (by have := HBE.out; omega))
      have HPSF := Lib.hid (HPS7.out.fr HFF.out (fun e => HBEP.out e.symm) (fun x hx _ e => by have := HPS7.out.ap x hx; have := HPL.out; have := HBE.out; omega))
      have HRF := Lib.hid (HRB.out.fr HFF.out (fun i hi e => hi.2 e))
      have HFWF : Hid (Fr (fun x => x = pb) w wf) := Lib.hid ((HF4.out.trans HF7.out).then HFF.out (fun i e => .inr (by have := HBE.out; omega)))
      clear hwf
      obtain ⟨y0, y1, y2, y3, yf⟩ := HTCF.out
      have yf0 := yf 0
      have yf1 := yf 1
      have yf2 := yf 2
      have yf3 := yf 3
      obtain ⟨x0, x1, x2, x3, xf⟩ := HECF.out
      change wf.cell? ⟨be, 0, none⟩ = some (.int .i64 4) at x0
      change wf.cell? ⟨be, 1, none⟩ = some (.string (bs t0.1.2.1)) at x1
      change wf.cell? ⟨be, 2, none⟩ = some (.int .i64 0) at x2
      change wf.cell? ⟨be, 3, none⟩ = some (.slice (some ⟨w6.heap.size, 0, none⟩) 2 2) at x3
      clear xf yf
      go_wp2
      exact bodyPost_ret (v := .agg #[.int .i64 4, .string (bs t0.1.2.1), .int .i64 0, .slice (some ⟨w6.heap.size, 0, none⟩) 2 2]) (by simp [results, Tryd.results68, go_sem, y0, y1, y2, y3]; try rfl) rfl (fin_par (e := callE t0.1.2.1 [t, t6]) HPSF.out (by simp [callE, Ex.args]) HRF.out HFWF.out HSO6.out (fun _ => rfl) (fr4 wf w.heap.size (.int .i64 4) (.string (bs t0.1.2.1)) (.int .i64 0) (.slice (some ⟨w6.heap.size, 0, none⟩) 2 2)) HPL.out)

end Go.Proofs.YtpabngicbfcdkaaDoor

/- The parser: post. -/
namespace Go.Proofs.YtpabngicbfcdkaaDoor
open Go.RowKit
set_option linter.unusedVariables false
set_option linter.unusedSimpArgs false

theorem post_sofar {all : Res} {bad bad6 bad8 : Bool} {ts r0 ts6 ts8 : List Tk} {t0 : Tk} {e t6 t8 : Ex} (hi : isT 5 [[91]] (t0 :: r0) = true) (hs : Sofar all (runJ (.post e (t0 :: r0))) bad false ts (t0 :: r0))
    (h6l : ts6.length ≤ r0.length) (h6 : if bad6 = true then runJ (.lev 1 r0) = none else runJ (.lev 1 r0) = some (t6, ts6))
    (h8l : ts8.length ≤ (if isT 5 [[58]] ts6 then ts6.tail else ts6).length) (h8b : (if isT 5 [[58]] ts6 then bad6 else true) = true → bad8 = true)
    (h8 : (if isT 5 [[58]] ts6 then bad6 else true) = false → if bad8 = true then runJ (.lev 1 (if isT 5 [[58]] ts6 then ts6.tail else ts6)) = none else runJ (.lev 1 (if isT 5 [[58]] ts6 then ts6.tail else ts6)) = some (t8, ts8)) :
    Sofar all (runJ (.post (callE wCut [e, t6, t8]) (if isT 5 [[93]] ts8 then ts8.tail else ts8))) bad (if isT 5 [[93]] ts8 then bad8 else true) ts (if isT 5 [[93]] ts8 then ts8.tail else ts8) ∧ (if isT 5 [[93]] ts8 then ts8.tail else ts8).length ≤ r0.length := by
  have hl : (if isT 5 [[93]] ts8 then ts8.tail else ts8).length ≤ ts8.length := by split <;> simp
  have hl6 : (if isT 5 [[58]] ts6 then ts6.tail else ts6).length ≤ ts6.length := by split <;> simp
  have hlt := hs.1
  simp only [List.length_cons] at hlt
  refine ⟨⟨by omega, fun h => absurd (hs.2.1 h) (by simp), fun h => ?_⟩, by omega⟩
  have h1 := hs.2.2 h
  rw [if_neg (by simp), runJ_post] at h1
  unfold postJ at h1
  rw [hi, if_pos rfl, List.tail_cons] at h1
  rw [h1]
  cases hb6 : bad6 with
  | true =>
    rw [hb6] at h6 h8b
    rw [if_pos rfl] at h6
    have h8t := h8b (by split <;> rfl)
    rw [h6, h8t]
    rw [if_pos (by split <;> rfl)]
    rfl
  | false =>
    rw [hb6, if_neg (by simp)] at h6
    rw [h6]
    simp only [Option.bind_some]
    cases hc : isT 5 [[58]] ts6 with
    | false =>
      rw [hc] at h8b
      have h8t := h8b rfl
      rw [h8t, if_pos (by split <;> rfl)]
      rfl
    | true =>
      rw [hc, hb6] at h8
      have h8 := h8 rfl
      simp only [if_true] at h8 ⊢
      cases hb8 : bad8 with
      | true =>
        rw [hb8, if_pos rfl] at h8
        rw [h8, if_pos (by split <;> rfl)]
        rfl
      | false =>
        rw [hb8, if_neg (by simp)] at h8
        rw [h8]
        simp only [Option.bind_some]
        cases hd : isT 5 [[93]] ts8 with
        | false => simp
        | true => simp

def CHP (w : World) (pb be : Nat) (all : Res) (bad : Bool) (ts : List Tk) (wr : World) (e : Ex) (ts' : List Tk) (bad' : Bool) : Prop :=
  (∃ a c, PS wr pb a c ts' bad') ∧ (∃ aa cc, EC wr be e aa cc ∧ e.args.length ≤ cc ∧ RdA (fun i => w.heap.size < i ∧ i ≠ be) wr e.args aa) ∧ Fr (fun x => x = pb) w wr ∧
  Sofar all (runJ (.post e ts')) bad bad' ts ts'

set_option maxRecDepth 100000 in
set_option maxHeartbeats 3000000 in
theorem lev8_any (M : Nat) (H : Spec M) (w : World) (pb : Nat) (a : Option Addr) (c : Nat) (ts : List Tk) (bad : Bool) (hp : PS w pb a c ts bad) (hM : (Job.lev 8 ts).wt ≤ M) :
    Calls Tryd.prog 85 #[.pointer (some ⟨pb, 0, none⟩)] w (ParPost pb w (runJ (.lev 8 ts)) bad ts) := by
  obtain ⟨w1, hw1⟩ : ∃ w1, w1 = w.alloc (.cells #[.int .i64 0, .string ⟨#[]⟩, .int .i64 0, .slice none 0 0] 25) := ⟨_, rfl⟩
  have HB1 : Hid (Below w.heap.size w w1) := Lib.hid (by rw [hw1]; exact below_alloc _ _)
  have HS1 : Hid (w1.heap.size = w.heap.size + 1) := Lib.hid (by rw [hw1]; simp)
  have HTC : Hid (EC w1 w.heap.size eE none 0) := Lib.hid (by rw [hw1]; exact alloc_ec w eE none 0 _)
  have HP1 := Lib.hid (hp.below HB1.out)
  have HC1 : Hid (Calls Tryd.prog 86 #[.pointer (some ⟨pb, 0, none⟩)] w1 (ParPost pb w1 (runJ (.lev 9 ts)) bad ts)) := Lib.hid (H 9 (by omega) (by omega) w1 pb a c ts bad HP1.out (by simp only [Job.wt] at *; omega))
  have HPL := Lib.hid hp.lt
  have HW1 := Lib.hid hw1
  have HM := Lib.hid hM
  have HQ : Hid (∀ (w : World) (a : Option Addr) (c : Nat) (ts' : List Tk) (bad : Bool), PS w pb a c ts' bad → ts'.length < ts.length → Calls Tryd.prog 31 #[.pointer (some ⟨pb, 0, none⟩)] w (ParPost pb w (runJ (.lev 1 ts')) bad ts')) := Lib.hid (fun w a c ts' bad h hl => H 1 (by omega) (by omega) w pb a c ts' bad h (by simp only [Job.wt] at *; omega))
  clear H hw1 hp hM
  go_enter Tryd.func85, Tryd.ntmps85
  go_upto_region 1 with fail
  rw [← HW1.out]
  go_wp2_with (refine HC1.out.mono ?_; rintro e w2 ⟨t, v, a2, c2, ts2, bad2, rfl, ⟨aa, cc, rfl, hcc, hra⟩, hps, hlen, hf, hb1, hb2⟩; simp only [exV])
  obtain ⟨w3, hw3⟩ : ∃ w3, w3 = w2.alloc (.cells #[.int .i64 t.kind, .string t.text, .int .i64 t.num, .slice aa t.args.length cc] 25) := ⟨_, rfl⟩
  rw [← hw3]
  have hb3 : Below w2.heap.size w2 w3 := by rw [hw3]; exact below_alloc _ _
  obtain ⟨be, hbe⟩ : ∃ be, be = w2.heap.size := ⟨_, rfl⟩
  have hec : EC w3 be t aa cc := by rw [hw3, hbe]; exact alloc_ec _ _ _ _ _
  have HBE : Hid (w.heap.size < be) := Lib.hid (by have h1 := hf.size; have h2 := HS1.out; omega)
  have HBEP : Hid (¬ (be = pb)) := Lib.hid (by have := HBE.out; have := HPL.out; omega)
  have HCH : Hid (CHP w pb be (runJ (.lev 8 ts)) bad ts w3 t ts2 bad2) := Lib.hid ⟨⟨a2, c2, hps.below hb3⟩, ⟨aa, cc, hec, hcc, (hra.mono (fun i h1 h2 => ⟨by have := HS1.out; omega, by omega⟩)).below hb3⟩, (Fr.of_below (S := fun x => x = pb) HB1.out).trans (hf.trans (.of_below hb3)), hlen, hb1, fun h => by
    have h2 := hb2 h
    rw [runJ_pst]
    split at h2
    · rename_i hx; rw [if_pos hx, h2]; rfl
    · rename_i hx; rw [if_neg hx, h2]; rfl⟩
  have HTC3 : Hid (EC w3 w.heap.size eE none 0) := Lib.hid ((HTC.out.fr hf (by have := HPL.out; omega)).below hb3)
  rw [← hbe]
  clear hw3 hb3 hbe hec hcc hra hps hlen hf hb1 hb2
  go_loopg [4] (ts.length + 1) (fun gg nv wr => ∃ (e : Ex) (ts' : List Tk) (bad' : Bool), ts'.length + 1 ≤ gg ∧ CHP w pb be (runJ (.lev 8 ts)) bad ts wr e ts' bad' ∧ EC wr w.heap.size eE none 0)
  case atStart => exact ⟨t, ts2, bad2, by have := HCH.out.2.2.2.1; omega, HCH.out, HTC3.out⟩
  case round =>
    clear HCH HTC3
    obtain ⟨e, ts', bad', hgg, ⟨⟨a', c', hps⟩, ⟨aa, cc, hec, hcc, hra⟩, hfr, hso⟩, htc⟩ := hrel
    have HGQ := Lib.hid hgg
    have HPS := Lib.hid hps
    have HRA := Lib.hid hra
    have HFR := Lib.hid hfr
    have HSO := Lib.hid hso
    have HCC := Lib.hid hcc
    have HEC := Lib.hid hec
    have HTCR := Lib.hid htc
    have c1 := hps.c1
    obtain ⟨w4, hw4⟩ : ∃ w4, w4 = wr.alloc (.cells #[.string ⟨#[91]⟩] 9) := ⟨_, rfl⟩
    have HB4 : Hid (Below wr.heap.size wr w4) := Lib.hid (by rw [hw4]; exact below_alloc _ _)
    have HPS4 := Lib.hid (hps.below HB4.out)
    have HAT : Hid (Calls Tryd.prog 60 #[.pointer (some ⟨pb, 0, none⟩), .int .i64 5, .slice (some ⟨wr.heap.size, 0, none⟩) 1 1] w4 fun e w' => e = .returned (.bool (isT 5 [[91]] ts')) ∧ w4 = w') := Lib.hid (at_any 5 [[91]] (by simp) (by omega) (by simp) wr.heap.size 1 w4 (fun j hj => by
      have hj : j < 1 := hj
      rw [hw4]
      match j, hj with
      | 0, _ => simp; rfl) HPS4.out)
    have HW4 := Lib.hid hw4
    clear hgg hps hra hfr hso hcc hec htc hw4
    cases hbd : bad' with
    | true =>
      subst hbd
      obtain ⟨x0, x1, x2, x3, xf⟩ := HEC.out
      obtain ⟨y0, y1, y2, y3, yf⟩ := HTCR.out
      have yf0 := yf 0
      have yf1 := yf 1
      have yf2 := yf 2
      have yf3 := yf 3
      clear xf yf
      go_wp2
      exact bodyPost_ret (v := .agg #[.int .i64 e.kind, .string e.text, .int .i64 e.num, .slice aa e.args.length cc]) (by simp [results, Tryd.results85, go_sem, y0, y1, y2, y3]; try rfl) rfl (fin_par HPS.out HCC.out HRA.out HFR.out HSO.out (fun h => by cases h) (fr4 wr w.heap.size (.int .i64 e.kind) (.string e.text) (.int .i64 e.num) (.slice aa e.args.length cc)) HPL.out)
    | false =>
      subst hbd
      have HEC4 := Lib.hid (HEC.out.below HB4.out)
      have HTC4 := Lib.hid (HTCR.out.below HB4.out)
      cases hi : isT 5 [[91]] ts' with
      | false =>
        rw [hi] at HAT
        have HRES : Hid (runJ (.post e ts') = some (e, ts')) := Lib.hid (by rw [runJ_post]; unfold postJ; rw [hi]; rfl)
        obtain ⟨x0, x1, x2, x3, xf⟩ := HEC4.out
        obtain ⟨y0, y1, y2, y3, yf⟩ := HTC4.out
        have yf0 := yf 0
        have yf1 := yf 1
        have yf2 := yf 2
        have yf3 := yf 3
        clear hi xf yf
        go_wp2_with (rw [← HW4.out]; refine HAT.out.mono ?_; rintro e9 w9 ⟨rfl, rfl⟩)
        exact bodyPost_ret (v := .agg #[.int .i64 e.kind, .string e.text, .int .i64 e.num, .slice aa e.args.length cc]) (by simp [results, Tryd.results85, go_sem, y0, y1, y2, y3]; try rfl) rfl (fin_par HPS4.out HCC.out (HRA.out.below HB4.out) (HFR.out.trans (.of_below HB4.out)) HSO.out (fun _ => HRES.out) (fr4 w4 w.heap.size (.int .i64 e.kind) (.string e.text) (.int .i64 e.num) (.slice aa e.args.length cc)) HPL.out)
      | true =>
        obtain ⟨t0, r0, rfl⟩ : ∃ t0 r0, ts' = t0 :: r0 := by
          cases ts' with
          | nil => cases hi
          | cons a b => exact ⟨a, b, rfl⟩
        rw [hi] at HAT
        have HI := Lib.hid hi
        have HRL : Hid (r0.length < ts.length) := Lib.hid (by have := HSO.out.1; simp only [List.length_cons] at this; omega)
        have HTK := Lib.hid (take_any HPS4.out)
        simp only [hdV, tokV, TakePost, List.isEmpty, Bool.or_false, List.tail_cons] at HTK
        clear hi
        go_upto_region 5 with (first
          | (go_at_call 60; rw [← HW4.out]; refine HAT.out.mono ?_; rintro e9 w9 ⟨rfl, rfl⟩)
          | (go_at_call 61; refine HTK.out.mono ?_; rintro e9 w5 ⟨rfl, ⟨a5, c5, hps5⟩, hf5⟩; have HPS5 := Lib.hid hps5; have HF5 := Lib.hid hf5; clear hps5 hf5)
          | (go_at_call 31; refine (HQ.out _ _ _ _ _ HPS5.out HRL.out).mono ?_; rintro e9 w6 ⟨t6, v6, a6, c6, ts6, bad6, rfl, ⟨aa6, cc6, rfl, hcc6, hra6⟩, hps6, hlen6, hf6, hb6, hb6'⟩; simp only [exV]))
        obtain ⟨w7, hw7⟩ : ∃ w7, w7 = w6.alloc (.cells #[.int .i64 t6.kind, .string t6.text, .int .i64 t6.num, .slice aa6 t6.args.length cc6] 25) := ⟨_, rfl⟩
        rw [← hw7]
        have HB7 : Hid (Below w6.heap.size w6 w7) := Lib.hid (by rw [hw7]; exact below_alloc _ _)
        obtain ⟨bf, hbf⟩ : ∃ bf, bf = w6.heap.size := ⟨_, rfl⟩
        have HECB : Hid (EC w7 bf t6 aa6 cc6) := Lib.hid (by rw [hw7, hbf]; exact alloc_ec _ _ _ _ _)
        have HF47 : Hid (Fr (fun x => x = pb) w4 w7) := Lib.hid (HF5.out.trans (hf6.trans (.of_below HB7.out)))
        have HBW : Hid (be < w4.heap.size) := Lib.hid HEC4.out.lt
        have HBF : Hid (w4.heap.size ≤ bf) := Lib.hid (by have h1 := HF5.out.size; have h2 := hf6.size; omega)
        have HRT7 : Hid (RdA (fun i => w.heap.size < i ∧ i ≠ be) w7 t6.args aa6) := Lib.hid ((hra6.mono (fun i h1 h2 => ⟨by have := HBE.out; have := HBW.out; have := HF5.out.size; omega, by have := HBW.out; have := HF5.out.size; omega⟩)).below HB7.out)
        have HPS7 := Lib.hid (hps6.below HB7.out)
        have HCC6 := Lib.hid hcc6
        have HLEN6 := Lib.hid hlen6
        have HK6 := Lib.hid (hb6' rfl)
        obtain ⟨ts7, hts7⟩ : ∃ x, x = (if isT 5 [[58]] ts6 then ts6.tail else ts6) := ⟨_, rfl⟩
        obtain ⟨bad7, hbad7⟩ : ∃ x, x = (if isT 5 [[58]] ts6 then bad6 else true) := ⟨_, rfl⟩
        have HTS7 := Lib.hid hts7
        have HBAD7 := Lib.hid hbad7
        have HEX : Hid (Calls Tryd.prog 87 #[.pointer (some ⟨pb, 0, none⟩), .string ⟨#[58]⟩] w7 fun e w' => e = .returned (.tuple #[]) ∧ (∃ a' c', PS w' pb a' c' ts7 bad7) ∧ Fr (fun x => x = pb) w7 w') := Lib.hid (by rw [hts7, hbad7]; exact expect_any [58] (by simp) HPS7.out)
        have HL7 : Hid (ts7.length < ts.length) := Lib.hid (by
          have h1 := HLEN6.out
          have h2 := HRL.out
          have h3 : ts7.length ≤ ts6.length := by rw [hts7]; split <;> simp
          omega)
        clear hts7 hbad7
        rw [← hbf]
        clear hw7 hbf hra6 hps6 hcc6 hlen6 hb6 hb6' hf6 c1
        go_upto_region 7 with (first
          | (go_at_call 87; refine HEX.out.mono ?_; rintro e9 w8 ⟨rfl, ⟨a8, c8, hps8⟩, hf8⟩; have HPS8 := Lib.hid hps8; have HF8 := Lib.hid hf8; clear hps8 hf8)
          | (go_at_call 31; refine (HQ.out _ _ _ _ _ HPS8.out HL7.out).mono ?_; rintro e9 w9 ⟨t9, v9, a9, c9, ts9, bad9, rfl, ⟨aa9, cc9, rfl, hcc9, hra9⟩, hps9, hlen9, hf9, hb9, hb9'⟩; simp only [exV]))
        obtain ⟨w10, hw10⟩ : ∃ w10, w10 = w9.alloc (.cells #[.int .i64 t9.kind, .string t9.text, .int .i64 t9.num, .slice aa9 t9.args.length cc9] 25) := ⟨_, rfl⟩
        rw [← hw10]
        have HB10 : Hid (Below w9.heap.size w9 w10) := Lib.hid (by rw [hw10]; exact below_alloc _ _)
        obtain ⟨bn, hbn⟩ : ∃ bn, bn = w9.heap.size := ⟨_, rfl⟩
        have HECC : Hid (EC w10 bn t9 aa9 cc9) := Lib.hid (by rw [hw10, hbn]; exact alloc_ec _ _ _ _ _)
        have HF810 : Hid (Fr (fun x => x = pb) w7 w10) := Lib.hid (HF8.out.trans (hf9.trans (.of_below HB10.out)))
        have HBN : Hid (w7.heap.size ≤ bn) := Lib.hid (by have h1 := HF8.out.size; have h2 := hf9.size; omega)
        have HS7 : Hid (w4.heap.size ≤ w7.heap.size) := Lib.hid HF47.out.size
        have HRT10 : Hid (RdA (fun i => w.heap.size < i ∧ i ≠ be) w10 t9.args aa9) := Lib.hid ((hra9.mono (fun i h1 h2 => ⟨by have := HBE.out; have := HBW.out; have := HF8.out.size; have := HS7.out; omega, by have := HBW.out; have := HF8.out.size; have := HS7.out; omega⟩)).below HB10.out)
        have HPS10 := Lib.hid (hps9.below HB10.out)
        have HCC9 := Lib.hid hcc9
        have HPSO := Lib.hid (post_sofar (t8 := t9) (ts8 := ts9) (bad8 := bad9) HI.out HSO.out HLEN6.out HK6.out (by rw [← HTS7.out]; exact hlen9) (by rw [← HBAD7.out]; exact hb9) (by rw [← HTS7.out, ← HBAD7.out]; exact hb9'))
        obtain ⟨tsX, htsX⟩ : ∃ x, x = (if isT 5 [[93]] ts9 then ts9.tail else ts9) := ⟨_, rfl⟩
        obtain ⟨badX, hbadX⟩ : ∃ x, x = (if isT 5 [[93]] ts9 then bad9 else true) := ⟨_, rfl⟩
        rw [← htsX, ← hbadX] at HPSO
        have HEX2 : Hid (Calls Tryd.prog 87 #[.pointer (some ⟨pb, 0, none⟩), .string ⟨#[93]⟩] w10 fun e w' => e = .returned (.tuple #[]) ∧ (∃ a' c', PS w' pb a' c' tsX badX) ∧ Fr (fun x => x = pb) w10 w') := Lib.hid (by rw [htsX, hbadX]; exact expect_any [93] (by simp) HPS10.out)
        rw [← hbn]
        clear hw10 hbn hra9 hps9 hcc9 hlen9 hb9 hb9' hf9 htsX hbadX
        have HBFP : Hid (¬ (bf = pb)) := Lib.hid (by have := HBF.out; have := HBW.out; have := HBE.out; have := HPL.out; omega)
        have HBNP : Hid (¬ (bn = pb)) := Lib.hid (by have := HBN.out; have := HS7.out; have := HBW.out; have := HBE.out; have := HPL.out; omega)
        go_upto_region 8 with (go_at_call 87; refine HEX2.out.mono ?_; rintro e9 w11 ⟨rfl, ⟨a11, c11, hps11⟩, hf11⟩; have HPS11 := Lib.hid hps11; have HF11 := Lib.hid hf11; clear hps11 hf11)
        have HF411 : Hid (Fr (fun x => x = pb) w4 w11) := Lib.hid ((HF47.out.trans HF810.out).trans HF11.out)
        have HECA := Lib.hid (HEC4.out.fr HF411.out HBEP.out)
        obtain ⟨x0, x1, x2, x3, xf⟩ := HECA.out
        obtain ⟨z0, z1, z2, z3, zf⟩ := (HECB.out.fr (HF810.out.trans HF11.out) HBFP.out)
        obtain ⟨q0, q1, q2, q3, qf⟩ := (HECC.out.fr HF11.out HBNP.out)
        clear xf zf qf
        go_wp2_with (go_at_call 62; refine (call_any _ _ _ _ _).mono ?_; rintro e9 w12 ⟨rfl, hb12⟩; have HEC12 := Lib.hid ((HECA.out.below (below_alloc _ _)).below hb12); obtain ⟨p0, p1, p2, p3, pf⟩ := HEC12.out; have pf0 := pf 0; have pf1 := pf 1; have pf2 := pf 2; have pf3 := pf 3; clear pf)
        have HB1112 := Lib.hid (bthen (below_alloc w11 (.cells #[.int .i64 e.kind, .string e.text, .int .i64 e.num, .slice aa e.args.length cc, .int .i64 t6.kind, .string t6.text, .int .i64 t6.num, .slice aa6 t6.args.length cc6, .int .i64 t9.kind, .string t9.text, .int .i64 t9.num, .slice aa9 t9.args.length cc9] 25)) hb12)
        have HW11 : Hid (w4.heap.size ≤ w11.heap.size) := Lib.hid HF411.out.size
        have HTG : Hid (w.heap.size < w11.heap.size ∧ w11.heap.size ≠ be) := Lib.hid ⟨by have := HBE.out; have := HBW.out; have := HW11.out; omega, by have := HBW.out; have := HW11.out; omega⟩
        have HNP : Hid (∀ i, (w.heap.size < i ∧ i ≠ be) → ¬ (i = pb)) := Lib.hid (fun i hi e => by have := HPL.out; omega)
        have HRB : Hid (RdA (fun i => w.heap.size < i ∧ i ≠ be) w12 [e, t6, t9] (some ⟨w11.heap.size, 0, none⟩)) := Lib.hid ((rdA_block [(e, aa, cc), (t6, aa6, cc6), (t9, aa9, cc9)] (heap_new_at rfl) rfl HTG.out (fun x hx => by
          rcases List.mem_cons.1 hx with rfl | hx
          · exact ⟨HCC.out, ((HRA.out.below HB4.out).fr HF411.out HNP.out).below (below_alloc _ _)⟩
          · rcases List.mem_cons.1 hx with rfl | hx
            · exact ⟨HCC6.out, (HRT7.out.fr (HF810.out.trans HF11.out) HNP.out).below (below_alloc _ _)⟩
            · rcases List.mem_cons.1 hx with rfl | hx
              · exact ⟨HCC9.out, (HRT10.out.fr HF11.out HNP.out).below (below_alloc _ _)⟩
              · cases hx)).below hb12)
        have HPS12 := Lib.hid (HPS11.out.below HB1112.out)
        have HF412 : Hid (Fr (fun x => x = pb) w4 w12) := Lib.hid (HF411.out.trans (.of_below HB1112.out))
        clear x0 x1 x2 x3 z0 z1 z2 z3 q0 q1 q2 q3 p0 p1 p2 p3 pf0 pf1 pf2 pf3 hb12
        obtain ⟨wf, hwf⟩ : ∃ wf, wf = ((((w12.setCell ⟨be, 0, none⟩ (.int .i64 4)).setCell ⟨be, 1, none⟩ (.string ⟨#[99, 117, 116]⟩)).setCell ⟨be, 2, none⟩ (.int .i64 0)).setCell ⟨be, 3, none⟩ (.slice (some ⟨w11.heap.size, 0, none⟩) 3 3)) := ⟨_, rfl⟩
        rw [← hwf]
        have HFF : Hid (Fr (fun x => x = be) w12 wf) := Lib.hid (by rw [hwf]; exact fr4 w12 be _ _ _ _)
        have HECF : Hid (EC wf be (callE wCut [e, t6, t9]) (some ⟨w11.heap.size, 0, none⟩) 3) := Lib.hid (by rw [hwf]; exact set_ec HEC12.out (callE wCut [e, t6, t9]) (some ⟨w11.heap.size, 0, none⟩) 3)
        clear hwf
        go_roundg (r0.length + 1)
        case measure => have := HGQ.out; simp only [List.length_cons] at this; omega
        case rel =>
          exact ⟨callE wCut [e, t6, t9], tsX, badX, by have := HPSO.out.2; omega, ⟨⟨a11, c11, HPS12.out.fr HFF.out (fun e => HBEP.out e.symm) (fun x hx _ e => by have := HPS12.out.ap x hx; have := HPL.out; have := HBE.out; omega)⟩, ⟨_, _, HECF.out, by simp [callE, Ex.args], HRB.out.fr HFF.out (fun i hi e => hi.2 e)⟩, ((HFR.out.trans (.of_below HB4.out)).trans HF412.out).then HFF.out (fun i e => .inr (by have := HBE.out; omega)), HPSO.out.1⟩, (HTC4.out.fr HF412.out (by have := HPL.out; omega)).fr HFF.out (by have := HBE.out; omega)⟩

end Go.Proofs.YtpabngicbfcdkaaDoor

/- The parser: arguments. -/
namespace Go.Proofs.YtpabngicbfcdkaaDoor
open Go.RowKit
set_option linter.unusedVariables false
set_option linter.unusedSimpArgs false

theorem EExpr : EltG Tryd.prog 23 25 (.agg #[.int .i64 0, .string ByteArray.empty, .int .i64 0, .slice none 0 0]) 4 56 := ⟨Tryd.underlying23, info_parts (by kernel_rfl), rfl, by decide⟩
theorem cellsX_snoc (L : List TV) (x : TV) : cellsX (L ++ [x]) = cellsX L ++ [.int .i64 x.1.kind, .string x.1.text, .int .i64 x.1.num, .slice x.2.1 x.1.args.length x.2.2] := by simp [cellsX]
/-- trees in a row -/
theorem rdA_row {T : Nat → Prop} {w : World} {B : Nat} {ty : TypeId} {a : Option Addr} {c : Nat} (L : List TV) (hr : Row w B ty 4 (.slice a L.length c) L.length (cellsX L)) (hT : ∀ g, (Value.slice a L.length c).ownBlock = some g → T g)
    (h : ∀ x ∈ L, x.1.args.length ≤ x.2.2 ∧ RdA T w x.1.args x.2.1) : RdA T w (L.map (·.1)) a := by
  by_cases h0 : L = []
  · subst h0; exact .inl rfl
  have hlen : 0 < L.length := List.length_pos_iff.2 h0
  have hr0 := hr
  rcases hr.2 with ⟨hv, hn⟩ | ⟨g, cap, cur, hv, hb, hg, rest⟩
  · omega
  · cases hv
    refine .inr ⟨g, 0, rfl, RdL.of_get fun i t ht => ?_⟩
    rw [List.getElem?_map] at ht
    obtain ⟨x, hx, rfl⟩ := Option.map_eq_some_iff.1 ht
    have hm := h x (List.mem_of_getElem? hx)
    have hi := (List.getElem?_eq_some_iff.1 hx).1
    have hcell : ∀ j, j < L.length * 4 → cur[j]? = (cellsX L)[j]? := fun j hj => by
      have h1 := World.ownsRow.cellAt hr0 j hj
      simp only [World.cell?, hg] at h1
      exact h1
    refine RdE.mk' (hT g rfl) (a := x.2.1) (c := x.2.2) ⟨cur, _, hg, ?_, ?_, ?_, ?_⟩ hm.1 hm.2
    all_goals rw [Nat.zero_add, hcell _ (by omega)]
    · have := cellsX_get L i 0 x hx (by omega); simpa using this
    · have := cellsX_get L i 1 x hx (by omega); simpa using this
    · have := cellsX_get L i 2 x hx (by omega); simpa using this
    · have := cellsX_get L i 3 x hx (by omega); simpa using this

def argsRes (name : List Nat) (ts : List Tk) : Res := if isT 5 [[40]] ts then (if isT 5 [[41]] ts.tail then some (callE name [], ts.tail.tail) else runJ (.args name [] ts.tail)) else none

/-- the walk of arguments between its rounds -/
structure CHA (w : World) (pb be : Nat) (name : List Nat) (all : Res) (ts : List Tk) (wr : World) (L : List TV) (ra : Option Addr) (rc : Nat) (ts' : List Tk) (bad' : Bool) : Prop where
  ps : ∃ a c, PS wr pb a c ts' bad'
  ec : EC wr be (callE name (L.map (·.1))) ra rc
  row : Row wr (be + 1) 25 4 (.slice ra L.length rc) L.length (cellsX L)
  tr : ∀ x ∈ L, x.1.args.length ≤ x.2.2 ∧ RdA (fun i => w.heap.size < i ∧ i ≠ be ∧ (Value.slice ra L.length rc).ownBlock ≠ some i) wr x.1.args x.2.1
  fr : Fr (fun x => x = pb) w wr
  so : Sofar all (runJ (.args name (L.map (·.1)) ts')) false bad' ts ts'
  ln : L.length + ts'.length ≤ ts.length
  tl : bad' = false → ts'.length ≤ ts.tail.length
theorem CHA.rd {w pb be name all ts wr L ra rc ts' bad'} (h : CHA w pb be name all ts wr L ra rc ts' bad') (hbe : w.heap.size < be) : RdA (fun i => w.heap.size < i ∧ i ≠ be) wr (callE name (L.map (·.1))).args ra := by
  refine rdA_row L h.row (fun g hg => ?_) (fun x hx => ⟨(h.tr x hx).1, (h.tr x hx).2.mono (fun i _ hi => ⟨hi.1, hi.2.1⟩)⟩)
  have := (Row.block_lt h.row hg).2
  exact ⟨by omega, by omega⟩

theorem cha_push {w wr w6 w7 : World} {pb be : Nat} {name : List Nat} {L : List TV} {ra a7 aa6 : Option Addr} {rc c7 cc6 : Nat} {t6 : Ex} {o : Obj}
    (ec : EC w6 be (callE name (L.map (·.1))) ra rc) (row : Row wr (be + 1) 25 4 (.slice ra L.length rc) L.length (cellsX L))
    (tr : ∀ x ∈ L, x.1.args.length ≤ x.2.2 ∧ RdA (fun i => w.heap.size < i ∧ i ≠ be ∧ (Value.slice ra L.length rc).ownBlock ≠ some i) wr x.1.args x.2.1)
    (fr : Fr (fun x => x = pb) w wr) (hpl : pb < w.heap.size) (hbe : w.heap.size < be) (hbw : be < wr.heap.size)
    (hf6 : Fr (fun x => x = pb) wr w6) (hcc6 : t6.args.length ≤ cc6) (hra6 : RdA (fun i => wr.heap.size ≤ i) w6 t6.args aa6)
    (hr7 : Row w7 (be + 1) 25 4 (.slice a7 (L.length + 1) c7) (L.length + 1) (cellsX L ++ [.int .i64 t6.kind, .string t6.text, .int .i64 t6.num, .slice aa6 t6.args.length cc6]))
    (hgf : Fr (fun x => (Value.slice ra L.length rc).ownBlock = some x) (w6.alloc o) w7) (hat : (Value.slice a7 (L.length + 1) c7).ownBlock = (Value.slice ra L.length rc).ownBlock ∨ (Value.slice a7 (L.length + 1) c7).ownBlock = some (w6.alloc o).heap.size) :
    EC (w7.setCell ⟨be, 3, none⟩ (.slice a7 (L.length + 1) c7)) be (callE name ((L ++ [(t6, aa6, cc6)]).map (·.1))) a7 c7 ∧
    Row (w7.setCell ⟨be, 3, none⟩ (.slice a7 (L.length + 1) c7)) (be + 1) 25 4 (.slice a7 (L ++ [(t6, aa6, cc6)]).length c7) (L ++ [(t6, aa6, cc6)]).length (cellsX (L ++ [(t6, aa6, cc6)])) ∧
    (∀ x ∈ L ++ [(t6, aa6, cc6)], x.1.args.length ≤ x.2.2 ∧ RdA (fun i => w.heap.size < i ∧ i ≠ be ∧ (Value.slice a7 (L ++ [(t6, aa6, cc6)]).length c7).ownBlock ≠ some i) (w7.setCell ⟨be, 3, none⟩ (.slice a7 (L.length + 1) c7)) x.1.args x.2.1) ∧
    Fr (fun x => x = pb) w (w7.setCell ⟨be, 3, none⟩ (.slice a7 (L.length + 1) c7)) ∧
    (∀ a c ts b, PS w6 pb a c ts b → PS (w7.setCell ⟨be, 3, none⟩ (.slice a7 (L.length + 1) c7)) pb a c ts b) ∧
    (EC w6 w.heap.size eE none 0 → EC (w7.setCell ⟨be, 3, none⟩ (.slice a7 (L.length + 1) c7)) w.heap.size eE none 0) := by
  have hob : ∀ g, (Value.slice ra L.length rc).ownBlock = some g → be < g ∧ g < wr.heap.size := fun g hg => by have := Row.block_lt row hg; omega
  have h6 := hf6.size
  have hsa : (w6.alloc o).heap.size = w6.heap.size + 1 := by simp
  have hs : Fr (fun x => x = be) w7 (w7.setCell ⟨be, 3, none⟩ (.slice a7 (L.length + 1) c7)) := (Fr.refl (fun x => x = be) w7).setCell (p := ⟨be, 3, none⟩) rfl _
  have hnb : ∀ g, (Value.slice a7 (L.length + 1) c7).ownBlock = some g → be < g := fun g hg => (by
    rcases hat with h | h
    · rw [h] at hg; exact (hob g hg).1
    · rw [h] at hg; cases hg; omega)
  have hlen : (L ++ [(t6, aa6, cc6)]).length = L.length + 1 := by simp
  have h67 : ∀ {b : Nat}, b < w6.heap.size → (Value.slice ra L.length rc).ownBlock ≠ some b → b ≠ be → True := fun _ _ _ => trivial
  have ec7 : EC w7 be (callE name (L.map (·.1))) ra rc := (ec.below (below_alloc w6 o)).fr hgf (fun e => by have := hob _ e; omega)
  have fwd : ∀ (us : List Ex) (a : Option Addr), RdA (fun i => w.heap.size < i ∧ i ≠ be ∧ (Value.slice ra L.length rc).ownBlock ≠ some i) w6 us a → RdA (fun i => w.heap.size < i ∧ i ≠ be ∧ (Value.slice a7 (L.length + 1) c7).ownBlock ≠ some i) (w7.setCell ⟨be, 3, none⟩ (.slice a7 (L.length + 1) c7)) us a := fun us a h => by
    have h1 : RdA (fun i => w.heap.size < i ∧ i ≠ be ∧ (Value.slice ra L.length rc).ownBlock ≠ some i ∧ i < w6.heap.size) w6 us a := h.mono (fun i hi hh => ⟨hh.1, hh.2.1, hh.2.2, hi⟩)
    have h2 := ((h1.below (below_alloc w6 o)).fr hgf (fun i hi e => hi.2.2.1 e)).fr hs (fun i hi e => hi.2.1 e)
    refine h2.mono (fun i _ hi => ⟨hi.1, hi.2.1, fun e => ?_⟩)
    rcases hat with h | h
    · rw [h] at e; exact hi.2.2.1 e
    · rw [h] at e; cases e; have := hi.2.2.2; omega
  refine ⟨⟨set_other (by simp) ec7.c0, set_other (by simp) ec7.c1, set_other (by simp) ec7.c2, ?_, fun j => by simp [ec7.fz j]⟩, ?_, fun x hx => ?_, ?_, fun a c ts b hp => ?_, fun hp => ?_⟩
  · have := set_same (v := .slice a7 (L.length + 1) c7) ec7.c3
    simpa [callE, Ex.args] using this
  · rw [hlen, cellsX_snoc]
    exact Row.fr hr7 hs (fun g hg e => by have := hnb g hg; omega)
  · rw [hlen]
    rcases List.mem_append.1 hx with hx | hx
    · exact ⟨(tr x hx).1, fwd _ _ ((tr x hx).2.fr hf6 (fun i hi e => by omega))⟩
    · rcases List.mem_cons.1 hx with rfl | hx
      · exact ⟨hcc6, fwd _ _ (hra6.mono (fun i hi hh => ⟨by omega, by omega, fun e => by have := hob i e; omega⟩))⟩
      · cases hx
  · refine (((fr.trans hf6).trans (.of_below (below_alloc w6 o))).then hgf (fun i e => .inr (by have := hob i e; omega))).then hs (fun i e => .inr (by omega))
  · refine ((hp.below (below_alloc w6 o)).fr hgf (fun e => by have := hob _ e; omega) (fun x hx _ e => by have h1 := hp.ap x hx; have := hob _ e; omega)).fr hs (by omega) (fun x hx _ e => by have h1 := hp.ap x hx; omega)
  · exact ((hp.below (below_alloc w6 o)).fr hgf (fun e => by have := hob _ e; omega)).fr hs (by omega)

set_option maxRecDepth 100000 in
set_option maxHeartbeats 3000000 in
theorem args_any (M : Nat) (H : Spec M) (name : List Nat) (w : World) (pb : Nat) (a : Option Addr) (c : Nat) (ts : List Tk) (hp : PS w pb a c ts false) (hM : (Job.args name [] ts.tail).wt ≤ M) :
    Calls Tryd.prog 88 #[.pointer (some ⟨pb, 0, none⟩), .string (bs name)] w (ParPost pb w (argsRes name ts) false ts) := by
  obtain ⟨w1, hw1⟩ : ∃ w1, w1 = w.alloc (.cells #[.int .i64 0, .string ⟨#[]⟩, .int .i64 0, .slice none 0 0] 25) := ⟨_, rfl⟩
  have HB1 : Hid (Below w.heap.size w w1) := Lib.hid (by rw [hw1]; exact below_alloc _ _)
  have HS1 : Hid (w1.heap.size = w.heap.size + 1) := Lib.hid (by rw [hw1]; simp)
  have HTC : Hid (EC w1 w.heap.size eE none 0) := Lib.hid (by rw [hw1]; exact alloc_ec w eE none 0 _)
  have HP1 := Lib.hid (hp.below HB1.out)
  have HCL := Lib.hid (call_any (bs name) none 0 0 w1)
  have HPL := Lib.hid hp.lt
  have HW1 := Lib.hid hw1
  have HM := Lib.hid hM
  have HQ : Hid (∀ (w : World) (a : Option Addr) (c : Nat) (ts' : List Tk) (bad : Bool), PS w pb a c ts' bad → ts'.length ≤ ts.tail.length → Calls Tryd.prog 31 #[.pointer (some ⟨pb, 0, none⟩)] w (ParPost pb w (runJ (.lev 1 ts')) bad ts')) := Lib.hid (fun w a c ts' bad h hl => H 1 (by omega) (by omega) w pb a c ts' bad h (by simp only [Job.wt] at *; omega))
  clear H hw1 hp hM
  go_enter Tryd.func88, Tryd.ntmps88
  go_upto_region 1 with fail
  rw [← HW1.out]
  go_upto_region 2 with (go_at_call 62; refine HCL.out.mono ?_; rintro e w2 ⟨rfl, hb2⟩)
  obtain ⟨w3, hw3⟩ : ∃ w3, w3 = w2.alloc (.cells #[.int .i64 4, .string (bs name), .int .i64 0, .slice none 0 0] 25) := ⟨_, rfl⟩
  rw [← hw3]
  have HB3 : Hid (Below w1.heap.size w1 w3) := Lib.hid (bthen hb2 (by rw [hw3]; exact below_alloc _ _))
  obtain ⟨be, hbe⟩ : ∃ be, be = w2.heap.size := ⟨_, rfl⟩
  have HEC3 : Hid (EC w3 be (callE name []) none 0) := Lib.hid (by rw [hw3, hbe]; exact alloc_ec w2 (callE name []) none 0 _)
  have HBE : Hid (w.heap.size < be) := Lib.hid (by have h1 := hb2.size; have h2 := HS1.out; omega)
  have HBEP : Hid (¬ (be = pb)) := Lib.hid (by have := HBE.out; have := HPL.out; omega)
  have HPS3 := Lib.hid (HP1.out.below HB3.out)
  have HTC3 := Lib.hid (HTC.out.below HB3.out)
  rw [← hbe]
  clear hw3 hbe hb2
  obtain ⟨ts4, hts4⟩ : ∃ x, x = (if isT 5 [[40]] ts then ts.tail else ts) := ⟨_, rfl⟩
  obtain ⟨bad4, hbad4⟩ : ∃ x, x = (if isT 5 [[40]] ts then false else true) := ⟨_, rfl⟩
  have HEX : Hid (Calls Tryd.prog 87 #[.pointer (some ⟨pb, 0, none⟩), .string ⟨#[40]⟩] w3 fun e w' => e = .returned (.tuple #[]) ∧ (∃ a' c', PS w' pb a' c' ts4 bad4) ∧ Fr (fun x => x = pb) w3 w') := Lib.hid (by rw [hts4, hbad4]; exact expect_any [40] (by simp) HPS3.out)
  have HL4 : Hid (ts4.length ≤ ts.length) := Lib.hid (by rw [hts4]; split <;> simp)
  have HT4 : Hid (bad4 = false → ts4 = ts.tail) := Lib.hid (fun h => by
    rw [hbad4] at h; rw [hts4]
    split at h
    · rename_i h1; rw [if_pos h1]
    · cases h)
  have HR4 : Hid (if bad4 = true then argsRes name ts = none else argsRes name ts = if isT 5 [[41]] ts4 then some (callE name [], ts4.tail) else runJ (.args name [] ts4)) := Lib.hid (by
    rw [hts4, hbad4]; unfold argsRes
    cases isT 5 [[40]] ts <;> simp)
  clear hts4 hbad4
  go_upto_region 3 with (go_at_call 87; refine HEX.out.mono ?_; rintro e9 w4 ⟨rfl, ⟨a4, c4, hps4⟩, hf4⟩; have HPS4 := Lib.hid hps4; have HF4 := Lib.hid hf4; clear hps4 hf4)
  have HEC4 := Lib.hid (HEC3.out.fr HF4.out HBEP.out)
  have HTC4 := Lib.hid (HTC3.out.fr HF4.out (by have := HPL.out; omega))
  have HFW4 : Hid (Fr (fun x => x = pb) w w4) := Lib.hid ((Fr.of_below (S := fun x => x = pb) (bthen HB1.out HB3.out)).trans HF4.out)
  obtain ⟨w5, hw5⟩ : ∃ w5, w5 = w4.alloc (.cells #[.string ⟨#[41]⟩] 9) := ⟨_, rfl⟩
  have HB5 : Hid (Below w4.heap.size w4 w5) := Lib.hid (by rw [hw5]; exact below_alloc _ _)
  have HPS5 := Lib.hid (HPS4.out.below HB5.out)
  have HAT : Hid (Calls Tryd.prog 60 #[.pointer (some ⟨pb, 0, none⟩), .int .i64 5, .slice (some ⟨w4.heap.size, 0, none⟩) 1 1] w5 fun e w' => e = .returned (.bool (isT 5 [[41]] ts4)) ∧ w5 = w') := Lib.hid (at_any 5 [[41]] (by simp) (by omega) (by simp) w4.heap.size 1 w5 (fun j hj => by
    have hj : j < 1 := hj
    rw [hw5]
    match j, hj with
    | 0, _ => simp; rfl) HPS5.out)
  have HW5 := Lib.hid hw5
  have HEC5 := Lib.hid (HEC4.out.below HB5.out)
  have HTC5 := Lib.hid (HTC4.out.below HB5.out)
  have HFW5 : Hid (Fr (fun x => x = pb) w w5) := Lib.hid (HFW4.out.trans (.of_below HB5.out))
  clear hw5
  cases hi : isT 5 [[41]] ts4 with
  | true =>
    rw [hi] at HAT
    have HR5 : Hid (if bad4 = true then argsRes name ts = none else argsRes name ts = some (callE name [], ts4.tail)) := Lib.hid (by have := HR4.out; rw [hi] at this; exact this)
    obtain ⟨hie, htl⟩ := isT_tail hi
    have HTK := Lib.hid (take_any HPS5.out)
    simp only [TakePost, hie, Bool.or_false] at HTK
    have HTL := Lib.hid htl
    clear hi hie htl
    go_upto_region 5 with (first
      | (go_at_call 60; rw [← HW5.out]; refine HAT.out.mono ?_; rintro e9 w9 ⟨rfl, rfl⟩)
      | (go_at_call 61; refine HTK.out.mono ?_; rintro e9 w6 ⟨rfl, ⟨a6, c6, hps6⟩, hf6⟩; have HPS6 := Lib.hid hps6; have HF6 := Lib.hid hf6; clear hps6 hf6))
    obtain ⟨x0, x1, x2, x3, xf⟩ := HEC5.out.fr HF6.out HBEP.out
    change w6.cell? ⟨be, 0, none⟩ = some (.int .i64 4) at x0
    change w6.cell? ⟨be, 1, none⟩ = some (.string (bs name)) at x1
    change w6.cell? ⟨be, 2, none⟩ = some (.int .i64 0) at x2
    change w6.cell? ⟨be, 3, none⟩ = some (.slice none 0 0) at x3
    obtain ⟨y0, y1, y2, y3, yf⟩ := HTC5.out.fr HF6.out (by have := HPL.out; omega)
    have yf0 := yf 0
    have yf1 := yf 1
    have yf2 := yf 2
    have yf3 := yf 3
    clear xf yf
    go_wp2
    exact bodyPost_ret (v := .agg #[.int .i64 4, .string (bs name), .int .i64 0, .slice none 0 0]) (by simp [results, Tryd.results88, go_sem, y0, y1, y2, y3]; try rfl) rfl (fin_par (be := be) (e := callE name []) HPS6.out (by simp [callE, Ex.args]) (.inl rfl) (HFW5.out.trans HF6.out) ⟨by have := HTL.out; have := HL4.out; omega, (fun h => by cases h), fun _ => HR5.out⟩ (fun _ => rfl) (fr4 w6 w.heap.size (.int .i64 4) (.string (bs name)) (.int .i64 0) (.slice none 0 0)) HPL.out)
  | false =>
    rw [hi] at HAT
    have HCH : Hid (CHA w pb be name (argsRes name ts) ts w5 [] none 0 ts4 bad4) := Lib.hid ⟨⟨_, _, HPS5.out⟩, HEC5.out, World.ownsRow_nil _ _ _ _, (fun x hx => by cases hx), HFW5.out, ⟨HL4.out, (fun h => by cases h), fun _ => by have := HR4.out; rw [hi] at this; exact this⟩, by have := HL4.out; simpa using this, fun h => by rw [HT4.out h]; omega⟩
    clear hi
    go_wp2_with (go_at_call 60; rw [← HW5.out]; refine HAT.out.mono ?_; rintro e9 w9 ⟨rfl, rfl⟩)
    go_loopg [16] (ts.length + 1) (fun gg nv wr => ∃ (L : List TV) (ra : Option Addr) (rc : Nat) (ts' : List Tk) (bad' : Bool), ts'.length + 1 ≤ gg ∧ CHA w pb be name (argsRes name ts) ts wr L ra rc ts' bad' ∧ EC wr w.heap.size eE none 0)
    case atStart => exact ⟨[], none, 0, ts4, bad4, by have := HL4.out; omega, HCH.out, HTC5.out⟩
    case round =>
      clear HCH HTC5 HEC5 HFW5 HPS5 HAT HW5 HB5 HFW4 HTC4 HEC4 HPS4 HF4 HR4 HT4 HL4 HEX
      obtain ⟨L, ra, rc, ts', bad', hgg, hch, htc⟩ := hrel
      obtain ⟨a', c', hps⟩ := hch.ps
      have HGQ := Lib.hid hgg
      have HCH := Lib.hid hch
      have HTCR := Lib.hid htc
      have HPS := Lib.hid hps
      have c1 := hps.c1
      clear hgg hps htc hch
      cases hbd : bad' with
      | true =>
        subst hbd
        obtain ⟨tsX, htsX⟩ : ∃ x, x = (if isT 5 [[41]] ts' then ts'.tail else ts') := ⟨_, rfl⟩
        have HLX : Hid (tsX.length ≤ ts.length) := Lib.hid (by have h1 := HCH.out.ln; have h2 : tsX.length ≤ ts'.length := by rw [htsX]; split <;> simp
                                                               omega)
        have HEX : Hid (Calls Tryd.prog 87 #[.pointer (some ⟨pb, 0, none⟩), .string ⟨#[41]⟩] wr fun e w' => e = .returned (.tuple #[]) ∧ (∃ a' c', PS w' pb a' c' tsX true) ∧ Fr (fun x => x = pb) wr w') := Lib.hid (by
          have h := expect_any [41] (by simp) HPS.out
          rw [← htsX, ite_self] at h
          exact h)
        have HNO : Hid (argsRes name ts = none) := Lib.hid (by have := HCH.out.so.2.2 rfl; simpa using this)
        obtain ⟨E, hE⟩ : ∃ E, E = callE name (L.map (·.1)) := ⟨_, rfl⟩
        have HEE := Lib.hid hE
        clear htsX hE
        go_upto_region 11 with (go_at_call 87; refine HEX.out.mono ?_; rintro e9 w9 ⟨rfl, ⟨a9, c9, hps9⟩, hf9⟩; have HPS9 := Lib.hid hps9; have HF9 := Lib.hid hf9; clear hps9 hf9)
        have HEC9 : Hid (EC w9 be E ra rc) := Lib.hid (by rw [HEE.out]; exact HCH.out.ec.fr HF9.out HBEP.out)
        obtain ⟨x0, x1, x2, x3, xf⟩ := HEC9.out
        obtain ⟨y0, y1, y2, y3, yf⟩ := HTCR.out.fr HF9.out (by have := HPL.out; omega)
        have yf0 := yf 0
        have yf1 := yf 1
        have yf2 := yf 2
        have yf3 := yf 3
        clear xf yf c1
        go_wp2
        exact bodyPost_ret (v := .agg #[.int .i64 E.kind, .string E.text, .int .i64 E.num, .slice ra E.args.length rc]) (by simp [results, Tryd.results88, go_sem, y0, y1, y2, y3]; try rfl) rfl (fin_par (be := be) (e := E) (rest := none) HPS9.out (by rw [HEE.out]; simp only [callE, Ex.args, List.length_map]; exact Row.cap HCH.out.row) (by rw [HEE.out]; exact (HCH.out.rd HBE.out).fr HF9.out (fun i hi e => by have := HPL.out; omega)) (HCH.out.fr.trans HF9.out) ⟨HLX.out, (fun h => by cases h), fun _ => by rw [if_pos rfl]; exact HNO.out⟩ (fun h => by cases h) (fr4 w9 w.heap.size (.int .i64 E.kind) (.string E.text) (.int .i64 E.num) (.slice ra E.args.length rc)) HPL.out)
      | false =>
        subst hbd
        have HROW := Lib.hid HCH.out.row
        have hx3 : wr.cell? ⟨be, 3, none⟩ = some (.slice ra L.length rc) := by have := HCH.out.ec.c3; simpa [callE, Ex.args] using this
        have HX3 := Lib.hid hx3
        have HROWB : Hid (∀ g, (Value.slice ra L.length rc).ownBlock = some g → be < g) := Lib.hid (fun g hg => by have := (Row.block_lt HCH.out.row hg).2; omega)
        have HTL := Lib.hid (HCH.out.tl rfl)
        have HC6 := Lib.hid (HQ.out wr.drew a' c' ts' false HPS.out.drew HTL.out)
        have HLN := Lib.hid HCH.out.ln
        have HTSL : Hid (ts.length ≤ 1000000) := Lib.hid (by have h1 := HP1.out.hc; have h2 := HP1.out.lim; omega)
        have HBW : Hid (be < wr.heap.size) := Lib.hid HCH.out.ec.lt
        have hx3d : wr.drew.cell? ⟨be, 3, none⟩ = some (.slice ra L.length rc) := hx3
        go_wp2
        clear hx3
        go_region_law (first
          | (refine step_app_row_at (.tmp 22) (.tmp 25) EExpr rfl rfl (be + 1) (.slice ra L.length rc) L.length (cellsX L) rfl (Row.below HROW6.out (below_alloc w6 _)) (some ⟨_, 0, none⟩) 1 1 [.int .i64 t6.kind, .string t6.text, .int .i64 t6.num, .slice aa6 t6.args.length cc6] rfl (RdG.lits w6 4 25 1 [.int .i64 t6.kind, .string t6.text, .int .i64 t6.num, .slice aa6 t6.args.length cc6] rfl) (by simp [Value.oneCell']) (by have := HLN.out; have := HTSL.out; omega) (by decide) (by have := HBW.out; have := HW6.out; simp; omega) ?_; intro a7 c7 w7 hr7 hg7 hat7; have HR7 := Lib.hid hr7; have HG7 := Lib.hid hg7; have HAT7 := Lib.hid hat7; have HGF7 : Hid (Fr (fun x => (Value.slice ra L.length rc).ownBlock = some x) (w6.alloc (.cells #[.int .i64 t6.kind, .string t6.text, .int .i64 t6.num, .slice aa6 t6.args.length cc6] 25)) w7) := Lib.hid (Fr.of_grown hg7 (fun k hk => hk)); have HEC7 := Lib.hid ((HEC6.out.below (below_alloc _ _)).fr HGF7.out (fun e => by have := HROWB.out _ e; omega)); have p3 := HEC7.out.c3; have pf3 := HEC7.out.fz 3; clear hr7 hg7 hat7)
          | (go_simp; go_at_call 31; refine HC6.out.mono ?_; rintro e9 w6 ⟨t6, v6, a6, c6, ts6, bad6, rfl, ⟨aa6, cc6, rfl, hcc6, hra6⟩, hps6, hlen6, hf6, hb6, hb6'⟩; simp only [exV]; have HF6 : Hid (Fr (fun x => x = pb) wr w6) := Lib.hid ((Fr.refl (fun x => x = pb) wr).drew.trans hf6); have HEC6 := Lib.hid (HCH.out.ec.fr HF6.out HBEP.out); have HW6 := Lib.hid HF6.out.size; have HROW6 := Lib.hid (HROW.out.fr HF6.out (fun g hg e => by have h1 := HROWB.out g hg; have h2 := HBE.out; have h3 := HPL.out; omega)); have hx36 : w6.cell? ⟨be, 3, none⟩ = some (.slice ra L.length rc) := HF6.out.cell HX3.out HBEP.out; have hx3a : (w6.alloc (.cells #[.int .i64 t6.kind, .string t6.text, .int .i64 t6.num, .slice aa6 t6.args.length cc6] 25)).cell? ⟨be, 3, none⟩ = some (.slice ra L.length rc) := below_cell (below_alloc _ _) hx36))
        all_goals
          have hpush := cha_push HEC6.out HROW.out HCH.out.tr HCH.out.fr HPL.out HBE.out HBW.out HF6.out hcc6 (hra6.mono (fun i _ hi => hi)) HR7.out HGF7.out HAT7.out
          obtain ⟨wA, hwA⟩ : ∃ wA, wA = w7.setCell ⟨be, 3, none⟩ (.slice a7 (L.length + 1) c7) := ⟨_, rfl⟩
          rw [← hwA] at hpush ⊢
          obtain ⟨hecA, hrowA, htrA, hfrA, hpsA, htcA⟩ := hpush
          have HECA := Lib.hid hecA
          have HROWA := Lib.hid hrowA
          have HTRA := Lib.hid htrA
          have HFRA := Lib.hid hfrA
          have HPSA := Lib.hid (hpsA _ _ _ _ hps6)
          have HTCA := Lib.hid (htcA (HTCR.out.fr HF6.out (by have := HPL.out; omega)))
          have HL6 := Lib.hid hlen6
          have HK6 := Lib.hid (hb6' (by first | rfl | trivial))
          have HSO := Lib.hid HCH.out.so
          clear hwA hecA hrowA htrA hfrA hpsA htcA hps6 hlen6 hb6 hb6' hf6 hra6 hcc6 hx3d hx36 hx3a p3 pf3
          obtain ⟨L', hL'⟩ : ∃ L', L' = L ++ [(t6, aa6, cc6)] := ⟨_, rfl⟩
          have HLL : Hid (L'.length = L.length + 1) := Lib.hid (by rw [hL']; simp)
          have HS7 : Hid (if bad6 = true then argsRes name ts = none else argsRes name ts = if isT 5 [[44]] ts6 then runJ (.args name (L'.map (·.1)) ts6.tail) else if isT 5 [[41]] ts6 then some (callE name (L'.map (·.1)), ts6.tail) else none) := Lib.hid (by
            have h1 := HSO.out.2.2 rfl
            rw [if_neg (by simp), runJ_args] at h1
            unfold argsJ at h1
            have h2 := HK6.out
            split at h2
            · rename_i hx; rw [if_pos hx, h1, h2]; rfl
            · rename_i hx; rw [if_neg hx, h1, h2, hL']; simp only [Option.bind_some, List.map_append, List.map_cons, List.map_nil])
          rw [← hL'] at HECA HROWA HTRA
          clear hL'
          obtain ⟨wB, hwB⟩ : ∃ wB, wB = wA.alloc (.cells #[.string ⟨#[44]⟩] 9) := ⟨_, rfl⟩
          have HBB : Hid (Below wA.heap.size wA wB) := Lib.hid (by rw [hwB]; exact below_alloc _ _)
          have HPSB := Lib.hid (HPSA.out.below HBB.out)
          have HATB : Hid (Calls Tryd.prog 60 #[.pointer (some ⟨pb, 0, none⟩), .int .i64 5, .slice (some ⟨wA.heap.size, 0, none⟩) 1 1] wB fun e w' => e = .returned (.bool (isT 5 [[44]] ts6)) ∧ wB = w') := Lib.hid (at_any 5 [[44]] (by simp) (by omega) (by simp) wA.heap.size 1 wB (fun j hj => by
            have hj : j < 1 := hj
            rw [hwB]
            match j, hj with
            | 0, _ => simp; rfl) HPSB.out)
          have HWB := Lib.hid hwB
          clear hwB
          have HRDA : Hid (RdA (fun i => w.heap.size < i ∧ i ≠ be) wA (L'.map (·.1)) a7) := Lib.hid (rdA_row L' HROWA.out (fun g hg => by have := (Row.block_lt HROWA.out hg).2; have := HBE.out; exact ⟨by omega, by omega⟩) (fun x hx => ⟨(HTRA.out x hx).1, (HTRA.out x hx).2.mono (fun i _ hi => ⟨hi.1, hi.2.1⟩)⟩))
          cases hi : isT 5 [[44]] ts6 with
          | true =>
            rw [hi] at HATB
            have HS8 : Hid (if bad6 = true then argsRes name ts = none else argsRes name ts = runJ (.args name (L'.map (·.1)) ts6.tail)) := Lib.hid (by have := HS7.out; rw [hi] at this; exact this)
            obtain ⟨hie, htl⟩ := isT_tail hi
            have HTK := Lib.hid (take_any HPSB.out)
            simp only [TakePost, hie, Bool.or_false] at HTK
            have HT6 := Lib.hid htl
            clear hi hie htl
            go_wp2_with (first
              | (go_at_call 60; rw [← HWB.out]; refine HATB.out.mono ?_; rintro e9 w9 ⟨rfl, rfl⟩)
              | (go_at_call 61; refine HTK.out.mono ?_; rintro e9 wC ⟨rfl, hpsC, hfC⟩; have HPSC := Lib.hid hpsC; have HFC := Lib.hid hfC; clear hpsC hfC))
            go_roundg (ts6.length)
            case measure => have h1 := HGQ.out; have h2 := HL6.out; omega
            case rel =>
              have hts := HT6.out
              have h6 := HL6.out
              have hll := HLL.out
              have hln := HLN.out
              have htl := HTL.out
              exact ⟨L', a7, c7, ts6.tail, bad6, by omega, ⟨HPSC.out, (HECA.out.below HBB.out).fr HFC.out HBEP.out, Row.fr (Row.below HROWA.out HBB.out) HFC.out (fun g hg e => by have := (Row.block_lt HROWA.out hg).2; have := HBE.out; have := HPL.out; omega), fun x hx => ⟨(HTRA.out x hx).1, ((HTRA.out x hx).2.below HBB.out).fr HFC.out (fun i hi e => by have := HPL.out; omega)⟩, (HFRA.out.trans (.of_below HBB.out)).trans HFC.out, ⟨by omega, (fun h => by cases h), fun _ => HS8.out⟩, by omega, fun _ => by omega⟩, (HTCA.out.below HBB.out).fr HFC.out (by have := HPL.out; omega)⟩
          | false =>
            rw [hi] at HATB
            obtain ⟨tsX, htsX⟩ : ∃ x, x = (if isT 5 [[41]] ts6 then ts6.tail else ts6) := ⟨_, rfl⟩
            obtain ⟨badX, hbadX⟩ : ∃ x, x = (if isT 5 [[41]] ts6 then bad6 else true) := ⟨_, rfl⟩
            have HLX : Hid (tsX.length ≤ ts.length) := Lib.hid (by
              have h1 := HLN.out
              have h2 := HL6.out
              have h3 : tsX.length ≤ ts6.length := by rw [htsX]; split <;> simp
              omega)
            have HEX : Hid (Calls Tryd.prog 87 #[.pointer (some ⟨pb, 0, none⟩), .string ⟨#[41]⟩] wB fun e w' => e = .returned (.tuple #[]) ∧ (∃ a' c', PS w' pb a' c' tsX badX) ∧ Fr (fun x => x = pb) wB w') := Lib.hid (by rw [htsX, hbadX]; exact expect_any [41] (by simp) HPSB.out)
            have HNO : Hid (if badX = true then argsRes name ts = none else argsRes name ts = some (callE name (L'.map (·.1)), tsX)) := Lib.hid (by
              have h := HS7.out
              rw [hi] at h
              rw [htsX, hbadX]
              cases hx : isT 5 [[41]] ts6 with
              | true =>
                rw [hx] at h
                simpa using h
              | false =>
                rw [hx] at h
                simp only [Bool.false_eq_true, if_false, if_true] at h ⊢
                split at h <;> exact h)
            obtain ⟨E, hE⟩ : ∃ E, E = callE name (L'.map (·.1)) := ⟨_, rfl⟩
            have HEE := Lib.hid hE
            clear htsX hbadX hE hi
            go_upto_region 11 with (first
              | (go_at_call 60; rw [← HWB.out]; refine HATB.out.mono ?_; rintro e9 w9 ⟨rfl, rfl⟩)
              | (go_at_call 87; refine HEX.out.mono ?_; rintro e9 w9 ⟨rfl, ⟨a9, c9, hps9⟩, hf9⟩; have HPS9 := Lib.hid hps9; have HF9 := Lib.hid hf9; clear hps9 hf9))
            have HEC9 : Hid (EC w9 be E a7 c7) := Lib.hid (by rw [HEE.out]; exact (HECA.out.below HBB.out).fr HF9.out HBEP.out)
            obtain ⟨x0, x1, x2, x3, xf⟩ := HEC9.out
            obtain ⟨y0, y1, y2, y3, yf⟩ := (HTCA.out.below HBB.out).fr HF9.out (by have := HPL.out; omega)
            have yf0 := yf 0
            have yf1 := yf 1
            have yf2 := yf 2
            have yf3 := yf 3
            clear xf yf c1
            go_wp2
            exact bodyPost_ret (v := .agg #[.int .i64 E.kind, .string E.text, .int .i64 E.num, .slice a7 E.args.length c7]) (by simp [results, Tryd.results88, go_sem, y0, y1, y2, y3]; try rfl) rfl (fin_par (be := be) (e := E) (rest := some (E, tsX)) HPS9.out (by rw [HEE.out]; simp only [callE, Ex.args, List.length_map]; exact Row.cap HROWA.out) (by rw [HEE.out]; exact (HRDA.out.below HBB.out).fr HF9.out (fun i hi e => by have := HPL.out; omega)) ((HFRA.out.trans (.of_below HBB.out)).trans HF9.out) ⟨HLX.out, (fun h => by cases h), fun _ => by rw [HEE.out]; exact HNO.out⟩ (fun _ => rfl) (fr4 w9 w.heap.size (.int .i64 E.kind) (.string E.text) (.int .i64 E.num) (.slice a7 E.args.length c7)) HPL.out)

end Go.Proofs.YtpabngicbfcdkaaDoor

/- The parser: names, primary. -/
namespace Go.Proofs.YtpabngicbfcdkaaDoor
open Go.RowKit
set_option linter.unusedVariables false
set_option linter.unusedSimpArgs false

theorem ns_bs {l : List Nat} (h : ∀ c ∈ l, c < 256) : ns (bs l) = l := by
  unfold ns
  rw [← Go.ByteArray.toList_eq, bs_toList, List.map_map]
  conv => rhs; rw [← List.map_id l]
  exact List.map_congr_left fun c hc => by have := h c hc; simp; omega
theorem bs_eqs {l : List Nat} (h : ∀ c ∈ l, c < 256) (m : List Nat) (hm : ∀ c ∈ m, c < 256) : ((bs l).toList == m.map (fun u => u.toUInt8)) = (l == m) := by
  rw [Bool.eq_iff_iff, beq_iff_eq, beq_iff_eq]
  constructor
  · intro e
    rw [← bs_toList] at e
    have : bs l = bs m := by
      rw [Go.ByteArray.toList_eq, Go.ByteArray.toList_eq] at e
      have e2 := Array.toList_inj.1 e
      cases hx : bs l; cases hy : bs m
      rw [hx, hy] at e2
      simpa using e2
    exact bs_inj h hm this
  · rintro rfl
    exact bs_toList
theorem spn_all (l : List Nat) : (spn letB l = l.length) ↔ l.all letB = true := by
  unfold spn
  constructor
  · intro h
    have h2 : l.takeWhile letB = l := (List.takeWhile_prefix letB).eq_of_length h
    rw [List.all_eq_true]
    intro c hc
    rw [← h2] at hc
    exact mem_tw l c hc
  · intro h
    induction l with
    | nil => rfl
    | cons a r ih =>
      simp only [List.all_cons, Bool.and_eq_true] at h
      rw [List.takeWhile_cons, if_pos h.1, List.length_cons, List.length_cons, ih h.2]

set_option maxRecDepth 100000 in
set_option maxHeartbeats 1500000 in
theorem name_any (l : List Nat) (h8 : ∀ c ∈ l, c < 256) (hl : l.length ≤ 1000000000) (w : World) : Calls Tryd.prog 39 #[.string (bs l)] w fun e w' => e = .returned (.bool (isNm l)) ∧ w = w' := by
  have hsz : (bs l).size = l.length := by have := ns_len (bs l); rw [ns_bs h8] at this; exact this.symm
  have HSP := Lib.hid (span_any 57 letB (bs l) (by omega) w cf_let (fun c w h => isLetter_any c h w))
  rw [ns_bs h8] at HSP
  have e1 : ((bs l).toList == [97, 110, 100]) = (l == [97, 110, 100]) := bs_eqs h8 [97, 110, 100] (by simp)
  have e2 : ((bs l).toList == [111, 114]) = (l == [111, 114]) := bs_eqs h8 [111, 114] (by simp)
  have e3 : ((bs l).toList == [110, 111, 116]) = (l == wNot) := bs_eqs h8 wNot (by simp [wNot])
  have e4 : ((bs l).toList == []) = (l == []) := bs_eqs h8 [] (by simp)
  obtain ⟨n, hn⟩ : ∃ n, n = spn letB l := ⟨_, rfl⟩
  rw [← hn] at HSP
  have HN : Hid (((n : Int) == (l.length : Int)) = l.all letB) := Lib.hid (by
    rw [Bool.eq_iff_iff, beq_iff_eq, ← spn_all, ← hn]; omega)
  obtain ⟨z, hz⟩ : ∃ z, z = ((n : Int) == (l.length : Int)) := ⟨_, rfl⟩
  obtain ⟨m, hm⟩ : ∃ m, m = (bs l).size := ⟨_, rfl⟩
  obtain ⟨q1, hq1⟩ : ∃ q, q = (l == [97, 110, 100]) := ⟨_, rfl⟩
  obtain ⟨q2, hq2⟩ : ∃ q, q = (l == [111, 114]) := ⟨_, rfl⟩
  obtain ⟨q3, hq3⟩ : ∃ q, q = (l == wNot) := ⟨_, rfl⟩
  obtain ⟨q4, hq4⟩ : ∃ q, q = (l == []) := ⟨_, rfl⟩
  have HNM : Hid (isNm l = (!(q1 || q2 || q3) && !q4 && z)) := Lib.hid (by rw [hz, HN.out, hq1, hq2, hq3, hq4]; rfl)
  rw [← hq1] at e1
  rw [← hq2] at e2
  rw [← hq3] at e3
  rw [← hq4] at e4
  have ez : ((n : Int) == ((bs l).size : Int)) = z := by rw [hsz, hz]
  obtain ⟨s, hs⟩ : ∃ s, s = bs l := ⟨_, rfl⟩
  rw [← hs] at e1 e2 e3 e4 ez HSP ⊢
  clear hsz hn hz hm hq1 hq2 hq3 hq4 hs
  have close : ∀ b, b = (!(q1 || q2 || q3) && !q4 && z) → isNm l = b := fun b h => by rw [HNM.out, h]
  have HCL := Lib.hid close
  clear close
  cases q1
  · cases q2
    · cases q3
      · cases q4
        · go_enter Tryd.func39, Tryd.ntmps39
          go_wp2_with (go_at_call 36; refine HSP.out.mono ?_; rintro e w2 ⟨rfl, rfl⟩)
          go_ret
          exact ⟨by rw [HCL.out z (by simp)]; rfl, rfl⟩
        · go_enter Tryd.func39, Tryd.ntmps39
          go_wp2
          go_ret
          exact ⟨by rw [HCL.out false (by simp)]; rfl, rfl⟩
      · go_enter Tryd.func39, Tryd.ntmps39
        go_wp2
        go_ret
        exact ⟨by rw [HCL.out false (by simp)]; rfl, rfl⟩
    · go_enter Tryd.func39, Tryd.ntmps39
      go_wp2
      go_ret
      exact ⟨by rw [HCL.out false (by simp)]; rfl, rfl⟩
  · go_enter Tryd.func39, Tryd.ntmps39
    go_wp2
    go_ret
    exact ⟨by rw [HCL.out false (by simp)]; rfl, rfl⟩


set_option maxRecDepth 100000 in
set_option maxHeartbeats 3000000 in
theorem lev9_any (M : Nat) (H : Spec M) (w : World) (pb : Nat) (a : Option Addr) (c : Nat) (ts : List Tk) (bad : Bool) (hp : PS w pb a c ts bad) (hM : (Job.lev 9 ts).wt ≤ M) :
    Calls Tryd.prog 86 #[.pointer (some ⟨pb, 0, none⟩)] w (ParPost pb w (runJ (.lev 9 ts)) bad ts) := by
  obtain ⟨w1, hw1⟩ : ∃ w1, w1 = w.alloc (.cells #[.int .i64 0, .string ⟨#[]⟩, .int .i64 0, .slice none 0 0] 25) := ⟨_, rfl⟩
  have HB1 : Hid (Below w.heap.size w w1) := Lib.hid (by rw [hw1]; exact below_alloc _ _)
  have HS1 : Hid (w1.heap.size = w.heap.size + 1) := Lib.hid (by rw [hw1]; simp)
  have HTC : Hid (EC w1 w.heap.size eE none 0) := Lib.hid (by rw [hw1]; exact alloc_ec w eE none 0 _)
  have HP1 := Lib.hid (hp.below HB1.out)
  have HF1 : Hid (Fr (fun x => x = pb) w w1) := Lib.hid (Fr.of_below HB1.out)
  have HPL := Lib.hid hp.lt
  have HW1 := Lib.hid hw1
  have HM := Lib.hid hM
  have HSPEC := Lib.hid H
  have c1 := HP1.out.c1
  clear H hw1 hp hM
  cases hbd : bad with
  | true =>
    subst hbd
    obtain ⟨y0, y1, y2, y3, yf⟩ := HTC.out
    have yf0 := yf 0
    have yf1 := yf 1
    have yf2 := yf 2
    have yf3 := yf 3
    clear yf
    go_enter Tryd.func86, Tryd.ntmps86
    go_upto_region 1 with fail
    rw [← HW1.out]
    go_wp2
    exact bodyPost_ret (v := .agg #[.int .i64 0, .string ⟨#[]⟩, .int .i64 0, .slice none 0 0]) (by simp [results, Tryd.results86, go_sem, y0, y1, y2, y3]; try rfl) rfl (fin_par (be := 0) (e := eE) (rest := none) HP1.out (by simp [eE, Ex.args]) (.inl rfl) HF1.out ⟨by omega, fun _ => rfl, fun h => by cases h⟩ (fun h => by cases h) (fr4 w1 w.heap.size (.int .i64 0) (.string ⟨#[]⟩) (.int .i64 0) (.slice none 0 0)) HPL.out)
  | false =>
    subst hbd
    have HTK := Lib.hid (take_any HP1.out)
    cases ts with
    | nil =>
      simp only [hdV, tokV, TakePost, List.isEmpty, Bool.or_true, List.tail_nil] at HTK
      have HRES : Hid (runJ (.lev 9 []) = none) := Lib.hid (by rw [runJ_prim]; rfl)
      go_enter Tryd.func86, Tryd.ntmps86
      go_upto_region 1 with fail
      rw [← HW1.out]
      go_upto_region 4 with (go_at_call 61; refine HTK.out.mono ?_; rintro e9 w2 ⟨rfl, ⟨a2, c2, hps2⟩, hf2⟩)
      obtain ⟨w3, hw3⟩ : ∃ w3, w3 = w2.alloc (.cells #[.int .i64 0, .string (bs []), .int .i64 0, .int .i64 0] 48) := ⟨_, rfl⟩
      rw [← hw3]
      have HB3 : Hid (Below w2.heap.size w2 w3) := Lib.hid (by rw [hw3]; exact below_alloc _ _)
      obtain ⟨bt, hbt⟩ : ∃ bt, bt = w2.heap.size := ⟨_, rfl⟩
      have HTT : Hid (TC w3 bt 0 (bs []) 0 0) := Lib.hid (by rw [hw3, hbt]; exact alloc_tc _ _ _ _ _ _)
      have HF3 : Hid (Fr (fun x => x = pb) w1 w3) := Lib.hid (hf2.trans (.of_below HB3.out))
      have HTC3 := Lib.hid (HTC.out.fr HF3.out (by have := HPL.out; omega))
      have HPS3 := Lib.hid (hps2.below HB3.out)
      have HBT : Hid (w.heap.size < bt) := Lib.hid (by have h1 := hf2.size; have h2 := HS1.out; omega)
      rw [← hbt]
      obtain ⟨z0, z1, z2, z3, zf⟩ := HTT.out
      clear hw3 hbt hps2 hf2 zf c1
      have p1 := HPS3.out.c1
      have pf1 := HPS3.out.fz 1
      have hn1 : ¬ (pb = w.heap.size) := by have := HPL.out; omega
      have hn2 : ¬ (w.heap.size = pb) := by have := HPL.out; omega
      obtain ⟨y0, y1, y2, y3, yf⟩ := HTC3.out
      have yf0 := yf 0
      have yf1 := yf 1
      have yf2 := yf 2
      have yf3 := yf 3
      clear yf
      go_wp2
      exact bodyPost_ret (v := .agg #[.int .i64 0, .string ⟨#[]⟩, .int .i64 0, .slice none 0 0]) (by simp [results, Tryd.results86, go_sem, y0, y1, y2, y3]; try rfl) rfl (fin_par (be := 0) (wr := w3.setCell ⟨pb, 1, none⟩ (.bool true)) (e := eE) (rest := none) HPS3.out.setBad (by simp [eE, Ex.args]) (.inl rfl) ((HF1.out.trans HF3.out).setCell (p := ⟨pb, 1, none⟩) rfl _) ⟨by simp, fun _ => rfl, fun _ => by rw [if_pos rfl]; exact HRES.out⟩ (fun h => by cases h) (fr4 (w3.setCell ⟨pb, 1, none⟩ (.bool true)) w.heap.size (.int .i64 0) (.string ⟨#[]⟩) (.int .i64 0) (.slice none 0 0)) HPL.out)
    | cons t r =>
      obtain ⟨⟨k, tx, nm⟩, at0⟩ := t
      simp only [hdV, tokV, TakePost, List.isEmpty, Bool.or_false, List.tail_cons] at HTK
      have HT8 : Hid (∀ c ∈ tx, c < 256) := Lib.hid (HP1.out.by8 _ (List.mem_cons_self ..))
      have HTS : Hid (tx.length ≤ 1000000) := Lib.hid (HP1.out.sz _ (List.mem_cons_self ..))
      by_cases hk1 : k = 1
      · subst hk1
        have HRES : Hid (runJ (.lev 9 (((1, tx, nm), at0) :: r)) = some (.mk 1 (bs []) (nm : Nat) [], r)) := Lib.hid (by rw [runJ_prim]; simp [primJ])
        go_enter Tryd.func86, Tryd.ntmps86
        go_upto_region 1 with fail
        rw [← HW1.out]
        go_upto_region 4 with (go_at_call 61; refine HTK.out.mono ?_; rintro e9 w2 ⟨rfl, ⟨a2, c2, hps2⟩, hf2⟩)
        obtain ⟨w3, hw3⟩ : ∃ w3, w3 = w2.alloc (.cells #[.int .i64 1, .string (bs tx), .int .i64 (nm : Nat), .int .i64 (at0 : Nat)] 48) := ⟨_, rfl⟩
        rw [← hw3]
        have HB3 : Hid (Below w2.heap.size w2 w3) := Lib.hid (by rw [hw3]; exact below_alloc _ _)
        obtain ⟨bt, hbt⟩ : ∃ bt, bt = w2.heap.size := ⟨_, rfl⟩
        have HTT : Hid (TC w3 bt 1 (bs tx) (nm : Nat) (at0 : Nat)) := Lib.hid (by rw [hw3, hbt]; exact alloc_tc _ _ _ _ _ _)
        have HF3 : Hid (Fr (fun x => x = pb) w1 w3) := Lib.hid (hf2.trans (.of_below HB3.out))
        have HTC3 := Lib.hid (HTC.out.fr HF3.out (by have := HPL.out; omega))
        have HPS3 := Lib.hid (hps2.below HB3.out)
        have HBT : Hid (w.heap.size < bt) := Lib.hid (by have h1 := hf2.size; have h2 := HS1.out; omega)
        rw [← hbt]
        obtain ⟨z0, z1, z2, z3, zf⟩ := HTT.out
        clear hw3 hbt hps2 hf2 zf c1
        obtain ⟨y0, y1, y2, y3, yf⟩ := HTC3.out
        have yf0 := yf 0
        have yf1 := yf 1
        have yf2 := yf 2
        have yf3 := yf 3
        clear yf
        go_wp2
        exact bodyPost_ret (v := .agg #[.int .i64 1, .string ⟨#[]⟩, .int .i64 (nm : Nat), .slice none 0 0]) (by simp [results, Tryd.results86, go_sem, y0, y1, y2, y3]; try rfl) rfl (fin_par (be := 0) (e := .mk 1 (bs []) (nm : Nat) []) (rest := some (.mk 1 (bs []) (nm : Nat) [], r)) HPS3.out (by simp [Ex.args]) (.inl rfl) (HF1.out.trans HF3.out) ⟨by simp, (fun h => by cases h), fun _ => HRES.out⟩ (fun _ => rfl) (fr4 w3 w.heap.size (.int .i64 1) (.string ⟨#[]⟩) (.int .i64 (nm : Nat)) (.slice none 0 0)) HPL.out)
      by_cases hk2 : k = 2
      · subst hk2
        have HRES : Hid (runJ (.lev 9 (((2, tx, nm), at0) :: r)) = some (.mk 2 (bs tx) 0 [], r)) := Lib.hid (by rw [runJ_prim]; simp [primJ])
        go_enter Tryd.func86, Tryd.ntmps86
        go_upto_region 1 with fail
        rw [← HW1.out]
        go_upto_region 4 with (go_at_call 61; refine HTK.out.mono ?_; rintro e9 w2 ⟨rfl, ⟨a2, c2, hps2⟩, hf2⟩)
        obtain ⟨w3, hw3⟩ : ∃ w3, w3 = w2.alloc (.cells #[.int .i64 2, .string (bs tx), .int .i64 (nm : Nat), .int .i64 (at0 : Nat)] 48) := ⟨_, rfl⟩
        rw [← hw3]
        have HB3 : Hid (Below w2.heap.size w2 w3) := Lib.hid (by rw [hw3]; exact below_alloc _ _)
        obtain ⟨bt, hbt⟩ : ∃ bt, bt = w2.heap.size := ⟨_, rfl⟩
        have HTT : Hid (TC w3 bt 2 (bs tx) (nm : Nat) (at0 : Nat)) := Lib.hid (by rw [hw3, hbt]; exact alloc_tc _ _ _ _ _ _)
        have HF3 : Hid (Fr (fun x => x = pb) w1 w3) := Lib.hid (hf2.trans (.of_below HB3.out))
        have HTC3 := Lib.hid (HTC.out.fr HF3.out (by have := HPL.out; omega))
        have HPS3 := Lib.hid (hps2.below HB3.out)
        have HBT : Hid (w.heap.size < bt) := Lib.hid (by have h1 := hf2.size; have h2 := HS1.out; omega)
        rw [← hbt]
        obtain ⟨z0, z1, z2, z3, zf⟩ := HTT.out
        clear hw3 hbt hps2 hf2 zf c1
        obtain ⟨y0, y1, y2, y3, yf⟩ := HTC3.out
        have yf0 := yf 0
        have yf1 := yf 1
        have yf2 := yf 2
        have yf3 := yf 3
        clear yf
        go_wp2
        exact bodyPost_ret (v := .agg #[.int .i64 2, .string (bs tx), .int .i64 0, .slice none 0 0]) (by simp [results, Tryd.results86, go_sem, y0, y1, y2, y3]; try rfl) rfl (fin_par (be := 0) (e := .mk 2 (bs tx) 0 []) (rest := some (.mk 2 (bs tx) 0 [], r)) HPS3.out (by simp [Ex.args]) (.inl rfl) (HF1.out.trans HF3.out) ⟨by simp, (fun h => by cases h), fun _ => HRES.out⟩ (fun _ => rfl) (fr4 w3 w.heap.size (.int .i64 2) (.string (bs tx)) (.int .i64 0) (.slice none 0 0)) HPL.out)
      by_cases hk3 : k = 3
      · subst hk3
        have HRES : Hid (runJ (.lev 9 (((3, tx, nm), at0) :: r)) = some (.mk 3 (bs tx) 0 [], r)) := Lib.hid (by rw [runJ_prim]; simp [primJ])
        go_enter Tryd.func86, Tryd.ntmps86
        go_upto_region 1 with fail
        rw [← HW1.out]
        go_upto_region 4 with (go_at_call 61; refine HTK.out.mono ?_; rintro e9 w2 ⟨rfl, ⟨a2, c2, hps2⟩, hf2⟩)
        obtain ⟨w3, hw3⟩ : ∃ w3, w3 = w2.alloc (.cells #[.int .i64 3, .string (bs tx), .int .i64 (nm : Nat), .int .i64 (at0 : Nat)] 48) := ⟨_, rfl⟩
        rw [← hw3]
        have HB3 : Hid (Below w2.heap.size w2 w3) := Lib.hid (by rw [hw3]; exact below_alloc _ _)
        obtain ⟨bt, hbt⟩ : ∃ bt, bt = w2.heap.size := ⟨_, rfl⟩
        have HTT : Hid (TC w3 bt 3 (bs tx) (nm : Nat) (at0 : Nat)) := Lib.hid (by rw [hw3, hbt]; exact alloc_tc _ _ _ _ _ _)
        have HF3 : Hid (Fr (fun x => x = pb) w1 w3) := Lib.hid (hf2.trans (.of_below HB3.out))
        have HTC3 := Lib.hid (HTC.out.fr HF3.out (by have := HPL.out; omega))
        have HPS3 := Lib.hid (hps2.below HB3.out)
        have HBT : Hid (w.heap.size < bt) := Lib.hid (by have h1 := hf2.size; have h2 := HS1.out; omega)
        rw [← hbt]
        obtain ⟨z0, z1, z2, z3, zf⟩ := HTT.out
        clear hw3 hbt hps2 hf2 zf c1
        obtain ⟨y0, y1, y2, y3, yf⟩ := HTC3.out
        have yf0 := yf 0
        have yf1 := yf 1
        have yf2 := yf 2
        have yf3 := yf 3
        clear yf
        go_wp2
        exact bodyPost_ret (v := .agg #[.int .i64 3, .string (bs tx), .int .i64 0, .slice none 0 0]) (by simp [results, Tryd.results86, go_sem, y0, y1, y2, y3]; try rfl) rfl (fin_par (be := 0) (e := .mk 3 (bs tx) 0 []) (rest := some (.mk 3 (bs tx) 0 [], r)) HPS3.out (by simp [Ex.args]) (.inl rfl) (HF1.out.trans HF3.out) ⟨by simp, (fun h => by cases h), fun _ => HRES.out⟩ (fun _ => rfl) (fr4 w3 w.heap.size (.int .i64 3) (.string (bs tx)) (.int .i64 0) (.slice none 0 0)) HPL.out)
      by_cases hk4 : k = 4
      · subst hk4
        cases hnm : isNm tx with
        | false =>
          have HRES : Hid (runJ (.lev 9 (((4, tx, nm), at0) :: r)) = none) := Lib.hid (by rw [runJ_prim]; simp [primJ, hnm])
          have HNM := Lib.hid (name_any tx HT8.out (Nat.le_trans HTS.out (by decide)))
          rw [hnm] at HNM
          clear hnm
          go_enter Tryd.func86, Tryd.ntmps86
          go_upto_region 1 with fail
          rw [← HW1.out]
          go_upto_region 4 with (go_at_call 61; refine HTK.out.mono ?_; rintro e9 w2 ⟨rfl, ⟨a2, c2, hps2⟩, hf2⟩)
          obtain ⟨w3, hw3⟩ : ∃ w3, w3 = w2.alloc (.cells #[.int .i64 4, .string (bs tx), .int .i64 (nm : Nat), .int .i64 (at0 : Nat)] 48) := ⟨_, rfl⟩
          rw [← hw3]
          have HB3 : Hid (Below w2.heap.size w2 w3) := Lib.hid (by rw [hw3]; exact below_alloc _ _)
          obtain ⟨bt, hbt⟩ : ∃ bt, bt = w2.heap.size := ⟨_, rfl⟩
          have HTT : Hid (TC w3 bt 4 (bs tx) (nm : Nat) (at0 : Nat)) := Lib.hid (by rw [hw3, hbt]; exact alloc_tc _ _ _ _ _ _)
          have HF3 : Hid (Fr (fun x => x = pb) w1 w3) := Lib.hid (hf2.trans (.of_below HB3.out))
          have HTC3 := Lib.hid (HTC.out.fr HF3.out (by have := HPL.out; omega))
          have HPS3 := Lib.hid (hps2.below HB3.out)
          have HBT : Hid (w.heap.size < bt) := Lib.hid (by have h1 := hf2.size; have h2 := HS1.out; omega)
          rw [← hbt]
          obtain ⟨z0, z1, z2, z3, zf⟩ := HTT.out
          clear hw3 hbt hps2 hf2 zf c1
          have p1 := HPS3.out.c1
          have pf1 := HPS3.out.fz 1
          have hn1 : ¬ (pb = w.heap.size) := by have := HPL.out; omega
          have hn2 : ¬ (w.heap.size = pb) := by have := HPL.out; omega
          obtain ⟨y0, y1, y2, y3, yf⟩ := HTC3.out
          have yf0 := yf 0
          have yf1 := yf 1
          have yf2 := yf 2
          have yf3 := yf 3
          clear yf
          go_wp2_with (go_at_call 39; refine (HNM.out _).mono ?_; rintro e9 w9 ⟨rfl, rfl⟩)
          exact bodyPost_ret (v := .agg #[.int .i64 0, .string ⟨#[]⟩, .int .i64 0, .slice none 0 0]) (by simp [results, Tryd.results86, go_sem, y0, y1, y2, y3]; try rfl) rfl (fin_par (be := 0) (wr := w3.setCell ⟨pb, 1, none⟩ (.bool true)) (e := eE) (rest := none) HPS3.out.setBad (by simp [eE, Ex.args]) (.inl rfl) ((HF1.out.trans HF3.out).setCell (p := ⟨pb, 1, none⟩) rfl _) ⟨by simp, fun _ => rfl, fun _ => by rw [if_pos rfl]; exact HRES.out⟩ (fun h => by cases h) (fr4 (w3.setCell ⟨pb, 1, none⟩ (.bool true)) w.heap.size (.int .i64 0) (.string ⟨#[]⟩) (.int .i64 0) (.slice none 0 0)) HPL.out)
        | true =>
          have HRES : Hid (runJ (.lev 9 (((4, tx, nm), at0) :: r)) = argsRes tx r) := Lib.hid (by rw [runJ_prim]; simp only [primJ, argsRes, hnm]; simp)
          have HNM := Lib.hid (name_any tx HT8.out (Nat.le_trans HTS.out (by decide)))
          rw [hnm] at HNM
          clear hnm
          go_enter Tryd.func86, Tryd.ntmps86
          go_upto_region 1 with fail
          rw [← HW1.out]
          go_upto_region 4 with (go_at_call 61; refine HTK.out.mono ?_; rintro e9 w2 ⟨rfl, ⟨a2, c2, hps2⟩, hf2⟩)
          obtain ⟨w3, hw3⟩ : ∃ w3, w3 = w2.alloc (.cells #[.int .i64 4, .string (bs tx), .int .i64 (nm : Nat), .int .i64 (at0 : Nat)] 48) := ⟨_, rfl⟩
          rw [← hw3]
          have HB3 : Hid (Below w2.heap.size w2 w3) := Lib.hid (by rw [hw3]; exact below_alloc _ _)
          obtain ⟨bt, hbt⟩ : ∃ bt, bt = w2.heap.size := ⟨_, rfl⟩
          have HTT : Hid (TC w3 bt 4 (bs tx) (nm : Nat) (at0 : Nat)) := Lib.hid (by rw [hw3, hbt]; exact alloc_tc _ _ _ _ _ _)
          have HF3 : Hid (Fr (fun x => x = pb) w1 w3) := Lib.hid (hf2.trans (.of_below HB3.out))
          have HTC3 := Lib.hid (HTC.out.fr HF3.out (by have := HPL.out; omega))
          have HPS3 := Lib.hid (hps2.below HB3.out)
          have HBT : Hid (w.heap.size < bt) := Lib.hid (by have h1 := hf2.size; have h2 := HS1.out; omega)
          rw [← hbt]
          obtain ⟨z0, z1, z2, z3, zf⟩ := HTT.out
          clear hw3 hbt hps2 hf2 zf c1
          have HAR := Lib.hid (args_any M HSPEC.out tx w3 pb a2 c2 r HPS3.out (by have h1 := HM.out; simp only [Job.wt, List.length_cons, List.length_tail] at *; omega))
          go_wp2_with (first
            | (go_at_call 39; refine (HNM.out _).mono ?_; rintro e9 w9 ⟨rfl, rfl⟩)
            | (go_at_call 88; refine HAR.out.mono ?_; rintro e9 w4 ⟨t6, v6, a6, c6, ts6, bad6, rfl, ⟨aa6, cc6, rfl, hcc6, hra6⟩, hps6, hlen6, hf6, hb6, hb6'⟩; simp only [exV]; obtain ⟨y0, y1, y2, y3, yf⟩ := HTC3.out.fr hf6 (by have := HPL.out; omega); have yf0 := yf 0; have yf1 := yf 1; have yf2 := yf 2; have yf3 := yf 3; clear yf; have HRA := Lib.hid hra6; have HPS := Lib.hid hps6; have HF := Lib.hid hf6; have HSO := Lib.hid (ParPost.sofar (pb := pb) (w := w) hlen6 hb6 hb6'); have HCC := Lib.hid hcc6; clear hra6 hps6 hf6 hb6 hb6' hlen6 hcc6))
          rw [HRES.out]
          exact bodyPost_ret (v := .agg #[.int .i64 t6.kind, .string t6.text, .int .i64 t6.num, .slice aa6 t6.args.length cc6]) (by simp [results, Tryd.results86, go_sem, y0, y1, y2, y3]; try rfl) rfl (fin_par (be := 0) HPS.out HCC.out (HRA.out.mono (fun i _ hi => ⟨by have h1 := HF3.out.size; have h2 := HS1.out; omega, by have h1 := HF3.out.size; have h2 := HS1.out; omega⟩)) ((HF1.out.trans HF3.out).trans HF.out) ⟨by have := HSO.out.1; simp only [List.length_cons]; omega, HSO.out.2.1, HSO.out.2.2⟩ (fun _ => rfl) (fr4 w4 w.heap.size (.int .i64 t6.kind) (.string t6.text) (.int .i64 t6.num) (.slice aa6 t6.args.length cc6)) HPL.out)
      by_cases hk5 : k = 5
      · subst hk5
        obtain ⟨q, hq⟩ : ∃ q, q = (tx == [40]) := ⟨_, rfl⟩
        have he : ((bs tx).toList == [40]) = q := by rw [hq]; exact bs_eqs HT8.out [40] (by simp)
        cases q with
        | false =>
          have hne : tx ≠ [40] := by simpa using hq.symm
          have HRES : Hid (runJ (.lev 9 (((5, tx, nm), at0) :: r)) = none) := Lib.hid (by rw [runJ_prim]; simp [primJ, hne])
          clear hq hne
          go_enter Tryd.func86, Tryd.ntmps86
          go_upto_region 1 with fail
          rw [← HW1.out]
          go_upto_region 4 with (go_at_call 61; refine HTK.out.mono ?_; rintro e9 w2 ⟨rfl, ⟨a2, c2, hps2⟩, hf2⟩)
          obtain ⟨w3, hw3⟩ : ∃ w3, w3 = w2.alloc (.cells #[.int .i64 5, .string (bs tx), .int .i64 (nm : Nat), .int .i64 (at0 : Nat)] 48) := ⟨_, rfl⟩
          rw [← hw3]
          have HB3 : Hid (Below w2.heap.size w2 w3) := Lib.hid (by rw [hw3]; exact below_alloc _ _)
          obtain ⟨bt, hbt⟩ : ∃ bt, bt = w2.heap.size := ⟨_, rfl⟩
          have HTT : Hid (TC w3 bt 5 (bs tx) (nm : Nat) (at0 : Nat)) := Lib.hid (by rw [hw3, hbt]; exact alloc_tc _ _ _ _ _ _)
          have HF3 : Hid (Fr (fun x => x = pb) w1 w3) := Lib.hid (hf2.trans (.of_below HB3.out))
          have HTC3 := Lib.hid (HTC.out.fr HF3.out (by have := HPL.out; omega))
          have HPS3 := Lib.hid (hps2.below HB3.out)
          have HBT : Hid (w.heap.size < bt) := Lib.hid (by have h1 := hf2.size; have h2 := HS1.out; omega)
          rw [← hbt]
          obtain ⟨z0, z1, z2, z3, zf⟩ := HTT.out
          clear hw3 hbt hps2 hf2 zf c1
          have p1 := HPS3.out.c1
          have pf1 := HPS3.out.fz 1
          have hn1 : ¬ (pb = w.heap.size) := by have := HPL.out; omega
          have hn2 : ¬ (w.heap.size = pb) := by have := HPL.out; omega
          obtain ⟨y0, y1, y2, y3, yf⟩ := HTC3.out
          have yf0 := yf 0
          have yf1 := yf 1
          have yf2 := yf 2
          have yf3 := yf 3
          clear yf
          go_wp2
          exact bodyPost_ret (v := .agg #[.int .i64 0, .string ⟨#[]⟩, .int .i64 0, .slice none 0 0]) (by simp [results, Tryd.results86, go_sem, y0, y1, y2, y3]; try rfl) rfl (fin_par (be := 0) (wr := w3.setCell ⟨pb, 1, none⟩ (.bool true)) (e := eE) (rest := none) HPS3.out.setBad (by simp [eE, Ex.args]) (.inl rfl) ((HF1.out.trans HF3.out).setCell (p := ⟨pb, 1, none⟩) rfl _) ⟨by simp, fun _ => rfl, fun _ => by rw [if_pos rfl]; exact HRES.out⟩ (fun h => by cases h) (fr4 (w3.setCell ⟨pb, 1, none⟩ (.bool true)) w.heap.size (.int .i64 0) (.string ⟨#[]⟩) (.int .i64 0) (.slice none 0 0)) HPL.out)
        | true =>
          have hne : tx = [40] := by simpa using hq.symm
          have HRES : Hid (runJ (.lev 9 (((5, tx, nm), at0) :: r)) = (runJ (.lev 1 r)).bind fun x => if isT 5 [[41]] x.2 then some (x.1, x.2.tail) else none) := Lib.hid (by rw [runJ_prim]; simp [primJ, hne])
          clear hq hne
          go_enter Tryd.func86, Tryd.ntmps86
          go_upto_region 1 with fail
          rw [← HW1.out]
          go_upto_region 4 with (go_at_call 61; refine HTK.out.mono ?_; rintro e9 w2 ⟨rfl, ⟨a2, c2, hps2⟩, hf2⟩)
          obtain ⟨w3, hw3⟩ : ∃ w3, w3 = w2.alloc (.cells #[.int .i64 5, .string (bs tx), .int .i64 (nm : Nat), .int .i64 (at0 : Nat)] 48) := ⟨_, rfl⟩
          rw [← hw3]
          have HB3 : Hid (Below w2.heap.size w2 w3) := Lib.hid (by rw [hw3]; exact below_alloc _ _)
          obtain ⟨bt, hbt⟩ : ∃ bt, bt = w2.heap.size := ⟨_, rfl⟩
          have HTT : Hid (TC w3 bt 5 (bs tx) (nm : Nat) (at0 : Nat)) := Lib.hid (by rw [hw3, hbt]; exact alloc_tc _ _ _ _ _ _)
          have HF3 : Hid (Fr (fun x => x = pb) w1 w3) := Lib.hid (hf2.trans (.of_below HB3.out))
          have HTC3 := Lib.hid (HTC.out.fr HF3.out (by have := HPL.out; omega))
          have HPS3 := Lib.hid (hps2.below HB3.out)
          have HBT : Hid (w.heap.size < bt) := Lib.hid (by have h1 := hf2.size; have h2 := HS1.out; omega)
          rw [← hbt]
          obtain ⟨z0, z1, z2, z3, zf⟩ := HTT.out
          clear hw3 hbt hps2 hf2 zf c1
          have HQ : Hid (Calls Tryd.prog 31 #[.pointer (some ⟨pb, 0, none⟩)] w3 (ParPost pb w3 (runJ (.lev 1 r)) false r)) := Lib.hid (HSPEC.out 1 (by omega) (by omega) w3 pb a2 c2 r false HPS3.out (by have h1 := HM.out; simp only [Job.wt, List.length_cons] at *; omega))
          go_upto_region 17 with (go_at_call 31; refine HQ.out.mono ?_; rintro e9 w4 ⟨t6, v6, a6, c6, ts6, bad6, rfl, ⟨aa6, cc6, rfl, hcc6, hra6⟩, hps6, hlen6, hf6, hb6, hb6'⟩; simp only [exV])
          obtain ⟨w5, hw5⟩ : ∃ w5, w5 = w4.alloc (.cells #[.int .i64 t6.kind, .string t6.text, .int .i64 t6.num, .slice aa6 t6.args.length cc6] 25) := ⟨_, rfl⟩
          rw [← hw5]
          have HB5 : Hid (Below w4.heap.size w4 w5) := Lib.hid (by rw [hw5]; exact below_alloc _ _)
          obtain ⟨bf, hbf⟩ : ∃ bf, bf = w4.heap.size := ⟨_, rfl⟩
          have HECB : Hid (EC w5 bf t6 aa6 cc6) := Lib.hid (by rw [hw5, hbf]; exact alloc_ec _ _ _ _ _)
          have HF5 : Hid (Fr (fun x => x = pb) w3 w5) := Lib.hid (hf6.trans (.of_below HB5.out))
          have HBFP : Hid (¬ (bf = pb)) := Lib.hid (by have h1 := hf6.size; have h2 := HF3.out.size; have h3 := HS1.out; have := HPL.out; omega)
          have HRT5 : Hid (RdA (fun i => w.heap.size < i ∧ i ≠ 0) w5 t6.args aa6) := Lib.hid ((hra6.mono (fun i _ hi => ⟨by have h2 := HF3.out.size; have h3 := HS1.out; omega, by have h2 := HF3.out.size; have h3 := HS1.out; omega⟩)).below HB5.out)
          have HPS5 := Lib.hid (hps6.below HB5.out)
          have HCC6 := Lib.hid hcc6
          obtain ⟨tsX, htsX⟩ : ∃ x, x = (if isT 5 [[41]] ts6 then ts6.tail else ts6) := ⟨_, rfl⟩
          obtain ⟨badX, hbadX⟩ : ∃ x, x = (if isT 5 [[41]] ts6 then bad6 else true) := ⟨_, rfl⟩
          have HEX : Hid (Calls Tryd.prog 87 #[.pointer (some ⟨pb, 0, none⟩), .string ⟨#[41]⟩] w5 fun e w' => e = .returned (.tuple #[]) ∧ (∃ a' c', PS w' pb a' c' tsX badX) ∧ Fr (fun x => x = pb) w5 w') := Lib.hid (by rw [htsX, hbadX]; exact expect_any [41] (by simp) HPS5.out)
          have HLX : Hid (tsX.length ≤ (((5, tx, nm), at0) :: r : List Tk).length) := Lib.hid (by
            have h3 : tsX.length ≤ ts6.length := by rw [htsX]; split <;> simp
            simp only [List.length_cons]; omega)
          have HNO : Hid (if badX = true then runJ (.lev 9 (((5, tx, nm), at0) :: r)) = none else runJ (.lev 9 (((5, tx, nm), at0) :: r)) = some (t6, tsX)) := Lib.hid (by
            have h2 := hb6' (by first | rfl | trivial)
            rw [HRES.out, htsX, hbadX]
            cases hx : isT 5 [[41]] ts6 with
            | true =>
              simp only [if_true]
              split at h2
              · rename_i hy; rw [if_pos hy, h2]; rfl
              · rename_i hy; rw [if_neg hy, h2]; simp [hx]
            | false =>
              simp only [Bool.false_eq_true, if_false, if_true]
              split at h2
              · rw [h2]; rfl
              · rw [h2]; simp [hx])
          rw [← hbf]
          clear htsX hbadX hw5 hbf hra6 hps6 hcc6 hlen6 hb6 hb6' hf6 z0 z1 z2 z3
          go_upto_region 18 with (go_at_call 87; refine HEX.out.mono ?_; rintro e9 w6 ⟨rfl, ⟨a9, c9, hps9⟩, hf9⟩; have HPS9 := Lib.hid hps9; have HF9 := Lib.hid hf9; clear hps9 hf9)
          obtain ⟨x0, x1, x2, x3, xf⟩ := HECB.out.fr HF9.out HBFP.out
          obtain ⟨y0, y1, y2, y3, yf⟩ := (HTC3.out.fr (HF5.out.trans HF9.out) (by have := HPL.out; omega))
          have yf0 := yf 0
          have yf1 := yf 1
          have yf2 := yf 2
          have yf3 := yf 3
          clear xf yf
          go_wp2
          exact bodyPost_ret (v := .agg #[.int .i64 t6.kind, .string t6.text, .int .i64 t6.num, .slice aa6 t6.args.length cc6]) (by simp [results, Tryd.results86, go_sem, y0, y1, y2, y3]; try rfl) rfl (fin_par (be := 0) (rest := some (t6, tsX)) HPS9.out HCC6.out (HRT5.out.fr HF9.out (fun i hi e => by have := HPL.out; omega)) (((HF1.out.trans HF3.out).trans HF5.out).trans HF9.out) ⟨HLX.out, (fun h => by cases h), fun _ => HNO.out⟩ (fun _ => rfl) (fr4 w6 w.heap.size (.int .i64 t6.kind) (.string t6.text) (.int .i64 t6.num) (.slice aa6 t6.args.length cc6)) HPL.out)
      have hb1 : ((k : Int) == 1) = false := by rw [beq_eq_false_iff_ne]; omega
      have hb2 : ((k : Int) == 2) = false := by rw [beq_eq_false_iff_ne]; omega
      have hb3 : ((k : Int) == 3) = false := by rw [beq_eq_false_iff_ne]; omega
      have hb4 : ((k : Int) == 4) = false := by rw [beq_eq_false_iff_ne]; omega
      have hb5 : ((k : Int) == 5) = false := by rw [beq_eq_false_iff_ne]; omega
      have HRES : Hid (runJ (.lev 9 (((k, tx, nm), at0) :: r)) = none) := Lib.hid (by rw [runJ_prim]; simp [primJ, hk1, hk2, hk3, hk4, hk5])
      clear hk1 hk2 hk3 hk4 hk5
      go_enter Tryd.func86, Tryd.ntmps86
      go_upto_region 1 with fail
      rw [← HW1.out]
      go_upto_region 4 with (go_at_call 61; refine HTK.out.mono ?_; rintro e9 w2 ⟨rfl, ⟨a2, c2, hps2⟩, hf2⟩)
      obtain ⟨w3, hw3⟩ : ∃ w3, w3 = w2.alloc (.cells #[.int .i64 (k : Nat), .string (bs tx), .int .i64 (nm : Nat), .int .i64 (at0 : Nat)] 48) := ⟨_, rfl⟩
      rw [← hw3]
      have HB3 : Hid (Below w2.heap.size w2 w3) := Lib.hid (by rw [hw3]; exact below_alloc _ _)
      obtain ⟨bt, hbt⟩ : ∃ bt, bt = w2.heap.size := ⟨_, rfl⟩
      have HTT : Hid (TC w3 bt (k : Nat) (bs tx) (nm : Nat) (at0 : Nat)) := Lib.hid (by rw [hw3, hbt]; exact alloc_tc _ _ _ _ _ _)
      have HF3 : Hid (Fr (fun x => x = pb) w1 w3) := Lib.hid (hf2.trans (.of_below HB3.out))
      have HTC3 := Lib.hid (HTC.out.fr HF3.out (by have := HPL.out; omega))
      have HPS3 := Lib.hid (hps2.below HB3.out)
      have HBT : Hid (w.heap.size < bt) := Lib.hid (by have h1 := hf2.size; have h2 := HS1.out; omega)
      rw [← hbt]
      obtain ⟨z0, z1, z2, z3, zf⟩ := HTT.out
      clear hw3 hbt hps2 hf2 zf c1
      have p1 := HPS3.out.c1
      have pf1 := HPS3.out.fz 1
      have hn1 : ¬ (pb = w.heap.size) := by have := HPL.out; omega
      have hn2 : ¬ (w.heap.size = pb) := by have := HPL.out; omega
      obtain ⟨y0, y1, y2, y3, yf⟩ := HTC3.out
      have yf0 := yf 0
      have yf1 := yf 1
      have yf2 := yf 2
      have yf3 := yf 3
      clear yf
      go_wp2
      exact bodyPost_ret (v := .agg #[.int .i64 0, .string ⟨#[]⟩, .int .i64 0, .slice none 0 0]) (by simp [results, Tryd.results86, go_sem, y0, y1, y2, y3]; try rfl) rfl (fin_par (be := 0) (wr := w3.setCell ⟨pb, 1, none⟩ (.bool true)) (e := eE) (rest := none) HPS3.out.setBad (by simp [eE, Ex.args]) (.inl rfl) ((HF1.out.trans HF3.out).setCell (p := ⟨pb, 1, none⟩) rfl _) ⟨by simp, fun _ => rfl, fun _ => by rw [if_pos rfl]; exact HRES.out⟩ (fun h => by cases h) (fr4 (w3.setCell ⟨pb, 1, none⟩ (.bool true)) w.heap.size (.int .i64 0) (.string ⟨#[]⟩) (.int .i64 0) (.slice none 0 0)) HPL.out)

end Go.Proofs.YtpabngicbfcdkaaDoor
