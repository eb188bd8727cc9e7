/-
  The parser: not and compare.
-/
import Derived.Test.YtpabngicbfcdkaaPar3
namespace Go.Proofs.Ytpabngicbfcdkaa
open Go.RowKit
set_option linter.unusedVariables false
set_option linter.unusedSimpArgs false

theorem isT_tail {k : Nat} {l : List (List Nat)} {ts : List Tk} (h : isT k l ts = true) : ts.isEmpty = false ∧ ts.tail.length + 1 = ts.length := by
  cases ts with
  | nil => cases h
  | cons t r => exact ⟨rfl, rfl⟩

set_option maxRecDepth 100000 in
set_option maxHeartbeats 1500000 in
theorem lev3_any (M : Nat) (H : Spec M) (w : World) (pb : Nat) (a : Option Addr) (c : Nat) (ts : List Tk) (bad : Bool) (hp : PS w pb a c ts bad) (hM : (Job.lev 3 ts).wt ≤ M) :
    Calls Try.prog 57 #[.pointer (some ⟨pb, 0, none⟩)] w (ParPost pb w (runJ (.lev 3 ts)) bad ts) := by
  obtain ⟨w1, hw1⟩ : ∃ w1, w1 = w.alloc (.cells #[.int .i64 0, .string ⟨#[]⟩, .int .i64 0, .slice none 0 0] 38) := ⟨_, rfl⟩
  have HB1 : Hid (Below w.heap.size w w1) := Lib.hid (by rw [hw1]; exact below_alloc _ _)
  have HS1 : Hid (w1.heap.size = w.heap.size + 1) := Lib.hid (by rw [hw1]; simp)
  have HTC : Hid (EC w1 w.heap.size eE none 0) := Lib.hid (by rw [hw1]; exact alloc_ec w eE none 0 _)
  obtain ⟨w2, hw2⟩ : ∃ w2, w2 = w1.alloc (.cells #[.string ⟨#[110, 111, 116]⟩] 9) := ⟨_, rfl⟩
  have HB2 : Hid (Below w1.heap.size w1 w2) := Lib.hid (by rw [hw2]; exact below_alloc _ _)
  have HPL := Lib.hid hp.lt
  have HP2 := Lib.hid ((hp.below HB1.out).below HB2.out)
  have HAT : Hid (Calls Try.prog 54 #[.pointer (some ⟨pb, 0, none⟩), .int .i64 4, .slice (some ⟨w1.heap.size, 0, none⟩) 1 1] w2 fun e w' => e = .returned (.bool (isT 4 [wNot] ts)) ∧ w2 = w') := Lib.hid (at_any 4 [wNot] (by simp [wNot]) (by omega) (by simp) w1.heap.size 1 w2 (fun j hj => by
      have hj : j < 1 := hj
      rw [hw2]
      match j, hj with
      | 0, _ => simp; rfl) HP2.out)
  have HW1 := Lib.hid hw1
  have HW2 := Lib.hid hw2
  have HF2 : Hid (Fr (fun x => x = pb) w w2) := Lib.hid (Fr.of_below (bthen HB1.out HB2.out))
  clear hw1 hw2 hp
  cases hi : isT 4 [wNot] ts with
  | true =>
    rw [hi] at HAT
    obtain ⟨hie, htl⟩ := isT_tail hi
    have HTK := Lib.hid (take_any HP2.out)
    simp only [TakePost, hie, Bool.or_false] at HTK
    have HTL := Lib.hid htl
    have HRES : Hid (runJ (.lev 3 ts) = (runJ (.lev 3 ts.tail)).bind fun x => some (callE wNot [x.1], x.2)) := Lib.hid (by rw [runJ_not]; unfold notJ; rw [hi]; rfl)
    have HN : Hid (∀ (w : World) (a : Option Addr) (c : Nat), PS w pb a c ts.tail bad → Calls Try.prog 57 #[.pointer (some ⟨pb, 0, none⟩)] w (ParPost pb w (runJ (.lev 3 ts.tail)) bad ts.tail)) := Lib.hid (fun w a c h => H 3 (by omega) (by omega) w pb a c ts.tail bad h (by simp only [Job.wt] at *; omega))
    clear hi hie htl
    go_enter Try.func57, Try.ntmps57
    go_wp2_with (first
      | (go_at_call 54; rw [← HW1.out, ← HW2.out]; try rw [← HS1.out]; refine HAT.out.mono ?_; rintro e w3 ⟨rfl, rfl⟩)
      | (go_at_call 55; refine HTK.out.mono ?_; rintro e w3 ⟨rfl, ⟨a3, c3, hps3⟩, hf3⟩; have HPS3 := Lib.hid hps3; have HF3 := Lib.hid hf3; clear hps3 hf3)
      | (go_at_call 57; refine (HN.out _ _ _ HPS3.out).mono ?_; rintro e w4 ⟨t, v, a4, c4, ts4, bad4, rfl, ⟨aa, cc, rfl, hcc, hra⟩, hps, hlen, hf, hb1, hb2⟩; simp only [exV]; have HF4 := Lib.hid hf; have HRA := Lib.hid hra; have HPS4 := Lib.hid hps; have HCC := Lib.hid hcc; have HLEN := Lib.hid hlen; have HK1 := Lib.hid hb1; have HK2 := Lib.hid hb2; clear hra hps hf hb1 hb2 hlen hcc)
      | (go_at_call 56; refine (call_any _ _ _ _ _).mono ?_; rintro e w5 ⟨rfl, hb5⟩; have HB45 := Lib.hid (bthen (below_alloc w4 (.cells #[.int .i64 t.kind, .string t.text, .int .i64 t.num, .slice aa t.args.length cc] 38)) hb5); have HEC5 := Lib.hid ((((HTC.out.below HB2.out).fr HF3.out (by have := HPL.out; omega)).fr HF4.out (by have := HPL.out; omega)).below HB45.out); obtain ⟨y0, y1, y2, y3, yf⟩ := HEC5.out; have yf0 := yf 0; have yf1 := yf 1; have yf2 := yf 2; have yf3 := yf 3; have HRB : Hid (RdA (fun i => w.heap.size < i ∧ i ≠ 0) w5 [t] (some ⟨w4.heap.size, 0, none⟩)) := Lib.hid ((rdA_block [(t, aa, cc)] (heap_new_at rfl) rfl ⟨by have h1 := HF2.out.size; have h2 := HF3.out.size; have h3 := HF4.out.size; have h4 := HB2.out.size; have h5 := HS1.out; omega, by have h1 := HF2.out.size; have h2 := HF3.out.size; have h3 := HF4.out.size; have h4 := HB2.out.size; have h5 := HS1.out; omega⟩ (fun x hx => by
          rcases List.mem_cons.1 hx with rfl | hx
          · exact ⟨HCC.out, (HRA.out.mono (fun i _ hi => ⟨by have h3 := HF3.out.size; have h4 := HB2.out.size; have h5 := HS1.out; omega, by have h3 := HF3.out.size; have h4 := HB2.out.size; have h5 := HS1.out; omega⟩)).below (below_alloc _ _)⟩
          · cases hx)).below hb5); clear hb5 yf))
    exact bodyPost_ret (v := .agg #[.int .i64 4, .string (bs wNot), .int .i64 0, .slice (some ⟨w4.heap.size, 0, none⟩) 1 1]) (by simp [results, Try.results57, go_sem, y0, y1, y2, y3]; try rfl) rfl (fin_par (be := 0) (e := callE wNot [t]) (rest := some (callE wNot [t], ts4)) (HPS4.out.below HB45.out) (by simp [callE, Ex.args]) HRB.out (((HF2.out.trans HF3.out).trans HF4.out).trans (.of_below HB45.out)) ⟨by have := HLEN.out; have := HTL.out; omega, HK1.out, fun h => by
      have h2 := HK2.out h
      split at h2
      · rename_i hx; rw [if_pos hx, HRES.out, h2]; rfl
      · rename_i hx; rw [if_neg hx, HRES.out, h2]; rfl⟩ (fun _ => rfl) (fr4 w5 w.heap.size (.int .i64 4) (.string (bs wNot)) (.int .i64 0) (.slice (some ⟨w4.heap.size, 0, none⟩) 1 1)) HPL.out)
  | false =>
    rw [hi] at HAT
    have HRES : Hid (runJ (.lev 3 ts) = runJ (.lev 4 ts)) := Lib.hid (by rw [runJ_not]; unfold notJ; rw [hi]; rfl)
    have HN := Lib.hid (H 4 (by omega) (by omega) w2 pb a c ts bad HP2.out (by simp only [Job.wt] at *; omega))
    change Hid (Calls Try.prog 62 _ _ _) at HN
    clear hi
    go_enter Try.func57, Try.ntmps57
    go_wp2_with (first
      | (go_at_call 54; rw [← HW1.out, ← HW2.out]; try rw [← HS1.out]; refine HAT.out.mono ?_; rintro e w3 ⟨rfl, rfl⟩)
      | (go_at_call 62; refine HN.out.mono ?_; rintro e w3 ⟨t, v, a3, c3, ts3, bad3, rfl, ⟨aa, cc, rfl, hcc, hra⟩, hps, hlen, hf, hb1, hb2⟩; simp only [exV]; have HEC3 := Lib.hid ((HTC.out.below HB2.out).fr hf (by have := HPL.out; omega)); obtain ⟨y0, y1, y2, y3, yf⟩ := HEC3.out; have yf0 := yf 0; have yf1 := yf 1; have yf2 := yf 2; have yf3 := yf 3; have HRA := Lib.hid hra; have HPS := Lib.hid hps; have HF := Lib.hid hf; have HSO := Lib.hid (ParPost.sofar (pb := pb) (w := w) hlen hb1 hb2); have HCC := Lib.hid hcc; clear hra hps hf hb1 hb2 yf hlen hcc))
    rw [HRES.out]
    exact bodyPost_ret (v := .agg #[.int .i64 t.kind, .string t.text, .int .i64 t.num, .slice aa t.args.length cc]) (by simp [results, Try.results57, go_sem, y0, y1, y2, y3]; try rfl) rfl (fin_par (be := 0) HPS.out HCC.out (HRA.out.mono (fun i _ hi => ⟨by have h1 := HB2.out.size; have h2 := HS1.out; omega, by have h1 := HB2.out.size; have h2 := HS1.out; omega⟩)) (HF2.out.trans HF.out) HSO.out (fun _ => rfl) (fr4 w3 w.heap.size (.int .i64 t.kind) (.string t.text) (.int .i64 t.num) (.slice aa t.args.length cc)) HPL.out)

end Go.Proofs.Ytpabngicbfcdkaa
