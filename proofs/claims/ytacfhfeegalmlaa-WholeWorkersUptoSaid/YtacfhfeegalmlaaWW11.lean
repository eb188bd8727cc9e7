/-
  Joined texts: The rows that Run makes (its four makers come in any order). Printed by wip/gen/mk3.py.
-/
import Derived.Test.YtacfhfeegalmlaaWW10

/- The rows that Run makes (its four makers come in any order). Printed by wip/gen/mk3.py. -/
namespace Go.Proofs.Ytacfhfeegalmlaa
open Go.Conc
set_option linter.unusedVariables false
set_option linter.unusedSimpArgs false

noncomputable def TI38 : TypeInfo := (Try.prog.info? 38).getD default
noncomputable def TI75 : TypeInfo := (Try.prog.info? 75).getD default
noncomputable def TI62 : TypeInfo := (Try.prog.info? 62).getD default
def z38 : Value := .agg #[.slice none 0 0, .int .i64 0, .nilIface]
def z75 : Value := .chan none
def z62 : Value := .agg #[.int .i64 0, .pointer none]
theorem Kn.Ext.none {k k' : Kn} (x : k.Ext k') {b : Nat} (h : k'.own b = none) : k.own b = none := by
  cases e : k.own b with
  | none => rfl
  | some o => rw [x.own _ _ e] at h; cases h
/-- What stands behind that region. -/
structure Made (k k' : Kn) (B jb joff jc n N : Nat) (bR bE bV br bv : Nat) : Prop where
  ext : k.Ext k'
  R : ∃ c, k'.own bR = some (.cells c 38) ∧ c.size = n * 3
  E : ∃ c, k'.own bE = some (.cells c 75) ∧ c.size = N * 1
  V : ∃ c, k'.own bV = some (.cells c 62) ∧ c.size = N * 2
  r : k'.own br = some (.cells #[.pointer (some ⟨B, 0, none⟩), .slice (some ⟨jb, joff, none⟩) n jc, .slice (some ⟨bR, 0, none⟩) n n, .slice (some ⟨bE, 0, none⟩) N N, .slice (some ⟨bV, 0, none⟩) N N] 74)
  v : k'.own bv = some (.cells #[.pointer (some ⟨br, 0, none⟩)] 70)
  nR : k.own bR = none
  nE : k.own bE = none
  nV : k.own bV = none
  nr : k.own br = none
  nv : k.own bv = none
def MadeA (k : Kn) (B jb joff jc n N : Nat) (W : Value) (a : Act) (k' : Kn) : Prop :=
  ∃ bR bE bV br bv, Made k k' B jb joff jc n N bR bE bV br bv ∧ ∃ T' : Array Value, a = ⟨T', []⟩ ∧ T' = #[.pointer (some ⟨B, 0, none⟩), .slice (some ⟨jb, joff, none⟩) n jc, W, (fun j => T'.getD j undef) 3, (fun j => T'.getD j undef) 4, (fun j => T'.getD j undef) 5, .slice none 0 0, .pointer (some ⟨bv, 0, none⟩), (fun j => T'.getD j undef) 8, (fun j => T'.getD j undef) 9, (fun j => T'.getD j undef) 10, (fun j => T'.getD j undef) 11, (fun j => T'.getD j undef) 12, (fun j => T'.getD j undef) 13, (fun j => T'.getD j undef) 14, (fun j => T'.getD j undef) 15, (fun j => T'.getD j undef) 16, (fun j => T'.getD j undef) 17, (fun j => T'.getD j undef) 18, (fun j => T'.getD j undef) 19, (fun j => T'.getD j undef) 20, (fun j => T'.getD j undef) 21, (fun j => T'.getD j undef) 22, (fun j => T'.getD j undef) 23, (fun j => T'.getD j undef) 24, (fun j => T'.getD j undef) 25, (fun j => T'.getD j undef) 26, (fun j => T'.getD j undef) 27, (fun j => T'.getD j undef) 28, (fun j => T'.getD j undef) 29, (fun j => T'.getD j undef) 30, (fun j => T'.getD j undef) 31, (fun j => T'.getD j undef) 32, (fun j => T'.getD j undef) 33, (fun j => T'.getD j undef) 34, (fun j => T'.getD j undef) 35, (fun j => T'.getD j undef) 36, (fun j => T'.getD j undef) 37, (fun j => T'.getD j undef) 38, (fun j => T'.getD j undef) 39, (fun j => T'.getD j undef) 40, (fun j => T'.getD j undef) 41, (fun j => T'.getD j undef) 42, (fun j => T'.getD j undef) 43, (fun j => T'.getD j undef) 44, (fun j => T'.getD j undef) 45, (fun j => T'.getD j undef) 46, (fun j => T'.getD j undef) 47, (fun j => T'.getD j undef) 48, (fun j => T'.getD j undef) 49, (fun j => T'.getD j undef) 50, (fun j => T'.getD j undef) 51, (fun j => T'.getD j undef) 52, (fun j => T'.getD j undef) 53, (fun j => T'.getD j undef) 54, (fun j => T'.getD j undef) 55, (fun j => T'.getD j undef) 56, (fun j => T'.getD j undef) 57, (fun j => T'.getD j undef) 58, (fun j => T'.getD j undef) 59, (fun j => T'.getD j undef) 60, (fun j => T'.getD j undef) 61, (fun j => T'.getD j undef) 62, (fun j => T'.getD j undef) 63, (fun j => T'.getD j undef) 64, (fun j => T'.getD j undef) 65, (fun j => T'.getD j undef) 66, (fun j => T'.getD j undef) 67, (fun j => T'.getD j undef) 68, (fun j => T'.getD j undef) 69, (fun j => T'.getD j undef) 70, (fun j => T'.getD j undef) 71, (fun j => T'.getD j undef) 72, (fun j => T'.getD j undef) 73, (fun j => T'.getD j undef) 74, (fun j => T'.getD j undef) 75, (fun j => T'.getD j undef) 76]
theorem madeRow {k k' : Kn} {B jb joff jc n N bR bE bV br bv : Nat} {W : Value} {cR cE cV : Array Value} {a : Act} {u : Value} (xx : k.Ext k') (oR : k'.own bR = some (.cells cR 38)) (oE : k'.own bE = some (.cells cE 75)) (oV : k'.own bV = some (.cells cV 62))
    (or : k'.own br = some (.cells #[.pointer (some ⟨B, 0, none⟩), .slice (some ⟨jb, joff, none⟩) n jc, .slice (some ⟨bR, 0, none⟩) n n, .slice (some ⟨bE, 0, none⟩) N N, .slice (some ⟨bV, 0, none⟩) N N] 74)) (ov : k'.own bv = some (.cells #[u] 70))
    (nR : k.own bR = none) (nE : k.own bE = none) (nV : k.own bV = none) (nr : k.own br = none) (nv : k.own bv = none) (sR : cR.size = n * 3) (sE : cE.size = N * 1) (sV : cV.size = N * 2)
    (T' : Array Value) (ha : a = ⟨T', []⟩) (hT : T' = #[.pointer (some ⟨B, 0, none⟩), .slice (some ⟨jb, joff, none⟩) n jc, W, (fun j => T'.getD j undef) 3, (fun j => T'.getD j undef) 4, (fun j => T'.getD j undef) 5, .slice none 0 0, .pointer (some ⟨bv, 0, none⟩), (fun j => T'.getD j undef) 8, (fun j => T'.getD j undef) 9, (fun j => T'.getD j undef) 10, (fun j => T'.getD j undef) 11, (fun j => T'.getD j undef) 12, (fun j => T'.getD j undef) 13, (fun j => T'.getD j undef) 14, (fun j => T'.getD j undef) 15, (fun j => T'.getD j undef) 16, (fun j => T'.getD j undef) 17, (fun j => T'.getD j undef) 18, (fun j => T'.getD j undef) 19, (fun j => T'.getD j undef) 20, (fun j => T'.getD j undef) 21, (fun j => T'.getD j undef) 22, (fun j => T'.getD j undef) 23, (fun j => T'.getD j undef) 24, (fun j => T'.getD j undef) 25, (fun j => T'.getD j undef) 26, (fun j => T'.getD j undef) 27, (fun j => T'.getD j undef) 28, (fun j => T'.getD j undef) 29, (fun j => T'.getD j undef) 30, (fun j => T'.getD j undef) 31, (fun j => T'.getD j undef) 32, (fun j => T'.getD j undef) 33, (fun j => T'.getD j undef) 34, (fun j => T'.getD j undef) 35, (fun j => T'.getD j undef) 36, (fun j => T'.getD j undef) 37, (fun j => T'.getD j undef) 38, (fun j => T'.getD j undef) 39, (fun j => T'.getD j undef) 40, (fun j => T'.getD j undef) 41, (fun j => T'.getD j undef) 42, (fun j => T'.getD j undef) 43, (fun j => T'.getD j undef) 44, (fun j => T'.getD j undef) 45, (fun j => T'.getD j undef) 46, (fun j => T'.getD j undef) 47, (fun j => T'.getD j undef) 48, (fun j => T'.getD j undef) 49, (fun j => T'.getD j undef) 50, (fun j => T'.getD j undef) 51, (fun j => T'.getD j undef) 52, (fun j => T'.getD j undef) 53, (fun j => T'.getD j undef) 54, (fun j => T'.getD j undef) 55, (fun j => T'.getD j undef) 56, (fun j => T'.getD j undef) 57, (fun j => T'.getD j undef) 58, (fun j => T'.getD j undef) 59, (fun j => T'.getD j undef) 60, (fun j => T'.getD j undef) 61, (fun j => T'.getD j undef) 62, (fun j => T'.getD j undef) 63, (fun j => T'.getD j undef) 64, (fun j => T'.getD j undef) 65, (fun j => T'.getD j undef) 66, (fun j => T'.getD j undef) 67, (fun j => T'.getD j undef) 68, (fun j => T'.getD j undef) 69, (fun j => T'.getD j undef) 70, (fun j => T'.getD j undef) 71, (fun j => T'.getD j undef) 72, (fun j => T'.getD j undef) 73, (fun j => T'.getD j undef) 74, (fun j => T'.getD j undef) 75, (fun j => T'.getD j undef) 76]) :
    MadeA k B jb joff jc n N W a (k'.set bv (.cells #[.pointer (some ⟨br, 0, none⟩)] 70)) := by
  have ne : ∀ b c t, k'.own b = some (.cells c t) → t ≠ 70 → b ≠ bv := fun b c t h1 h2 e => by
    rw [e, ov] at h1
    injection h1 with h1
    injection h1 with _ h1
    exact h2 h1.symm
  refine ⟨bR, bE, bV, br, bv, ⟨xx.set_new nv _, ⟨cR, ?_, sR⟩, ⟨cE, ?_, sE⟩, ⟨cV, ?_, sV⟩, ?_, Kn.set_same _ _ _, nR, nE, nV, nr, nv⟩, T', ha, hT⟩
  · rw [Kn.set_ne _ _ (ne _ _ _ oR (by decide))]; exact oR
  · rw [Kn.set_ne _ _ (ne _ _ _ oE (by decide))]; exact oE
  · rw [Kn.set_ne _ _ (ne _ _ _ oV (by decide))]; exact oV
  · rw [Kn.set_ne _ _ (ne _ _ _ or (by decide))]; exact or
noncomputable def reg3 : Array Oper := match Try.f6.body.getD .skip with
  | .seq _ (.seq _ (.seq (.region _ ops _) _)) => ops
  | _ => #[]
set_option maxRecDepth 100000 in
set_option maxHeartbeats 16000000 in
theorem made_k {main : Who} (k : Kn) (B jb joff jc n N : Nat) (W : Value) (hN : N = n + 1) (hn : n < 1000) (y : Nat → Value) :
    (Code.region 3 reg3 true).wpK Try.prog main 6 (fun e a' k' => e = .normal ∧ MadeA k B jb joff jc n N W a' k') ⟨#[.pointer (some ⟨B, 0, none⟩), .slice (some ⟨jb, joff, none⟩) n jc, W, y 3, y 4, y 5, .slice none 0 0, y 7, y 8, y 9, y 10, y 11, y 12, y 13, y 14, y 15, y 16, y 17, y 18, y 19, y 20, y 21, y 22, y 23, y 24, y 25, y 26, y 27, y 28, y 29, y 30, y 31, y 32, y 33, y 34, y 35, y 36, y 37, y 38, y 39, y 40, y 41, y 42, y 43, y 44, y 45, y 46, y 47, y 48, y 49, y 50, y 51, y 52, y 53, y 54, y 55, y 56, y 57, y 58, y 59, y 60, y 61, y 62, y 63, y 64, y 65, y 66, y 67, y 68, y 69, y 70, y 71, y 72, y 73, y 74, y 75, y 76], []⟩ k := by
  simp only [reg3, Try.f6, Option.getD_some]
  have w1 : IntKind.i64.wrap ((n : Int) + 1) = (N : Int) := by rw [wr64 (by omega) (by omega)]; omega
  have hn1 : n < 2000 := by omega
  have hN1 : N < 2000 := by omega
  have xx := Kn.Ext.refl k
  clear hN hn
  (refine wpK_region_held (fun _ => True) (by kernel_rfl) ?_; simp only [List.size_toArray, List.length_cons, List.length_nil, Nat.reduceAdd, Nat.zero_add])
  have s1 : True := trivial
  refine tkF 0 ?_
  refine tkF 1 ?_
  refine tkF 2 ?_
  refine tkF 3 ?_
  refine tkF 5 ?_
  refine tkF 6 ?_
  refine tkF 7 ?_
  refine tkF 9 ?_
  refine tkF 10 ?_
  refine tkF 11 ?_
  refine anyK_all (rs := [4, 8, 12, 15]) (by kernel_rfl) (by simp) ?_
  intro i hi
  simp only [List.mem_cons, List.not_mem_nil, or_false] at hi
  rcases hi with rfl | rfl | rfl | rfl
  · refine opK_trip rfl (by rfl) (exec_makeSlice (ti := TI38) (e := 38) (n := n) (sz := 3) (z := z38) rfl rfl rfl (by kernel_rfl) (by kernel_rfl) (fun w => by kernel_rfl) (fun w => by kernel_rfl) hn1 (Nat.le_of_ble_eq_true (by kernel_rfl)) ?_)
    intro bR cR hbR sR
    refine ⟨trivial, ?_⟩
    refine hbR.pack (M := fun k1 => AnyK _ _ _ _ _ _ _ _ _ _ k1) _ ?_
    intro kR xR oR nR
    try simp only [Value.cells] at oR
    replace nR := xx.none nR
    replace xx := xx.trans xR
    walk_nrm
    refine anyK_all (rs := [8, 12, 15]) (by kernel_rfl) (by simp) ?_
    intro i hi
    simp only [List.mem_cons, List.not_mem_nil, or_false] at hi
    rcases hi with rfl | rfl | rfl
    · refine opK_trip rfl (by rfl) (exec_makeSlice (ti := TI75) (e := 75) (n := N) (sz := 1) (z := z75) rfl rfl rfl (by kernel_rfl) (by kernel_rfl) (fun w => by kernel_rfl) (fun w => by kernel_rfl) hN1 (Nat.le_of_ble_eq_true (by kernel_rfl)) ?_)
      intro bE cE hbE sE
      refine ⟨trivial, ?_⟩
      refine hbE.pack (M := fun k1 => AnyK _ _ _ _ _ _ _ _ _ _ k1) _ ?_
      intro kE xE oE nE
      try simp only [Value.cells] at oE
      replace nE := xx.none nE
      replace xx := xx.trans xE
      replace oR := xE.own _ _ oR
      walk_nrm
      refine anyK_all (rs := [12, 15]) (by kernel_rfl) (by simp) ?_
      intro i hi
      simp only [List.mem_cons, List.not_mem_nil, or_false] at hi
      rcases hi with rfl | rfl
      · refine opK_trip rfl (by rfl) (exec_makeSlice (ti := TI62) (e := 62) (n := N) (sz := 2) (z := z62) rfl rfl rfl (by kernel_rfl) (by kernel_rfl) (fun w => by kernel_rfl) (fun w => by kernel_rfl) hN1 (Nat.le_of_ble_eq_true (by kernel_rfl)) ?_)
        intro bV cV hbV sV
        refine ⟨trivial, ?_⟩
        refine hbV.pack (M := fun k1 => AnyK _ _ _ _ _ _ _ _ _ _ k1) _ ?_
        intro kV xV oV nV
        try simp only [Value.cells] at oV
        replace nV := xx.none nV
        replace xx := xx.trans xV
        replace oR := xV.own _ _ oR
        replace oE := xV.own _ _ oE
        walk_nrm
        refine tkF 13 ?_
        refine anyK_all (rs := [14, 15]) (by kernel_rfl) (by simp) ?_
        intro i hi
        simp only [List.mem_cons, List.not_mem_nil, or_false] at hi
        rcases hi with rfl | rfl
        · refine opK_trip rfl (by rfl) (exec_box (v := .agg #[.pointer (some ⟨B, 0, none⟩), .slice (some ⟨jb, joff, none⟩) n jc, .slice (some ⟨bR, 0, none⟩) n n, .slice (some ⟨bE, 0, none⟩) N N, .slice (some ⟨bV, 0, none⟩) N N]) rfl rfl ?_)
          intro br hbr
          refine ⟨trivial, ?_⟩
          refine hbr.pack (M := fun k1 => AnyK _ _ _ _ _ _ _ _ _ _ k1) _ ?_
          intro kr xr or nr
          try simp only [Value.cells] at or
          replace nr := xx.none nr
          replace xx := xx.trans xr
          replace oR := xr.own _ _ oR
          replace oE := xr.own _ _ oE
          replace oV := xr.own _ _ oV
          walk_nrm
          refine anyK_all (rs := [15]) (by kernel_rfl) (by simp) ?_
          intro i hi
          simp only [List.mem_cons, List.not_mem_nil, or_false] at hi
          subst hi
          refine opK_trip rfl (by rfl) (exec_alloc (z := .pointer none) rfl (fun w => by kernel_rfl) ?_)
          intro bv hbv
          refine ⟨trivial, ?_⟩
          refine hbv.pack (M := fun k1 => AnyK _ _ _ _ _ _ _ _ _ _ k1) _ ?_
          intro kv xv ov nv
          try simp only [Value.cells] at ov
          replace nv := xx.none nv
          replace xx := xx.trans xv
          replace oR := xv.own _ _ oR
          replace oE := xv.own _ _ oE
          replace oV := xv.own _ _ oV
          replace or := xv.own _ _ or
          walk_nrm
          refine anyK_trip 16 (by kernel_rfl) rfl (by rfl) (exec_storeL (c' := #[.pointer (some ⟨br, 0, none⟩)]) rfl rfl rfl rfl (fun w => by kernel_rfl) ov rfl rfl rfl ?_)
          refine ⟨trivial, ?_⟩
          (refine anyK_done (by kernel_rfl) ?_ _; simp only [thenK, blockK, if_true, if_false, reduceIte, Nat.reduceEqDiff])
          exact ⟨by trivial, madeRow xx oR oE oV or ov nR nE nV nr nv sR sE sV _ rfl rfl⟩
        · refine opK_trip rfl (by rfl) (exec_alloc (z := .pointer none) rfl (fun w => by kernel_rfl) ?_)
          intro bv hbv
          refine ⟨trivial, ?_⟩
          refine hbv.pack (M := fun k1 => AnyK _ _ _ _ _ _ _ _ _ _ k1) _ ?_
          intro kv xv ov nv
          try simp only [Value.cells] at ov
          replace nv := xx.none nv
          replace xx := xx.trans xv
          replace oR := xv.own _ _ oR
          replace oE := xv.own _ _ oE
          replace oV := xv.own _ _ oV
          walk_nrm
          refine anyK_all (rs := [14]) (by kernel_rfl) (by simp) ?_
          intro i hi
          simp only [List.mem_cons, List.not_mem_nil, or_false] at hi
          subst hi
          refine opK_trip rfl (by rfl) (exec_box (v := .agg #[.pointer (some ⟨B, 0, none⟩), .slice (some ⟨jb, joff, none⟩) n jc, .slice (some ⟨bR, 0, none⟩) n n, .slice (some ⟨bE, 0, none⟩) N N, .slice (some ⟨bV, 0, none⟩) N N]) rfl rfl ?_)
          intro br hbr
          refine ⟨trivial, ?_⟩
          refine hbr.pack (M := fun k1 => AnyK _ _ _ _ _ _ _ _ _ _ k1) _ ?_
          intro kr xr or nr
          try simp only [Value.cells] at or
          replace nr := xx.none nr
          replace xx := xx.trans xr
          replace oR := xr.own _ _ oR
          replace oE := xr.own _ _ oE
          replace oV := xr.own _ _ oV
          replace ov := xr.own _ _ ov
          walk_nrm
          refine anyK_trip 16 (by kernel_rfl) rfl (by rfl) (exec_storeL (c' := #[.pointer (some ⟨br, 0, none⟩)]) rfl rfl rfl rfl (fun w => by kernel_rfl) ov rfl rfl rfl ?_)
          refine ⟨trivial, ?_⟩
          (refine anyK_done (by kernel_rfl) ?_ _; simp only [thenK, blockK, if_true, if_false, reduceIte, Nat.reduceEqDiff])
          exact ⟨by trivial, madeRow xx oR oE oV or ov nR nE nV nr nv sR sE sV _ rfl rfl⟩
      · refine opK_trip rfl (by rfl) (exec_alloc (z := .pointer none) rfl (fun w => by kernel_rfl) ?_)
        intro bv hbv
        refine ⟨trivial, ?_⟩
        refine hbv.pack (M := fun k1 => AnyK _ _ _ _ _ _ _ _ _ _ k1) _ ?_
        intro kv xv ov nv
        try simp only [Value.cells] at ov
        replace nv := xx.none nv
        replace xx := xx.trans xv
        replace oR := xv.own _ _ oR
        replace oE := xv.own _ _ oE
        walk_nrm
        refine anyK_all (rs := [12]) (by kernel_rfl) (by simp) ?_
        intro i hi
        simp only [List.mem_cons, List.not_mem_nil, or_false] at hi
        subst hi
        refine opK_trip rfl (by rfl) (exec_makeSlice (ti := TI62) (e := 62) (n := N) (sz := 2) (z := z62) rfl rfl rfl (by kernel_rfl) (by kernel_rfl) (fun w => by kernel_rfl) (fun w => by kernel_rfl) hN1 (Nat.le_of_ble_eq_true (by kernel_rfl)) ?_)
        intro bV cV hbV sV
        refine ⟨trivial, ?_⟩
        refine hbV.pack (M := fun k1 => AnyK _ _ _ _ _ _ _ _ _ _ k1) _ ?_
        intro kV xV oV nV
        try simp only [Value.cells] at oV
        replace nV := xx.none nV
        replace xx := xx.trans xV
        replace oR := xV.own _ _ oR
        replace oE := xV.own _ _ oE
        replace ov := xV.own _ _ ov
        walk_nrm
        refine tkF 13 ?_
        refine anyK_all (rs := [14]) (by kernel_rfl) (by simp) ?_
        intro i hi
        simp only [List.mem_cons, List.not_mem_nil, or_false] at hi
        subst hi
        refine opK_trip rfl (by rfl) (exec_box (v := .agg #[.pointer (some ⟨B, 0, none⟩), .slice (some ⟨jb, joff, none⟩) n jc, .slice (some ⟨bR, 0, none⟩) n n, .slice (some ⟨bE, 0, none⟩) N N, .slice (some ⟨bV, 0, none⟩) N N]) rfl rfl ?_)
        intro br hbr
        refine ⟨trivial, ?_⟩
        refine hbr.pack (M := fun k1 => AnyK _ _ _ _ _ _ _ _ _ _ k1) _ ?_
        intro kr xr or nr
        try simp only [Value.cells] at or
        replace nr := xx.none nr
        replace xx := xx.trans xr
        replace oR := xr.own _ _ oR
        replace oE := xr.own _ _ oE
        replace ov := xr.own _ _ ov
        replace oV := xr.own _ _ oV
        walk_nrm
        refine anyK_trip 16 (by kernel_rfl) rfl (by rfl) (exec_storeL (c' := #[.pointer (some ⟨br, 0, none⟩)]) rfl rfl rfl rfl (fun w => by kernel_rfl) ov rfl rfl rfl ?_)
        refine ⟨trivial, ?_⟩
        (refine anyK_done (by kernel_rfl) ?_ _; simp only [thenK, blockK, if_true, if_false, reduceIte, Nat.reduceEqDiff])
        exact ⟨by trivial, madeRow xx oR oE oV or ov nR nE nV nr nv sR sE sV _ rfl rfl⟩
    · refine opK_trip rfl (by rfl) (exec_makeSlice (ti := TI62) (e := 62) (n := N) (sz := 2) (z := z62) rfl rfl rfl (by kernel_rfl) (by kernel_rfl) (fun w => by kernel_rfl) (fun w => by kernel_rfl) hN1 (Nat.le_of_ble_eq_true (by kernel_rfl)) ?_)
      intro bV cV hbV sV
      refine ⟨trivial, ?_⟩
      refine hbV.pack (M := fun k1 => AnyK _ _ _ _ _ _ _ _ _ _ k1) _ ?_
      intro kV xV oV nV
      try simp only [Value.cells] at oV
      replace nV := xx.none nV
      replace xx := xx.trans xV
      replace oR := xV.own _ _ oR
      walk_nrm
      refine anyK_all (rs := [8, 15]) (by kernel_rfl) (by simp) ?_
      intro i hi
      simp only [List.mem_cons, List.not_mem_nil, or_false] at hi
      rcases hi with rfl | rfl
      · refine opK_trip rfl (by rfl) (exec_makeSlice (ti := TI75) (e := 75) (n := N) (sz := 1) (z := z75) rfl rfl rfl (by kernel_rfl) (by kernel_rfl) (fun w => by kernel_rfl) (fun w => by kernel_rfl) hN1 (Nat.le_of_ble_eq_true (by kernel_rfl)) ?_)
        intro bE cE hbE sE
        refine ⟨trivial, ?_⟩
        refine hbE.pack (M := fun k1 => AnyK _ _ _ _ _ _ _ _ _ _ k1) _ ?_
        intro kE xE oE nE
        try simp only [Value.cells] at oE
        replace nE := xx.none nE
        replace xx := xx.trans xE
        replace oR := xE.own _ _ oR
        replace oV := xE.own _ _ oV
        walk_nrm
        refine tkF 13 ?_
        refine anyK_all (rs := [14, 15]) (by kernel_rfl) (by simp) ?_
        intro i hi
        simp only [List.mem_cons, List.not_mem_nil, or_false] at hi
        rcases hi with rfl | rfl
        · refine opK_trip rfl (by rfl) (exec_box (v := .agg #[.pointer (some ⟨B, 0, none⟩), .slice (some ⟨jb, joff, none⟩) n jc, .slice (some ⟨bR, 0, none⟩) n n, .slice (some ⟨bE, 0, none⟩) N N, .slice (some ⟨bV, 0, none⟩) N N]) rfl rfl ?_)
          intro br hbr
          refine ⟨trivial, ?_⟩
          refine hbr.pack (M := fun k1 => AnyK _ _ _ _ _ _ _ _ _ _ k1) _ ?_
          intro kr xr or nr
          try simp only [Value.cells] at or
          replace nr := xx.none nr
          replace xx := xx.trans xr
          replace oR := xr.own _ _ oR
          replace oV := xr.own _ _ oV
          replace oE := xr.own _ _ oE
          walk_nrm
          refine anyK_all (rs := [15]) (by kernel_rfl) (by simp) ?_
          intro i hi
          simp only [List.mem_cons, List.not_mem_nil, or_false] at hi
          subst hi
          refine opK_trip rfl (by rfl) (exec_alloc (z := .pointer none) rfl (fun w => by kernel_rfl) ?_)
          intro bv hbv
          refine ⟨trivial, ?_⟩
          refine hbv.pack (M := fun k1 => AnyK _ _ _ _ _ _ _ _ _ _ k1) _ ?_
          intro kv xv ov nv
          try simp only [Value.cells] at ov
          replace nv := xx.none nv
          replace xx := xx.trans xv
          replace oR := xv.own _ _ oR
          replace oV := xv.own _ _ oV
          replace oE := xv.own _ _ oE
          replace or := xv.own _ _ or
          walk_nrm
          refine anyK_trip 16 (by kernel_rfl) rfl (by rfl) (exec_storeL (c' := #[.pointer (some ⟨br, 0, none⟩)]) rfl rfl rfl rfl (fun w => by kernel_rfl) ov rfl rfl rfl ?_)
          refine ⟨trivial, ?_⟩
          (refine anyK_done (by kernel_rfl) ?_ _; simp only [thenK, blockK, if_true, if_false, reduceIte, Nat.reduceEqDiff])
          exact ⟨by trivial, madeRow xx oR oE oV or ov nR nE nV nr nv sR sE sV _ rfl rfl⟩
        · refine opK_trip rfl (by rfl) (exec_alloc (z := .pointer none) rfl (fun w => by kernel_rfl) ?_)
          intro bv hbv
          refine ⟨trivial, ?_⟩
          refine hbv.pack (M := fun k1 => AnyK _ _ _ _ _ _ _ _ _ _ k1) _ ?_
          intro kv xv ov nv
          try simp only [Value.cells] at ov
          replace nv := xx.none nv
          replace xx := xx.trans xv
          replace oR := xv.own _ _ oR
          replace oV := xv.own _ _ oV
          replace oE := xv.own _ _ oE
          walk_nrm
          refine anyK_all (rs := [14]) (by kernel_rfl) (by simp) ?_
          intro i hi
          simp only [List.mem_cons, List.not_mem_nil, or_false] at hi
          subst hi
          refine opK_trip rfl (by rfl) (exec_box (v := .agg #[.pointer (some ⟨B, 0, none⟩), .slice (some ⟨jb, joff, none⟩) n jc, .slice (some ⟨bR, 0, none⟩) n n, .slice (some ⟨bE, 0, none⟩) N N, .slice (some ⟨bV, 0, none⟩) N N]) rfl rfl ?_)
          intro br hbr
          refine ⟨trivial, ?_⟩
          refine hbr.pack (M := fun k1 => AnyK _ _ _ _ _ _ _ _ _ _ k1) _ ?_
          intro kr xr or nr
          try simp only [Value.cells] at or
          replace nr := xx.none nr
          replace xx := xx.trans xr
          replace oR := xr.own _ _ oR
          replace oV := xr.own _ _ oV
          replace oE := xr.own _ _ oE
          replace ov := xr.own _ _ ov
          walk_nrm
          refine anyK_trip 16 (by kernel_rfl) rfl (by rfl) (exec_storeL (c' := #[.pointer (some ⟨br, 0, none⟩)]) rfl rfl rfl rfl (fun w => by kernel_rfl) ov rfl rfl rfl ?_)
          refine ⟨trivial, ?_⟩
          (refine anyK_done (by kernel_rfl) ?_ _; simp only [thenK, blockK, if_true, if_false, reduceIte, Nat.reduceEqDiff])
          exact ⟨by trivial, madeRow xx oR oE oV or ov nR nE nV nr nv sR sE sV _ rfl rfl⟩
      · refine opK_trip rfl (by rfl) (exec_alloc (z := .pointer none) rfl (fun w => by kernel_rfl) ?_)
        intro bv hbv
        refine ⟨trivial, ?_⟩
        refine hbv.pack (M := fun k1 => AnyK _ _ _ _ _ _ _ _ _ _ k1) _ ?_
        intro kv xv ov nv
        try simp only [Value.cells] at ov
        replace nv := xx.none nv
        replace xx := xx.trans xv
        replace oR := xv.own _ _ oR
        replace oV := xv.own _ _ oV
        walk_nrm
        refine anyK_all (rs := [8]) (by kernel_rfl) (by simp) ?_
        intro i hi
        simp only [List.mem_cons, List.not_mem_nil, or_false] at hi
        subst hi
        refine opK_trip rfl (by rfl) (exec_makeSlice (ti := TI75) (e := 75) (n := N) (sz := 1) (z := z75) rfl rfl rfl (by kernel_rfl) (by kernel_rfl) (fun w => by kernel_rfl) (fun w => by kernel_rfl) hN1 (Nat.le_of_ble_eq_true (by kernel_rfl)) ?_)
        intro bE cE hbE sE
        refine ⟨trivial, ?_⟩
        refine hbE.pack (M := fun k1 => AnyK _ _ _ _ _ _ _ _ _ _ k1) _ ?_
        intro kE xE oE nE
        try simp only [Value.cells] at oE
        replace nE := xx.none nE
        replace xx := xx.trans xE
        replace oR := xE.own _ _ oR
        replace oV := xE.own _ _ oV
        replace ov := xE.own _ _ ov
        walk_nrm
        refine tkF 13 ?_
        refine anyK_all (rs := [14]) (by kernel_rfl) (by simp) ?_
        intro i hi
        simp only [List.mem_cons, List.not_mem_nil, or_false] at hi
        subst hi
        refine opK_trip rfl (by rfl) (exec_box (v := .agg #[.pointer (some ⟨B, 0, none⟩), .slice (some ⟨jb, joff, none⟩) n jc, .slice (some ⟨bR, 0, none⟩) n n, .slice (some ⟨bE, 0, none⟩) N N, .slice (some ⟨bV, 0, none⟩) N N]) rfl rfl ?_)
        intro br hbr
        refine ⟨trivial, ?_⟩
        refine hbr.pack (M := fun k1 => AnyK _ _ _ _ _ _ _ _ _ _ k1) _ ?_
        intro kr xr or nr
        try simp only [Value.cells] at or
        replace nr := xx.none nr
        replace xx := xx.trans xr
        replace oR := xr.own _ _ oR
        replace oV := xr.own _ _ oV
        replace ov := xr.own _ _ ov
        replace oE := xr.own _ _ oE
        walk_nrm
        refine anyK_trip 16 (by kernel_rfl) rfl (by rfl) (exec_storeL (c' := #[.pointer (some ⟨br, 0, none⟩)]) rfl rfl rfl rfl (fun w => by kernel_rfl) ov rfl rfl rfl ?_)
        refine ⟨trivial, ?_⟩
        (refine anyK_done (by kernel_rfl) ?_ _; simp only [thenK, blockK, if_true, if_false, reduceIte, Nat.reduceEqDiff])
        exact ⟨by trivial, madeRow xx oR oE oV or ov nR nE nV nr nv sR sE sV _ rfl rfl⟩
    · refine opK_trip rfl (by rfl) (exec_alloc (z := .pointer none) rfl (fun w => by kernel_rfl) ?_)
      intro bv hbv
      refine ⟨trivial, ?_⟩
      refine hbv.pack (M := fun k1 => AnyK _ _ _ _ _ _ _ _ _ _ k1) _ ?_
      intro kv xv ov nv
      try simp only [Value.cells] at ov
      replace nv := xx.none nv
      replace xx := xx.trans xv
      replace oR := xv.own _ _ oR
      walk_nrm
      refine anyK_all (rs := [8, 12]) (by kernel_rfl) (by simp) ?_
      intro i hi
      simp only [List.mem_cons, List.not_mem_nil, or_false] at hi
      rcases hi with rfl | rfl
      · refine opK_trip rfl (by rfl) (exec_makeSlice (ti := TI75) (e := 75) (n := N) (sz := 1) (z := z75) rfl rfl rfl (by kernel_rfl) (by kernel_rfl) (fun w => by kernel_rfl) (fun w => by kernel_rfl) hN1 (Nat.le_of_ble_eq_true (by kernel_rfl)) ?_)
        intro bE cE hbE sE
        refine ⟨trivial, ?_⟩
        refine hbE.pack (M := fun k1 => AnyK _ _ _ _ _ _ _ _ _ _ k1) _ ?_
        intro kE xE oE nE
        try simp only [Value.cells] at oE
        replace nE := xx.none nE
        replace xx := xx.trans xE
        replace oR := xE.own _ _ oR
        replace ov := xE.own _ _ ov
        walk_nrm
        refine anyK_all (rs := [12]) (by kernel_rfl) (by simp) ?_
        intro i hi
        simp only [List.mem_cons, List.not_mem_nil, or_false] at hi
        subst hi
        refine opK_trip rfl (by rfl) (exec_makeSlice (ti := TI62) (e := 62) (n := N) (sz := 2) (z := z62) rfl rfl rfl (by kernel_rfl) (by kernel_rfl) (fun w => by kernel_rfl) (fun w => by kernel_rfl) hN1 (Nat.le_of_ble_eq_true (by kernel_rfl)) ?_)
        intro bV cV hbV sV
        refine ⟨trivial, ?_⟩
        refine hbV.pack (M := fun k1 => AnyK _ _ _ _ _ _ _ _ _ _ k1) _ ?_
        intro kV xV oV nV
        try simp only [Value.cells] at oV
        replace nV := xx.none nV
        replace xx := xx.trans xV
        replace oR := xV.own _ _ oR
        replace ov := xV.own _ _ ov
        replace oE := xV.own _ _ oE
        walk_nrm
        refine tkF 13 ?_
        refine anyK_all (rs := [14]) (by kernel_rfl) (by simp) ?_
        intro i hi
        simp only [List.mem_cons, List.not_mem_nil, or_false] at hi
        subst hi
        refine opK_trip rfl (by rfl) (exec_box (v := .agg #[.pointer (some ⟨B, 0, none⟩), .slice (some ⟨jb, joff, none⟩) n jc, .slice (some ⟨bR, 0, none⟩) n n, .slice (some ⟨bE, 0, none⟩) N N, .slice (some ⟨bV, 0, none⟩) N N]) rfl rfl ?_)
        intro br hbr
        refine ⟨trivial, ?_⟩
        refine hbr.pack (M := fun k1 => AnyK _ _ _ _ _ _ _ _ _ _ k1) _ ?_
        intro kr xr or nr
        try simp only [Value.cells] at or
        replace nr := xx.none nr
        replace xx := xx.trans xr
        replace oR := xr.own _ _ oR
        replace ov := xr.own _ _ ov
        replace oE := xr.own _ _ oE
        replace oV := xr.own _ _ oV
        walk_nrm
        refine anyK_trip 16 (by kernel_rfl) rfl (by rfl) (exec_storeL (c' := #[.pointer (some ⟨br, 0, none⟩)]) rfl rfl rfl rfl (fun w => by kernel_rfl) ov rfl rfl rfl ?_)
        refine ⟨trivial, ?_⟩
        (refine anyK_done (by kernel_rfl) ?_ _; simp only [thenK, blockK, if_true, if_false, reduceIte, Nat.reduceEqDiff])
        exact ⟨by trivial, madeRow xx oR oE oV or ov nR nE nV nr nv sR sE sV _ rfl rfl⟩
      · refine opK_trip rfl (by rfl) (exec_makeSlice (ti := TI62) (e := 62) (n := N) (sz := 2) (z := z62) rfl rfl rfl (by kernel_rfl) (by kernel_rfl) (fun w => by kernel_rfl) (fun w => by kernel_rfl) hN1 (Nat.le_of_ble_eq_true (by kernel_rfl)) ?_)
        intro bV cV hbV sV
        refine ⟨trivial, ?_⟩
        refine hbV.pack (M := fun k1 => AnyK _ _ _ _ _ _ _ _ _ _ k1) _ ?_
        intro kV xV oV nV
        try simp only [Value.cells] at oV
        replace nV := xx.none nV
        replace xx := xx.trans xV
        replace oR := xV.own _ _ oR
        replace ov := xV.own _ _ ov
        walk_nrm
        refine anyK_all (rs := [8]) (by kernel_rfl) (by simp) ?_
        intro i hi
        simp only [List.mem_cons, List.not_mem_nil, or_false] at hi
        subst hi
        refine opK_trip rfl (by rfl) (exec_makeSlice (ti := TI75) (e := 75) (n := N) (sz := 1) (z := z75) rfl rfl rfl (by kernel_rfl) (by kernel_rfl) (fun w => by kernel_rfl) (fun w => by kernel_rfl) hN1 (Nat.le_of_ble_eq_true (by kernel_rfl)) ?_)
        intro bE cE hbE sE
        refine ⟨trivial, ?_⟩
        refine hbE.pack (M := fun k1 => AnyK _ _ _ _ _ _ _ _ _ _ k1) _ ?_
        intro kE xE oE nE
        try simp only [Value.cells] at oE
        replace nE := xx.none nE
        replace xx := xx.trans xE
        replace oR := xE.own _ _ oR
        replace ov := xE.own _ _ ov
        replace oV := xE.own _ _ oV
        walk_nrm
        refine tkF 13 ?_
        refine anyK_all (rs := [14]) (by kernel_rfl) (by simp) ?_
        intro i hi
        simp only [List.mem_cons, List.not_mem_nil, or_false] at hi
        subst hi
        refine opK_trip rfl (by rfl) (exec_box (v := .agg #[.pointer (some ⟨B, 0, none⟩), .slice (some ⟨jb, joff, none⟩) n jc, .slice (some ⟨bR, 0, none⟩) n n, .slice (some ⟨bE, 0, none⟩) N N, .slice (some ⟨bV, 0, none⟩) N N]) rfl rfl ?_)
        intro br hbr
        refine ⟨trivial, ?_⟩
        refine hbr.pack (M := fun k1 => AnyK _ _ _ _ _ _ _ _ _ _ k1) _ ?_
        intro kr xr or nr
        try simp only [Value.cells] at or
        replace nr := xx.none nr
        replace xx := xx.trans xr
        replace oR := xr.own _ _ oR
        replace ov := xr.own _ _ ov
        replace oV := xr.own _ _ oV
        replace oE := xr.own _ _ oE
        walk_nrm
        refine anyK_trip 16 (by kernel_rfl) rfl (by rfl) (exec_storeL (c' := #[.pointer (some ⟨br, 0, none⟩)]) rfl rfl rfl rfl (fun w => by kernel_rfl) ov rfl rfl rfl ?_)
        refine ⟨trivial, ?_⟩
        (refine anyK_done (by kernel_rfl) ?_ _; simp only [thenK, blockK, if_true, if_false, reduceIte, Nat.reduceEqDiff])
        exact ⟨by trivial, madeRow xx oR oE oV or ov nR nE nV nr nv sR sE sV _ rfl rfl⟩
  · refine opK_trip rfl (by rfl) (exec_makeSlice (ti := TI75) (e := 75) (n := N) (sz := 1) (z := z75) rfl rfl rfl (by kernel_rfl) (by kernel_rfl) (fun w => by kernel_rfl) (fun w => by kernel_rfl) hN1 (Nat.le_of_ble_eq_true (by kernel_rfl)) ?_)
    intro bE cE hbE sE
    refine ⟨trivial, ?_⟩
    refine hbE.pack (M := fun k1 => AnyK _ _ _ _ _ _ _ _ _ _ k1) _ ?_
    intro kE xE oE nE
    try simp only [Value.cells] at oE
    replace nE := xx.none nE
    replace xx := xx.trans xE
    walk_nrm
    refine anyK_all (rs := [4, 12, 15]) (by kernel_rfl) (by simp) ?_
    intro i hi
    simp only [List.mem_cons, List.not_mem_nil, or_false] at hi
    rcases hi with rfl | rfl | rfl
    · refine opK_trip rfl (by rfl) (exec_makeSlice (ti := TI38) (e := 38) (n := n) (sz := 3) (z := z38) rfl rfl rfl (by kernel_rfl) (by kernel_rfl) (fun w => by kernel_rfl) (fun w => by kernel_rfl) hn1 (Nat.le_of_ble_eq_true (by kernel_rfl)) ?_)
      intro bR cR hbR sR
      refine ⟨trivial, ?_⟩
      refine hbR.pack (M := fun k1 => AnyK _ _ _ _ _ _ _ _ _ _ k1) _ ?_
      intro kR xR oR nR
      try simp only [Value.cells] at oR
      replace nR := xx.none nR
      replace xx := xx.trans xR
      replace oE := xR.own _ _ oE
      walk_nrm
      refine anyK_all (rs := [12, 15]) (by kernel_rfl) (by simp) ?_
      intro i hi
      simp only [List.mem_cons, List.not_mem_nil, or_false] at hi
      rcases hi with rfl | rfl
      · refine opK_trip rfl (by rfl) (exec_makeSlice (ti := TI62) (e := 62) (n := N) (sz := 2) (z := z62) rfl rfl rfl (by kernel_rfl) (by kernel_rfl) (fun w => by kernel_rfl) (fun w => by kernel_rfl) hN1 (Nat.le_of_ble_eq_true (by kernel_rfl)) ?_)
        intro bV cV hbV sV
        refine ⟨trivial, ?_⟩
        refine hbV.pack (M := fun k1 => AnyK _ _ _ _ _ _ _ _ _ _ k1) _ ?_
        intro kV xV oV nV
        try simp only [Value.cells] at oV
        replace nV := xx.none nV
        replace xx := xx.trans xV
        replace oE := xV.own _ _ oE
        replace oR := xV.own _ _ oR
        walk_nrm
        refine tkF 13 ?_
        refine anyK_all (rs := [14, 15]) (by kernel_rfl) (by simp) ?_
        intro i hi
        simp only [List.mem_cons, List.not_mem_nil, or_false] at hi
        rcases hi with rfl | rfl
        · refine opK_trip rfl (by rfl) (exec_box (v := .agg #[.pointer (some ⟨B, 0, none⟩), .slice (some ⟨jb, joff, none⟩) n jc, .slice (some ⟨bR, 0, none⟩) n n, .slice (some ⟨bE, 0, none⟩) N N, .slice (some ⟨bV, 0, none⟩) N N]) rfl rfl ?_)
          intro br hbr
          refine ⟨trivial, ?_⟩
          refine hbr.pack (M := fun k1 => AnyK _ _ _ _ _ _ _ _ _ _ k1) _ ?_
          intro kr xr or nr
          try simp only [Value.cells] at or
          replace nr := xx.none nr
          replace xx := xx.trans xr
          replace oE := xr.own _ _ oE
          replace oR := xr.own _ _ oR
          replace oV := xr.own _ _ oV
          walk_nrm
          refine anyK_all (rs := [15]) (by kernel_rfl) (by simp) ?_
          intro i hi
          simp only [List.mem_cons, List.not_mem_nil, or_false] at hi
          subst hi
          refine opK_trip rfl (by rfl) (exec_alloc (z := .pointer none) rfl (fun w => by kernel_rfl) ?_)
          intro bv hbv
          refine ⟨trivial, ?_⟩
          refine hbv.pack (M := fun k1 => AnyK _ _ _ _ _ _ _ _ _ _ k1) _ ?_
          intro kv xv ov nv
          try simp only [Value.cells] at ov
          replace nv := xx.none nv
          replace xx := xx.trans xv
          replace oE := xv.own _ _ oE
          replace oR := xv.own _ _ oR
          replace oV := xv.own _ _ oV
          replace or := xv.own _ _ or
          walk_nrm
          refine anyK_trip 16 (by kernel_rfl) rfl (by rfl) (exec_storeL (c' := #[.pointer (some ⟨br, 0, none⟩)]) rfl rfl rfl rfl (fun w => by kernel_rfl) ov rfl rfl rfl ?_)
          refine ⟨trivial, ?_⟩
          (refine anyK_done (by kernel_rfl) ?_ _; simp only [thenK, blockK, if_true, if_false, reduceIte, Nat.reduceEqDiff])
          exact ⟨by trivial, madeRow xx oR oE oV or ov nR nE nV nr nv sR sE sV _ rfl rfl⟩
        · refine opK_trip rfl (by rfl) (exec_alloc (z := .pointer none) rfl (fun w => by kernel_rfl) ?_)
          intro bv hbv
          refine ⟨trivial, ?_⟩
          refine hbv.pack (M := fun k1 => AnyK _ _ _ _ _ _ _ _ _ _ k1) _ ?_
          intro kv xv ov nv
          try simp only [Value.cells] at ov
          replace nv := xx.none nv
          replace xx := xx.trans xv
          replace oE := xv.own _ _ oE
          replace oR := xv.own _ _ oR
          replace oV := xv.own _ _ oV
          walk_nrm
          refine anyK_all (rs := [14]) (by kernel_rfl) (by simp) ?_
          intro i hi
          simp only [List.mem_cons, List.not_mem_nil, or_false] at hi
          subst hi
          refine opK_trip rfl (by rfl) (exec_box (v := .agg #[.pointer (some ⟨B, 0, none⟩), .slice (some ⟨jb, joff, none⟩) n jc, .slice (some ⟨bR, 0, none⟩) n n, .slice (some ⟨bE, 0, none⟩) N N, .slice (some ⟨bV, 0, none⟩) N N]) rfl rfl ?_)
          intro br hbr
          refine ⟨trivial, ?_⟩
          refine hbr.pack (M := fun k1 => AnyK _ _ _ _ _ _ _ _ _ _ k1) _ ?_
          intro kr xr or nr
          try simp only [Value.cells] at or
          replace nr := xx.none nr
          replace xx := xx.trans xr
          replace oE := xr.own _ _ oE
          replace oR := xr.own _ _ oR
          replace oV := xr.own _ _ oV
          replace ov := xr.own _ _ ov
          walk_nrm
          refine anyK_trip 16 (by kernel_rfl) rfl (by rfl) (exec_storeL (c' := #[.pointer (some ⟨br, 0, none⟩)]) rfl rfl rfl rfl (fun w => by kernel_rfl) ov rfl rfl rfl ?_)
          refine ⟨trivial, ?_⟩
          (refine anyK_done (by kernel_rfl) ?_ _; simp only [thenK, blockK, if_true, if_false, reduceIte, Nat.reduceEqDiff])
          exact ⟨by trivial, madeRow xx oR oE oV or ov nR nE nV nr nv sR sE sV _ rfl rfl⟩
      · refine opK_trip rfl (by rfl) (exec_alloc (z := .pointer none) rfl (fun w => by kernel_rfl) ?_)
        intro bv hbv
        refine ⟨trivial, ?_⟩
        refine hbv.pack (M := fun k1 => AnyK _ _ _ _ _ _ _ _ _ _ k1) _ ?_
        intro kv xv ov nv
        try simp only [Value.cells] at ov
        replace nv := xx.none nv
        replace xx := xx.trans xv
        replace oE := xv.own _ _ oE
        replace oR := xv.own _ _ oR
        walk_nrm
        refine anyK_all (rs := [12]) (by kernel_rfl) (by simp) ?_
        intro i hi
        simp only [List.mem_cons, List.not_mem_nil, or_false] at hi
        subst hi
        refine opK_trip rfl (by rfl) (exec_makeSlice (ti := TI62) (e := 62) (n := N) (sz := 2) (z := z62) rfl rfl rfl (by kernel_rfl) (by kernel_rfl) (fun w => by kernel_rfl) (fun w => by kernel_rfl) hN1 (Nat.le_of_ble_eq_true (by kernel_rfl)) ?_)
        intro bV cV hbV sV
        refine ⟨trivial, ?_⟩
        refine hbV.pack (M := fun k1 => AnyK _ _ _ _ _ _ _ _ _ _ k1) _ ?_
        intro kV xV oV nV
        try simp only [Value.cells] at oV
        replace nV := xx.none nV
        replace xx := xx.trans xV
        replace oE := xV.own _ _ oE
        replace oR := xV.own _ _ oR
        replace ov := xV.own _ _ ov
        walk_nrm
        refine tkF 13 ?_
        refine anyK_all (rs := [14]) (by kernel_rfl) (by simp) ?_
        intro i hi
        simp only [List.mem_cons, List.not_mem_nil, or_false] at hi
        subst hi
        refine opK_trip rfl (by rfl) (exec_box (v := .agg #[.pointer (some ⟨B, 0, none⟩), .slice (some ⟨jb, joff, none⟩) n jc, .slice (some ⟨bR, 0, none⟩) n n, .slice (some ⟨bE, 0, none⟩) N N, .slice (some ⟨bV, 0, none⟩) N N]) rfl rfl ?_)
        intro br hbr
        refine ⟨trivial, ?_⟩
        refine hbr.pack (M := fun k1 => AnyK _ _ _ _ _ _ _ _ _ _ k1) _ ?_
        intro kr xr or nr
        try simp only [Value.cells] at or
        replace nr := xx.none nr
        replace xx := xx.trans xr
        replace oE := xr.own _ _ oE
        replace oR := xr.own _ _ oR
        replace ov := xr.own _ _ ov
        replace oV := xr.own _ _ oV
        walk_nrm
        refine anyK_trip 16 (by kernel_rfl) rfl (by rfl) (exec_storeL (c' := #[.pointer (some ⟨br, 0, none⟩)]) rfl rfl rfl rfl (fun w => by kernel_rfl) ov rfl rfl rfl ?_)
        refine ⟨trivial, ?_⟩
        (refine anyK_done (by kernel_rfl) ?_ _; simp only [thenK, blockK, if_true, if_false, reduceIte, Nat.reduceEqDiff])
        exact ⟨by trivial, madeRow xx oR oE oV or ov nR nE nV nr nv sR sE sV _ rfl rfl⟩
    · refine opK_trip rfl (by rfl) (exec_makeSlice (ti := TI62) (e := 62) (n := N) (sz := 2) (z := z62) rfl rfl rfl (by kernel_rfl) (by kernel_rfl) (fun w => by kernel_rfl) (fun w => by kernel_rfl) hN1 (Nat.le_of_ble_eq_true (by kernel_rfl)) ?_)
      intro bV cV hbV sV
      refine ⟨trivial, ?_⟩
      refine hbV.pack (M := fun k1 => AnyK _ _ _ _ _ _ _ _ _ _ k1) _ ?_
      intro kV xV oV nV
      try simp only [Value.cells] at oV
      replace nV := xx.none nV
      replace xx := xx.trans xV
      replace oE := xV.own _ _ oE
      walk_nrm
      refine anyK_all (rs := [4, 15]) (by kernel_rfl) (by simp) ?_
      intro i hi
      simp only [List.mem_cons, List.not_mem_nil, or_false] at hi
      rcases hi with rfl | rfl
      · refine opK_trip rfl (by rfl) (exec_makeSlice (ti := TI38) (e := 38) (n := n) (sz := 3) (z := z38) rfl rfl rfl (by kernel_rfl) (by kernel_rfl) (fun w => by kernel_rfl) (fun w => by kernel_rfl) hn1 (Nat.le_of_ble_eq_true (by kernel_rfl)) ?_)
        intro bR cR hbR sR
        refine ⟨trivial, ?_⟩
        refine hbR.pack (M := fun k1 => AnyK _ _ _ _ _ _ _ _ _ _ k1) _ ?_
        intro kR xR oR nR
        try simp only [Value.cells] at oR
        replace nR := xx.none nR
        replace xx := xx.trans xR
        replace oE := xR.own _ _ oE
        replace oV := xR.own _ _ oV
        walk_nrm
        refine tkF 13 ?_
        refine anyK_all (rs := [14, 15]) (by kernel_rfl) (by simp) ?_
        intro i hi
        simp only [List.mem_cons, List.not_mem_nil, or_false] at hi
        rcases hi with rfl | rfl
        · refine opK_trip rfl (by rfl) (exec_box (v := .agg #[.pointer (some ⟨B, 0, none⟩), .slice (some ⟨jb, joff, none⟩) n jc, .slice (some ⟨bR, 0, none⟩) n n, .slice (some ⟨bE, 0, none⟩) N N, .slice (some ⟨bV, 0, none⟩) N N]) rfl rfl ?_)
          intro br hbr
          refine ⟨trivial, ?_⟩
          refine hbr.pack (M := fun k1 => AnyK _ _ _ _ _ _ _ _ _ _ k1) _ ?_
          intro kr xr or nr
          try simp only [Value.cells] at or
          replace nr := xx.none nr
          replace xx := xx.trans xr
          replace oE := xr.own _ _ oE
          replace oV := xr.own _ _ oV
          replace oR := xr.own _ _ oR
          walk_nrm
          refine anyK_all (rs := [15]) (by kernel_rfl) (by simp) ?_
          intro i hi
          simp only [List.mem_cons, List.not_mem_nil, or_false] at hi
          subst hi
          refine opK_trip rfl (by rfl) (exec_alloc (z := .pointer none) rfl (fun w => by kernel_rfl) ?_)
          intro bv hbv
          refine ⟨trivial, ?_⟩
          refine hbv.pack (M := fun k1 => AnyK _ _ _ _ _ _ _ _ _ _ k1) _ ?_
          intro kv xv ov nv
          try simp only [Value.cells] at ov
          replace nv := xx.none nv
          replace xx := xx.trans xv
          replace oE := xv.own _ _ oE
          replace oV := xv.own _ _ oV
          replace oR := xv.own _ _ oR
          replace or := xv.own _ _ or
          walk_nrm
          refine anyK_trip 16 (by kernel_rfl) rfl (by rfl) (exec_storeL (c' := #[.pointer (some ⟨br, 0, none⟩)]) rfl rfl rfl rfl (fun w => by kernel_rfl) ov rfl rfl rfl ?_)
          refine ⟨trivial, ?_⟩
          (refine anyK_done (by kernel_rfl) ?_ _; simp only [thenK, blockK, if_true, if_false, reduceIte, Nat.reduceEqDiff])
          exact ⟨by trivial, madeRow xx oR oE oV or ov nR nE nV nr nv sR sE sV _ rfl rfl⟩
        · refine opK_trip rfl (by rfl) (exec_alloc (z := .pointer none) rfl (fun w => by kernel_rfl) ?_)
          intro bv hbv
          refine ⟨trivial, ?_⟩
          refine hbv.pack (M := fun k1 => AnyK _ _ _ _ _ _ _ _ _ _ k1) _ ?_
          intro kv xv ov nv
          try simp only [Value.cells] at ov
          replace nv := xx.none nv
          replace xx := xx.trans xv
          replace oE := xv.own _ _ oE
          replace oV := xv.own _ _ oV
          replace oR := xv.own _ _ oR
          walk_nrm
          refine anyK_all (rs := [14]) (by kernel_rfl) (by simp) ?_
          intro i hi
          simp only [List.mem_cons, List.not_mem_nil, or_false] at hi
          subst hi
          refine opK_trip rfl (by rfl) (exec_box (v := .agg #[.pointer (some ⟨B, 0, none⟩), .slice (some ⟨jb, joff, none⟩) n jc, .slice (some ⟨bR, 0, none⟩) n n, .slice (some ⟨bE, 0, none⟩) N N, .slice (some ⟨bV, 0, none⟩) N N]) rfl rfl ?_)
          intro br hbr
          refine ⟨trivial, ?_⟩
          refine hbr.pack (M := fun k1 => AnyK _ _ _ _ _ _ _ _ _ _ k1) _ ?_
          intro kr xr or nr
          try simp only [Value.cells] at or
          replace nr := xx.none nr
          replace xx := xx.trans xr
          replace oE := xr.own _ _ oE
          replace oV := xr.own _ _ oV
          replace oR := xr.own _ _ oR
          replace ov := xr.own _ _ ov
          walk_nrm
          refine anyK_trip 16 (by kernel_rfl) rfl (by rfl) (exec_storeL (c' := #[.pointer (some ⟨br, 0, none⟩)]) rfl rfl rfl rfl (fun w => by kernel_rfl) ov rfl rfl rfl ?_)
          refine ⟨trivial, ?_⟩
          (refine anyK_done (by kernel_rfl) ?_ _; simp only [thenK, blockK, if_true, if_false, reduceIte, Nat.reduceEqDiff])
          exact ⟨by trivial, madeRow xx oR oE oV or ov nR nE nV nr nv sR sE sV _ rfl rfl⟩
      · refine opK_trip rfl (by rfl) (exec_alloc (z := .pointer none) rfl (fun w => by kernel_rfl) ?_)
        intro bv hbv
        refine ⟨trivial, ?_⟩
        refine hbv.pack (M := fun k1 => AnyK _ _ _ _ _ _ _ _ _ _ k1) _ ?_
        intro kv xv ov nv
        try simp only [Value.cells] at ov
        replace nv := xx.none nv
        replace xx := xx.trans xv
        replace oE := xv.own _ _ oE
        replace oV := xv.own _ _ oV
        walk_nrm
        refine anyK_all (rs := [4]) (by kernel_rfl) (by simp) ?_
        intro i hi
        simp only [List.mem_cons, List.not_mem_nil, or_false] at hi
        subst hi
        refine opK_trip rfl (by rfl) (exec_makeSlice (ti := TI38) (e := 38) (n := n) (sz := 3) (z := z38) rfl rfl rfl (by kernel_rfl) (by kernel_rfl) (fun w => by kernel_rfl) (fun w => by kernel_rfl) hn1 (Nat.le_of_ble_eq_true (by kernel_rfl)) ?_)
        intro bR cR hbR sR
        refine ⟨trivial, ?_⟩
        refine hbR.pack (M := fun k1 => AnyK _ _ _ _ _ _ _ _ _ _ k1) _ ?_
        intro kR xR oR nR
        try simp only [Value.cells] at oR
        replace nR := xx.none nR
        replace xx := xx.trans xR
        replace oE := xR.own _ _ oE
        replace oV := xR.own _ _ oV
        replace ov := xR.own _ _ ov
        walk_nrm
        refine tkF 13 ?_
        refine anyK_all (rs := [14]) (by kernel_rfl) (by simp) ?_
        intro i hi
        simp only [List.mem_cons, List.not_mem_nil, or_false] at hi
        subst hi
        refine opK_trip rfl (by rfl) (exec_box (v := .agg #[.pointer (some ⟨B, 0, none⟩), .slice (some ⟨jb, joff, none⟩) n jc, .slice (some ⟨bR, 0, none⟩) n n, .slice (some ⟨bE, 0, none⟩) N N, .slice (some ⟨bV, 0, none⟩) N N]) rfl rfl ?_)
        intro br hbr
        refine ⟨trivial, ?_⟩
        refine hbr.pack (M := fun k1 => AnyK _ _ _ _ _ _ _ _ _ _ k1) _ ?_
        intro kr xr or nr
        try simp only [Value.cells] at or
        replace nr := xx.none nr
        replace xx := xx.trans xr
        replace oE := xr.own _ _ oE
        replace oV := xr.own _ _ oV
        replace ov := xr.own _ _ ov
        replace oR := xr.own _ _ oR
        walk_nrm
        refine anyK_trip 16 (by kernel_rfl) rfl (by rfl) (exec_storeL (c' := #[.pointer (some ⟨br, 0, none⟩)]) rfl rfl rfl rfl (fun w => by kernel_rfl) ov rfl rfl rfl ?_)
        refine ⟨trivial, ?_⟩
        (refine anyK_done (by kernel_rfl) ?_ _; simp only [thenK, blockK, if_true, if_false, reduceIte, Nat.reduceEqDiff])
        exact ⟨by trivial, madeRow xx oR oE oV or ov nR nE nV nr nv sR sE sV _ rfl rfl⟩
    · refine opK_trip rfl (by rfl) (exec_alloc (z := .pointer none) rfl (fun w => by kernel_rfl) ?_)
      intro bv hbv
      refine ⟨trivial, ?_⟩
      refine hbv.pack (M := fun k1 => AnyK _ _ _ _ _ _ _ _ _ _ k1) _ ?_
      intro kv xv ov nv
      try simp only [Value.cells] at ov
      replace nv := xx.none nv
      replace xx := xx.trans xv
      replace oE := xv.own _ _ oE
      walk_nrm
      refine anyK_all (rs := [4, 12]) (by kernel_rfl) (by simp) ?_
      intro i hi
      simp only [List.mem_cons, List.not_mem_nil, or_false] at hi
      rcases hi with rfl | rfl
      · refine opK_trip rfl (by rfl) (exec_makeSlice (ti := TI38) (e := 38) (n := n) (sz := 3) (z := z38) rfl rfl rfl (by kernel_rfl) (by kernel_rfl) (fun w => by kernel_rfl) (fun w => by kernel_rfl) hn1 (Nat.le_of_ble_eq_true (by kernel_rfl)) ?_)
        intro bR cR hbR sR
        refine ⟨trivial, ?_⟩
        refine hbR.pack (M := fun k1 => AnyK _ _ _ _ _ _ _ _ _ _ k1) _ ?_
        intro kR xR oR nR
        try simp only [Value.cells] at oR
        replace nR := xx.none nR
        replace xx := xx.trans xR
        replace oE := xR.own _ _ oE
        replace ov := xR.own _ _ ov
        walk_nrm
        refine anyK_all (rs := [12]) (by kernel_rfl) (by simp) ?_
        intro i hi
        simp only [List.mem_cons, List.not_mem_nil, or_false] at hi
        subst hi
        refine opK_trip rfl (by rfl) (exec_makeSlice (ti := TI62) (e := 62) (n := N) (sz := 2) (z := z62) rfl rfl rfl (by kernel_rfl) (by kernel_rfl) (fun w => by kernel_rfl) (fun w => by kernel_rfl) hN1 (Nat.le_of_ble_eq_true (by kernel_rfl)) ?_)
        intro bV cV hbV sV
        refine ⟨trivial, ?_⟩
        refine hbV.pack (M := fun k1 => AnyK _ _ _ _ _ _ _ _ _ _ k1) _ ?_
        intro kV xV oV nV
        try simp only [Value.cells] at oV
        replace nV := xx.none nV
        replace xx := xx.trans xV
        replace oE := xV.own _ _ oE
        replace ov := xV.own _ _ ov
        replace oR := xV.own _ _ oR
        walk_nrm
        refine tkF 13 ?_
        refine anyK_all (rs := [14]) (by kernel_rfl) (by simp) ?_
        intro i hi
        simp only [List.mem_cons, List.not_mem_nil, or_false] at hi
        subst hi
        refine opK_trip rfl (by rfl) (exec_box (v := .agg #[.pointer (some ⟨B, 0, none⟩), .slice (some ⟨jb, joff, none⟩) n jc, .slice (some ⟨bR, 0, none⟩) n n, .slice (some ⟨bE, 0, none⟩) N N, .slice (some ⟨bV, 0, none⟩) N N]) rfl rfl ?_)
        intro br hbr
        refine ⟨trivial, ?_⟩
        refine hbr.pack (M := fun k1 => AnyK _ _ _ _ _ _ _ _ _ _ k1) _ ?_
        intro kr xr or nr
        try simp only [Value.cells] at or
        replace nr := xx.none nr
        replace xx := xx.trans xr
        replace oE := xr.own _ _ oE
        replace ov := xr.own _ _ ov
        replace oR := xr.own _ _ oR
        replace oV := xr.own _ _ oV
        walk_nrm
        refine anyK_trip 16 (by kernel_rfl) rfl (by rfl) (exec_storeL (c' := #[.pointer (some ⟨br, 0, none⟩)]) rfl rfl rfl rfl (fun w => by kernel_rfl) ov rfl rfl rfl ?_)
        refine ⟨trivial, ?_⟩
        (refine anyK_done (by kernel_rfl) ?_ _; simp only [thenK, blockK, if_true, if_false, reduceIte, Nat.reduceEqDiff])
        exact ⟨by trivial, madeRow xx oR oE oV or ov nR nE nV nr nv sR sE sV _ rfl rfl⟩
      · refine opK_trip rfl (by rfl) (exec_makeSlice (ti := TI62) (e := 62) (n := N) (sz := 2) (z := z62) rfl rfl rfl (by kernel_rfl) (by kernel_rfl) (fun w => by kernel_rfl) (fun w => by kernel_rfl) hN1 (Nat.le_of_ble_eq_true (by kernel_rfl)) ?_)
        intro bV cV hbV sV
        refine ⟨trivial, ?_⟩
        refine hbV.pack (M := fun k1 => AnyK _ _ _ _ _ _ _ _ _ _ k1) _ ?_
        intro kV xV oV nV
        try simp only [Value.cells] at oV
        replace nV := xx.none nV
        replace xx := xx.trans xV
        replace oE := xV.own _ _ oE
        replace ov := xV.own _ _ ov
        walk_nrm
        refine anyK_all (rs := [4]) (by kernel_rfl) (by simp) ?_
        intro i hi
        simp only [List.mem_cons, List.not_mem_nil, or_false] at hi
        subst hi
        refine opK_trip rfl (by rfl) (exec_makeSlice (ti := TI38) (e := 38) (n := n) (sz := 3) (z := z38) rfl rfl rfl (by kernel_rfl) (by kernel_rfl) (fun w => by kernel_rfl) (fun w => by kernel_rfl) hn1 (Nat.le_of_ble_eq_true (by kernel_rfl)) ?_)
        intro bR cR hbR sR
        refine ⟨trivial, ?_⟩
        refine hbR.pack (M := fun k1 => AnyK _ _ _ _ _ _ _ _ _ _ k1) _ ?_
        intro kR xR oR nR
        try simp only [Value.cells] at oR
        replace nR := xx.none nR
        replace xx := xx.trans xR
        replace oE := xR.own _ _ oE
        replace ov := xR.own _ _ ov
        replace oV := xR.own _ _ oV
        walk_nrm
        refine tkF 13 ?_
        refine anyK_all (rs := [14]) (by kernel_rfl) (by simp) ?_
        intro i hi
        simp only [List.mem_cons, List.not_mem_nil, or_false] at hi
        subst hi
        refine opK_trip rfl (by rfl) (exec_box (v := .agg #[.pointer (some ⟨B, 0, none⟩), .slice (some ⟨jb, joff, none⟩) n jc, .slice (some ⟨bR, 0, none⟩) n n, .slice (some ⟨bE, 0, none⟩) N N, .slice (some ⟨bV, 0, none⟩) N N]) rfl rfl ?_)
        intro br hbr
        refine ⟨trivial, ?_⟩
        refine hbr.pack (M := fun k1 => AnyK _ _ _ _ _ _ _ _ _ _ k1) _ ?_
        intro kr xr or nr
        try simp only [Value.cells] at or
        replace nr := xx.none nr
        replace xx := xx.trans xr
        replace oE := xr.own _ _ oE
        replace ov := xr.own _ _ ov
        replace oV := xr.own _ _ oV
        replace oR := xr.own _ _ oR
        walk_nrm
        refine anyK_trip 16 (by kernel_rfl) rfl (by rfl) (exec_storeL (c' := #[.pointer (some ⟨br, 0, none⟩)]) rfl rfl rfl rfl (fun w => by kernel_rfl) ov rfl rfl rfl ?_)
        refine ⟨trivial, ?_⟩
        (refine anyK_done (by kernel_rfl) ?_ _; simp only [thenK, blockK, if_true, if_false, reduceIte, Nat.reduceEqDiff])
        exact ⟨by trivial, madeRow xx oR oE oV or ov nR nE nV nr nv sR sE sV _ rfl rfl⟩
  · refine opK_trip rfl (by rfl) (exec_makeSlice (ti := TI62) (e := 62) (n := N) (sz := 2) (z := z62) rfl rfl rfl (by kernel_rfl) (by kernel_rfl) (fun w => by kernel_rfl) (fun w => by kernel_rfl) hN1 (Nat.le_of_ble_eq_true (by kernel_rfl)) ?_)
    intro bV cV hbV sV
    refine ⟨trivial, ?_⟩
    refine hbV.pack (M := fun k1 => AnyK _ _ _ _ _ _ _ _ _ _ k1) _ ?_
    intro kV xV oV nV
    try simp only [Value.cells] at oV
    replace nV := xx.none nV
    replace xx := xx.trans xV
    walk_nrm
    refine anyK_all (rs := [4, 8, 15]) (by kernel_rfl) (by simp) ?_
    intro i hi
    simp only [List.mem_cons, List.not_mem_nil, or_false] at hi
    rcases hi with rfl | rfl | rfl
    · refine opK_trip rfl (by rfl) (exec_makeSlice (ti := TI38) (e := 38) (n := n) (sz := 3) (z := z38) rfl rfl rfl (by kernel_rfl) (by kernel_rfl) (fun w => by kernel_rfl) (fun w => by kernel_rfl) hn1 (Nat.le_of_ble_eq_true (by kernel_rfl)) ?_)
      intro bR cR hbR sR
      refine ⟨trivial, ?_⟩
      refine hbR.pack (M := fun k1 => AnyK _ _ _ _ _ _ _ _ _ _ k1) _ ?_
      intro kR xR oR nR
      try simp only [Value.cells] at oR
      replace nR := xx.none nR
      replace xx := xx.trans xR
      replace oV := xR.own _ _ oV
      walk_nrm
      refine anyK_all (rs := [8, 15]) (by kernel_rfl) (by simp) ?_
      intro i hi
      simp only [List.mem_cons, List.not_mem_nil, or_false] at hi
      rcases hi with rfl | rfl
      · refine opK_trip rfl (by rfl) (exec_makeSlice (ti := TI75) (e := 75) (n := N) (sz := 1) (z := z75) rfl rfl rfl (by kernel_rfl) (by kernel_rfl) (fun w => by kernel_rfl) (fun w => by kernel_rfl) hN1 (Nat.le_of_ble_eq_true (by kernel_rfl)) ?_)
        intro bE cE hbE sE
        refine ⟨trivial, ?_⟩
        refine hbE.pack (M := fun k1 => AnyK _ _ _ _ _ _ _ _ _ _ k1) _ ?_
        intro kE xE oE nE
        try simp only [Value.cells] at oE
        replace nE := xx.none nE
        replace xx := xx.trans xE
        replace oV := xE.own _ _ oV
        replace oR := xE.own _ _ oR
        walk_nrm
        refine tkF 13 ?_
        refine anyK_all (rs := [14, 15]) (by kernel_rfl) (by simp) ?_
        intro i hi
        simp only [List.mem_cons, List.not_mem_nil, or_false] at hi
        rcases hi with rfl | rfl
        · refine opK_trip rfl (by rfl) (exec_box (v := .agg #[.pointer (some ⟨B, 0, none⟩), .slice (some ⟨jb, joff, none⟩) n jc, .slice (some ⟨bR, 0, none⟩) n n, .slice (some ⟨bE, 0, none⟩) N N, .slice (some ⟨bV, 0, none⟩) N N]) rfl rfl ?_)
          intro br hbr
          refine ⟨trivial, ?_⟩
          refine hbr.pack (M := fun k1 => AnyK _ _ _ _ _ _ _ _ _ _ k1) _ ?_
          intro kr xr or nr
          try simp only [Value.cells] at or
          replace nr := xx.none nr
          replace xx := xx.trans xr
          replace oV := xr.own _ _ oV
          replace oR := xr.own _ _ oR
          replace oE := xr.own _ _ oE
          walk_nrm
          refine anyK_all (rs := [15]) (by kernel_rfl) (by simp) ?_
          intro i hi
          simp only [List.mem_cons, List.not_mem_nil, or_false] at hi
          subst hi
          refine opK_trip rfl (by rfl) (exec_alloc (z := .pointer none) rfl (fun w => by kernel_rfl) ?_)
          intro bv hbv
          refine ⟨trivial, ?_⟩
          refine hbv.pack (M := fun k1 => AnyK _ _ _ _ _ _ _ _ _ _ k1) _ ?_
          intro kv xv ov nv
          try simp only [Value.cells] at ov
          replace nv := xx.none nv
          replace xx := xx.trans xv
          replace oV := xv.own _ _ oV
          replace oR := xv.own _ _ oR
          replace oE := xv.own _ _ oE
          replace or := xv.own _ _ or
          walk_nrm
          refine anyK_trip 16 (by kernel_rfl) rfl (by rfl) (exec_storeL (c' := #[.pointer (some ⟨br, 0, none⟩)]) rfl rfl rfl rfl (fun w => by kernel_rfl) ov rfl rfl rfl ?_)
          refine ⟨trivial, ?_⟩
          (refine anyK_done (by kernel_rfl) ?_ _; simp only [thenK, blockK, if_true, if_false, reduceIte, Nat.reduceEqDiff])
          exact ⟨by trivial, madeRow xx oR oE oV or ov nR nE nV nr nv sR sE sV _ rfl rfl⟩
        · refine opK_trip rfl (by rfl) (exec_alloc (z := .pointer none) rfl (fun w => by kernel_rfl) ?_)
          intro bv hbv
          refine ⟨trivial, ?_⟩
          refine hbv.pack (M := fun k1 => AnyK _ _ _ _ _ _ _ _ _ _ k1) _ ?_
          intro kv xv ov nv
          try simp only [Value.cells] at ov
          replace nv := xx.none nv
          replace xx := xx.trans xv
          replace oV := xv.own _ _ oV
          replace oR := xv.own _ _ oR
          replace oE := xv.own _ _ oE
          walk_nrm
          refine anyK_all (rs := [14]) (by kernel_rfl) (by simp) ?_
          intro i hi
          simp only [List.mem_cons, List.not_mem_nil, or_false] at hi
          subst hi
          refine opK_trip rfl (by rfl) (exec_box (v := .agg #[.pointer (some ⟨B, 0, none⟩), .slice (some ⟨jb, joff, none⟩) n jc, .slice (some ⟨bR, 0, none⟩) n n, .slice (some ⟨bE, 0, none⟩) N N, .slice (some ⟨bV, 0, none⟩) N N]) rfl rfl ?_)
          intro br hbr
          refine ⟨trivial, ?_⟩
          refine hbr.pack (M := fun k1 => AnyK _ _ _ _ _ _ _ _ _ _ k1) _ ?_
          intro kr xr or nr
          try simp only [Value.cells] at or
          replace nr := xx.none nr
          replace xx := xx.trans xr
          replace oV := xr.own _ _ oV
          replace oR := xr.own _ _ oR
          replace oE := xr.own _ _ oE
          replace ov := xr.own _ _ ov
          walk_nrm
          refine anyK_trip 16 (by kernel_rfl) rfl (by rfl) (exec_storeL (c' := #[.pointer (some ⟨br, 0, none⟩)]) rfl rfl rfl rfl (fun w => by kernel_rfl) ov rfl rfl rfl ?_)
          refine ⟨trivial, ?_⟩
          (refine anyK_done (by kernel_rfl) ?_ _; simp only [thenK, blockK, if_true, if_false, reduceIte, Nat.reduceEqDiff])
          exact ⟨by trivial, madeRow xx oR oE oV or ov nR nE nV nr nv sR sE sV _ rfl rfl⟩
      · refine opK_trip rfl (by rfl) (exec_alloc (z := .pointer none) rfl (fun w => by kernel_rfl) ?_)
        intro bv hbv
        refine ⟨trivial, ?_⟩
        refine hbv.pack (M := fun k1 => AnyK _ _ _ _ _ _ _ _ _ _ k1) _ ?_
        intro kv xv ov nv
        try simp only [Value.cells] at ov
        replace nv := xx.none nv
        replace xx := xx.trans xv
        replace oV := xv.own _ _ oV
        replace oR := xv.own _ _ oR
        walk_nrm
        refine anyK_all (rs := [8]) (by kernel_rfl) (by simp) ?_
        intro i hi
        simp only [List.mem_cons, List.not_mem_nil, or_false] at hi
        subst hi
        refine opK_trip rfl (by rfl) (exec_makeSlice (ti := TI75) (e := 75) (n := N) (sz := 1) (z := z75) rfl rfl rfl (by kernel_rfl) (by kernel_rfl) (fun w => by kernel_rfl) (fun w => by kernel_rfl) hN1 (Nat.le_of_ble_eq_true (by kernel_rfl)) ?_)
        intro bE cE hbE sE
        refine ⟨trivial, ?_⟩
        refine hbE.pack (M := fun k1 => AnyK _ _ _ _ _ _ _ _ _ _ k1) _ ?_
        intro kE xE oE nE
        try simp only [Value.cells] at oE
        replace nE := xx.none nE
        replace xx := xx.trans xE
        replace oV := xE.own _ _ oV
        replace oR := xE.own _ _ oR
        replace ov := xE.own _ _ ov
        walk_nrm
        refine tkF 13 ?_
        refine anyK_all (rs := [14]) (by kernel_rfl) (by simp) ?_
        intro i hi
        simp only [List.mem_cons, List.not_mem_nil, or_false] at hi
        subst hi
        refine opK_trip rfl (by rfl) (exec_box (v := .agg #[.pointer (some ⟨B, 0, none⟩), .slice (some ⟨jb, joff, none⟩) n jc, .slice (some ⟨bR, 0, none⟩) n n, .slice (some ⟨bE, 0, none⟩) N N, .slice (some ⟨bV, 0, none⟩) N N]) rfl rfl ?_)
        intro br hbr
        refine ⟨trivial, ?_⟩
        refine hbr.pack (M := fun k1 => AnyK _ _ _ _ _ _ _ _ _ _ k1) _ ?_
        intro kr xr or nr
        try simp only [Value.cells] at or
        replace nr := xx.none nr
        replace xx := xx.trans xr
        replace oV := xr.own _ _ oV
        replace oR := xr.own _ _ oR
        replace ov := xr.own _ _ ov
        replace oE := xr.own _ _ oE
        walk_nrm
        refine anyK_trip 16 (by kernel_rfl) rfl (by rfl) (exec_storeL (c' := #[.pointer (some ⟨br, 0, none⟩)]) rfl rfl rfl rfl (fun w => by kernel_rfl) ov rfl rfl rfl ?_)
        refine ⟨trivial, ?_⟩
        (refine anyK_done (by kernel_rfl) ?_ _; simp only [thenK, blockK, if_true, if_false, reduceIte, Nat.reduceEqDiff])
        exact ⟨by trivial, madeRow xx oR oE oV or ov nR nE nV nr nv sR sE sV _ rfl rfl⟩
    · refine opK_trip rfl (by rfl) (exec_makeSlice (ti := TI75) (e := 75) (n := N) (sz := 1) (z := z75) rfl rfl rfl (by kernel_rfl) (by kernel_rfl) (fun w => by kernel_rfl) (fun w => by kernel_rfl) hN1 (Nat.le_of_ble_eq_true (by kernel_rfl)) ?_)
      intro bE cE hbE sE
      refine ⟨trivial, ?_⟩
      refine hbE.pack (M := fun k1 => AnyK _ _ _ _ _ _ _ _ _ _ k1) _ ?_
      intro kE xE oE nE
      try simp only [Value.cells] at oE
      replace nE := xx.none nE
      replace xx := xx.trans xE
      replace oV := xE.own _ _ oV
      walk_nrm
      refine anyK_all (rs := [4, 15]) (by kernel_rfl) (by simp) ?_
      intro i hi
      simp only [List.mem_cons, List.not_mem_nil, or_false] at hi
      rcases hi with rfl | rfl
      · refine opK_trip rfl (by rfl) (exec_makeSlice (ti := TI38) (e := 38) (n := n) (sz := 3) (z := z38) rfl rfl rfl (by kernel_rfl) (by kernel_rfl) (fun w => by kernel_rfl) (fun w => by kernel_rfl) hn1 (Nat.le_of_ble_eq_true (by kernel_rfl)) ?_)
        intro bR cR hbR sR
        refine ⟨trivial, ?_⟩
        refine hbR.pack (M := fun k1 => AnyK _ _ _ _ _ _ _ _ _ _ k1) _ ?_
        intro kR xR oR nR
        try simp only [Value.cells] at oR
        replace nR := xx.none nR
        replace xx := xx.trans xR
        replace oV := xR.own _ _ oV
        replace oE := xR.own _ _ oE
        walk_nrm
        refine tkF 13 ?_
        refine anyK_all (rs := [14, 15]) (by kernel_rfl) (by simp) ?_
        intro i hi
        simp only [List.mem_cons, List.not_mem_nil, or_false] at hi
        rcases hi with rfl | rfl
        · refine opK_trip rfl (by rfl) (exec_box (v := .agg #[.pointer (some ⟨B, 0, none⟩), .slice (some ⟨jb, joff, none⟩) n jc, .slice (some ⟨bR, 0, none⟩) n n, .slice (some ⟨bE, 0, none⟩) N N, .slice (some ⟨bV, 0, none⟩) N N]) rfl rfl ?_)
          intro br hbr
          refine ⟨trivial, ?_⟩
          refine hbr.pack (M := fun k1 => AnyK _ _ _ _ _ _ _ _ _ _ k1) _ ?_
          intro kr xr or nr
          try simp only [Value.cells] at or
          replace nr := xx.none nr
          replace xx := xx.trans xr
          replace oV := xr.own _ _ oV
          replace oE := xr.own _ _ oE
          replace oR := xr.own _ _ oR
          walk_nrm
          refine anyK_all (rs := [15]) (by kernel_rfl) (by simp) ?_
          intro i hi
          simp only [List.mem_cons, List.not_mem_nil, or_false] at hi
          subst hi
          refine opK_trip rfl (by rfl) (exec_alloc (z := .pointer none) rfl (fun w => by kernel_rfl) ?_)
          intro bv hbv
          refine ⟨trivial, ?_⟩
          refine hbv.pack (M := fun k1 => AnyK _ _ _ _ _ _ _ _ _ _ k1) _ ?_
          intro kv xv ov nv
          try simp only [Value.cells] at ov
          replace nv := xx.none nv
          replace xx := xx.trans xv
          replace oV := xv.own _ _ oV
          replace oE := xv.own _ _ oE
          replace oR := xv.own _ _ oR
          replace or := xv.own _ _ or
          walk_nrm
          refine anyK_trip 16 (by kernel_rfl) rfl (by rfl) (exec_storeL (c' := #[.pointer (some ⟨br, 0, none⟩)]) rfl rfl rfl rfl (fun w => by kernel_rfl) ov rfl rfl rfl ?_)
          refine ⟨trivial, ?_⟩
          (refine anyK_done (by kernel_rfl) ?_ _; simp only [thenK, blockK, if_true, if_false, reduceIte, Nat.reduceEqDiff])
          exact ⟨by trivial, madeRow xx oR oE oV or ov nR nE nV nr nv sR sE sV _ rfl rfl⟩
        · refine opK_trip rfl (by rfl) (exec_alloc (z := .pointer none) rfl (fun w => by kernel_rfl) ?_)
          intro bv hbv
          refine ⟨trivial, ?_⟩
          refine hbv.pack (M := fun k1 => AnyK _ _ _ _ _ _ _ _ _ _ k1) _ ?_
          intro kv xv ov nv
          try simp only [Value.cells] at ov
          replace nv := xx.none nv
          replace xx := xx.trans xv
          replace oV := xv.own _ _ oV
          replace oE := xv.own _ _ oE
          replace oR := xv.own _ _ oR
          walk_nrm
          refine anyK_all (rs := [14]) (by kernel_rfl) (by simp) ?_
          intro i hi
          simp only [List.mem_cons, List.not_mem_nil, or_false] at hi
          subst hi
          refine opK_trip rfl (by rfl) (exec_box (v := .agg #[.pointer (some ⟨B, 0, none⟩), .slice (some ⟨jb, joff, none⟩) n jc, .slice (some ⟨bR, 0, none⟩) n n, .slice (some ⟨bE, 0, none⟩) N N, .slice (some ⟨bV, 0, none⟩) N N]) rfl rfl ?_)
          intro br hbr
          refine ⟨trivial, ?_⟩
          refine hbr.pack (M := fun k1 => AnyK _ _ _ _ _ _ _ _ _ _ k1) _ ?_
          intro kr xr or nr
          try simp only [Value.cells] at or
          replace nr := xx.none nr
          replace xx := xx.trans xr
          replace oV := xr.own _ _ oV
          replace oE := xr.own _ _ oE
          replace oR := xr.own _ _ oR
          replace ov := xr.own _ _ ov
          walk_nrm
          refine anyK_trip 16 (by kernel_rfl) rfl (by rfl) (exec_storeL (c' := #[.pointer (some ⟨br, 0, none⟩)]) rfl rfl rfl rfl (fun w => by kernel_rfl) ov rfl rfl rfl ?_)
          refine ⟨trivial, ?_⟩
          (refine anyK_done (by kernel_rfl) ?_ _; simp only [thenK, blockK, if_true, if_false, reduceIte, Nat.reduceEqDiff])
          exact ⟨by trivial, madeRow xx oR oE oV or ov nR nE nV nr nv sR sE sV _ rfl rfl⟩
      · refine opK_trip rfl (by rfl) (exec_alloc (z := .pointer none) rfl (fun w => by kernel_rfl) ?_)
        intro bv hbv
        refine ⟨trivial, ?_⟩
        refine hbv.pack (M := fun k1 => AnyK _ _ _ _ _ _ _ _ _ _ k1) _ ?_
        intro kv xv ov nv
        try simp only [Value.cells] at ov
        replace nv := xx.none nv
        replace xx := xx.trans xv
        replace oV := xv.own _ _ oV
        replace oE := xv.own _ _ oE
        walk_nrm
        refine anyK_all (rs := [4]) (by kernel_rfl) (by simp) ?_
        intro i hi
        simp only [List.mem_cons, List.not_mem_nil, or_false] at hi
        subst hi
        refine opK_trip rfl (by rfl) (exec_makeSlice (ti := TI38) (e := 38) (n := n) (sz := 3) (z := z38) rfl rfl rfl (by kernel_rfl) (by kernel_rfl) (fun w => by kernel_rfl) (fun w => by kernel_rfl) hn1 (Nat.le_of_ble_eq_true (by kernel_rfl)) ?_)
        intro bR cR hbR sR
        refine ⟨trivial, ?_⟩
        refine hbR.pack (M := fun k1 => AnyK _ _ _ _ _ _ _ _ _ _ k1) _ ?_
        intro kR xR oR nR
        try simp only [Value.cells] at oR
        replace nR := xx.none nR
        replace xx := xx.trans xR
        replace oV := xR.own _ _ oV
        replace oE := xR.own _ _ oE
        replace ov := xR.own _ _ ov
        walk_nrm
        refine tkF 13 ?_
        refine anyK_all (rs := [14]) (by kernel_rfl) (by simp) ?_
        intro i hi
        simp only [List.mem_cons, List.not_mem_nil, or_false] at hi
        subst hi
        refine opK_trip rfl (by rfl) (exec_box (v := .agg #[.pointer (some ⟨B, 0, none⟩), .slice (some ⟨jb, joff, none⟩) n jc, .slice (some ⟨bR, 0, none⟩) n n, .slice (some ⟨bE, 0, none⟩) N N, .slice (some ⟨bV, 0, none⟩) N N]) rfl rfl ?_)
        intro br hbr
        refine ⟨trivial, ?_⟩
        refine hbr.pack (M := fun k1 => AnyK _ _ _ _ _ _ _ _ _ _ k1) _ ?_
        intro kr xr or nr
        try simp only [Value.cells] at or
        replace nr := xx.none nr
        replace xx := xx.trans xr
        replace oV := xr.own _ _ oV
        replace oE := xr.own _ _ oE
        replace ov := xr.own _ _ ov
        replace oR := xr.own _ _ oR
        walk_nrm
        refine anyK_trip 16 (by kernel_rfl) rfl (by rfl) (exec_storeL (c' := #[.pointer (some ⟨br, 0, none⟩)]) rfl rfl rfl rfl (fun w => by kernel_rfl) ov rfl rfl rfl ?_)
        refine ⟨trivial, ?_⟩
        (refine anyK_done (by kernel_rfl) ?_ _; simp only [thenK, blockK, if_true, if_false, reduceIte, Nat.reduceEqDiff])
        exact ⟨by trivial, madeRow xx oR oE oV or ov nR nE nV nr nv sR sE sV _ rfl rfl⟩
    · refine opK_trip rfl (by rfl) (exec_alloc (z := .pointer none) rfl (fun w => by kernel_rfl) ?_)
      intro bv hbv
      refine ⟨trivial, ?_⟩
      refine hbv.pack (M := fun k1 => AnyK _ _ _ _ _ _ _ _ _ _ k1) _ ?_
      intro kv xv ov nv
      try simp only [Value.cells] at ov
      replace nv := xx.none nv
      replace xx := xx.trans xv
      replace oV := xv.own _ _ oV
      walk_nrm
      refine anyK_all (rs := [4, 8]) (by kernel_rfl) (by simp) ?_
      intro i hi
      simp only [List.mem_cons, List.not_mem_nil, or_false] at hi
      rcases hi with rfl | rfl
      · refine opK_trip rfl (by rfl) (exec_makeSlice (ti := TI38) (e := 38) (n := n) (sz := 3) (z := z38) rfl rfl rfl (by kernel_rfl) (by kernel_rfl) (fun w => by kernel_rfl) (fun w => by kernel_rfl) hn1 (Nat.le_of_ble_eq_true (by kernel_rfl)) ?_)
        intro bR cR hbR sR
        refine ⟨trivial, ?_⟩
        refine hbR.pack (M := fun k1 => AnyK _ _ _ _ _ _ _ _ _ _ k1) _ ?_
        intro kR xR oR nR
        try simp only [Value.cells] at oR
        replace nR := xx.none nR
        replace xx := xx.trans xR
        replace oV := xR.own _ _ oV
        replace ov := xR.own _ _ ov
        walk_nrm
        refine anyK_all (rs := [8]) (by kernel_rfl) (by simp) ?_
        intro i hi
        simp only [List.mem_cons, List.not_mem_nil, or_false] at hi
        subst hi
        refine opK_trip rfl (by rfl) (exec_makeSlice (ti := TI75) (e := 75) (n := N) (sz := 1) (z := z75) rfl rfl rfl (by kernel_rfl) (by kernel_rfl) (fun w => by kernel_rfl) (fun w => by kernel_rfl) hN1 (Nat.le_of_ble_eq_true (by kernel_rfl)) ?_)
        intro bE cE hbE sE
        refine ⟨trivial, ?_⟩
        refine hbE.pack (M := fun k1 => AnyK _ _ _ _ _ _ _ _ _ _ k1) _ ?_
        intro kE xE oE nE
        try simp only [Value.cells] at oE
        replace nE := xx.none nE
        replace xx := xx.trans xE
        replace oV := xE.own _ _ oV
        replace ov := xE.own _ _ ov
        replace oR := xE.own _ _ oR
        walk_nrm
        refine tkF 13 ?_
        refine anyK_all (rs := [14]) (by kernel_rfl) (by simp) ?_
        intro i hi
        simp only [List.mem_cons, List.not_mem_nil, or_false] at hi
        subst hi
        refine opK_trip rfl (by rfl) (exec_box (v := .agg #[.pointer (some ⟨B, 0, none⟩), .slice (some ⟨jb, joff, none⟩) n jc, .slice (some ⟨bR, 0, none⟩) n n, .slice (some ⟨bE, 0, none⟩) N N, .slice (some ⟨bV, 0, none⟩) N N]) rfl rfl ?_)
        intro br hbr
        refine ⟨trivial, ?_⟩
        refine hbr.pack (M := fun k1 => AnyK _ _ _ _ _ _ _ _ _ _ k1) _ ?_
        intro kr xr or nr
        try simp only [Value.cells] at or
        replace nr := xx.none nr
        replace xx := xx.trans xr
        replace oV := xr.own _ _ oV
        replace ov := xr.own _ _ ov
        replace oR := xr.own _ _ oR
        replace oE := xr.own _ _ oE
        walk_nrm
        refine anyK_trip 16 (by kernel_rfl) rfl (by rfl) (exec_storeL (c' := #[.pointer (some ⟨br, 0, none⟩)]) rfl rfl rfl rfl (fun w => by kernel_rfl) ov rfl rfl rfl ?_)
        refine ⟨trivial, ?_⟩
        (refine anyK_done (by kernel_rfl) ?_ _; simp only [thenK, blockK, if_true, if_false, reduceIte, Nat.reduceEqDiff])
        exact ⟨by trivial, madeRow xx oR oE oV or ov nR nE nV nr nv sR sE sV _ rfl rfl⟩
      · refine opK_trip rfl (by rfl) (exec_makeSlice (ti := TI75) (e := 75) (n := N) (sz := 1) (z := z75) rfl rfl rfl (by kernel_rfl) (by kernel_rfl) (fun w => by kernel_rfl) (fun w => by kernel_rfl) hN1 (Nat.le_of_ble_eq_true (by kernel_rfl)) ?_)
        intro bE cE hbE sE
        refine ⟨trivial, ?_⟩
        refine hbE.pack (M := fun k1 => AnyK _ _ _ _ _ _ _ _ _ _ k1) _ ?_
        intro kE xE oE nE
        try simp only [Value.cells] at oE
        replace nE := xx.none nE
        replace xx := xx.trans xE
        replace oV := xE.own _ _ oV
        replace ov := xE.own _ _ ov
        walk_nrm
        refine anyK_all (rs := [4]) (by kernel_rfl) (by simp) ?_
        intro i hi
        simp only [List.mem_cons, List.not_mem_nil, or_false] at hi
        subst hi
        refine opK_trip rfl (by rfl) (exec_makeSlice (ti := TI38) (e := 38) (n := n) (sz := 3) (z := z38) rfl rfl rfl (by kernel_rfl) (by kernel_rfl) (fun w => by kernel_rfl) (fun w => by kernel_rfl) hn1 (Nat.le_of_ble_eq_true (by kernel_rfl)) ?_)
        intro bR cR hbR sR
        refine ⟨trivial, ?_⟩
        refine hbR.pack (M := fun k1 => AnyK _ _ _ _ _ _ _ _ _ _ k1) _ ?_
        intro kR xR oR nR
        try simp only [Value.cells] at oR
        replace nR := xx.none nR
        replace xx := xx.trans xR
        replace oV := xR.own _ _ oV
        replace ov := xR.own _ _ ov
        replace oE := xR.own _ _ oE
        walk_nrm
        refine tkF 13 ?_
        refine anyK_all (rs := [14]) (by kernel_rfl) (by simp) ?_
        intro i hi
        simp only [List.mem_cons, List.not_mem_nil, or_false] at hi
        subst hi
        refine opK_trip rfl (by rfl) (exec_box (v := .agg #[.pointer (some ⟨B, 0, none⟩), .slice (some ⟨jb, joff, none⟩) n jc, .slice (some ⟨bR, 0, none⟩) n n, .slice (some ⟨bE, 0, none⟩) N N, .slice (some ⟨bV, 0, none⟩) N N]) rfl rfl ?_)
        intro br hbr
        refine ⟨trivial, ?_⟩
        refine hbr.pack (M := fun k1 => AnyK _ _ _ _ _ _ _ _ _ _ k1) _ ?_
        intro kr xr or nr
        try simp only [Value.cells] at or
        replace nr := xx.none nr
        replace xx := xx.trans xr
        replace oV := xr.own _ _ oV
        replace ov := xr.own _ _ ov
        replace oE := xr.own _ _ oE
        replace oR := xr.own _ _ oR
        walk_nrm
        refine anyK_trip 16 (by kernel_rfl) rfl (by rfl) (exec_storeL (c' := #[.pointer (some ⟨br, 0, none⟩)]) rfl rfl rfl rfl (fun w => by kernel_rfl) ov rfl rfl rfl ?_)
        refine ⟨trivial, ?_⟩
        (refine anyK_done (by kernel_rfl) ?_ _; simp only [thenK, blockK, if_true, if_false, reduceIte, Nat.reduceEqDiff])
        exact ⟨by trivial, madeRow xx oR oE oV or ov nR nE nV nr nv sR sE sV _ rfl rfl⟩
  · refine opK_trip rfl (by rfl) (exec_alloc (z := .pointer none) rfl (fun w => by kernel_rfl) ?_)
    intro bv hbv
    refine ⟨trivial, ?_⟩
    refine hbv.pack (M := fun k1 => AnyK _ _ _ _ _ _ _ _ _ _ k1) _ ?_
    intro kv xv ov nv
    try simp only [Value.cells] at ov
    replace nv := xx.none nv
    replace xx := xx.trans xv
    walk_nrm
    refine anyK_all (rs := [4, 8, 12]) (by kernel_rfl) (by simp) ?_
    intro i hi
    simp only [List.mem_cons, List.not_mem_nil, or_false] at hi
    rcases hi with rfl | rfl | rfl
    · refine opK_trip rfl (by rfl) (exec_makeSlice (ti := TI38) (e := 38) (n := n) (sz := 3) (z := z38) rfl rfl rfl (by kernel_rfl) (by kernel_rfl) (fun w => by kernel_rfl) (fun w => by kernel_rfl) hn1 (Nat.le_of_ble_eq_true (by kernel_rfl)) ?_)
      intro bR cR hbR sR
      refine ⟨trivial, ?_⟩
      refine hbR.pack (M := fun k1 => AnyK _ _ _ _ _ _ _ _ _ _ k1) _ ?_
      intro kR xR oR nR
      try simp only [Value.cells] at oR
      replace nR := xx.none nR
      replace xx := xx.trans xR
      replace ov := xR.own _ _ ov
      walk_nrm
      refine anyK_all (rs := [8, 12]) (by kernel_rfl) (by simp) ?_
      intro i hi
      simp only [List.mem_cons, List.not_mem_nil, or_false] at hi
      rcases hi with rfl | rfl
      · refine opK_trip rfl (by rfl) (exec_makeSlice (ti := TI75) (e := 75) (n := N) (sz := 1) (z := z75) rfl rfl rfl (by kernel_rfl) (by kernel_rfl) (fun w => by kernel_rfl) (fun w => by kernel_rfl) hN1 (Nat.le_of_ble_eq_true (by kernel_rfl)) ?_)
        intro bE cE hbE sE
        refine ⟨trivial, ?_⟩
        refine hbE.pack (M := fun k1 => AnyK _ _ _ _ _ _ _ _ _ _ k1) _ ?_
        intro kE xE oE nE
        try simp only [Value.cells] at oE
        replace nE := xx.none nE
        replace xx := xx.trans xE
        replace ov := xE.own _ _ ov
        replace oR := xE.own _ _ oR
        walk_nrm
        refine anyK_all (rs := [12]) (by kernel_rfl) (by simp) ?_
        intro i hi
        simp only [List.mem_cons, List.not_mem_nil, or_false] at hi
        subst hi
        refine opK_trip rfl (by rfl) (exec_makeSlice (ti := TI62) (e := 62) (n := N) (sz := 2) (z := z62) rfl rfl rfl (by kernel_rfl) (by kernel_rfl) (fun w => by kernel_rfl) (fun w => by kernel_rfl) hN1 (Nat.le_of_ble_eq_true (by kernel_rfl)) ?_)
        intro bV cV hbV sV
        refine ⟨trivial, ?_⟩
        refine hbV.pack (M := fun k1 => AnyK _ _ _ _ _ _ _ _ _ _ k1) _ ?_
        intro kV xV oV nV
        try simp only [Value.cells] at oV
        replace nV := xx.none nV
        replace xx := xx.trans xV
        replace ov := xV.own _ _ ov
        replace oR := xV.own _ _ oR
        replace oE := xV.own _ _ oE
        walk_nrm
        refine tkF 13 ?_
        refine anyK_all (rs := [14]) (by kernel_rfl) (by simp) ?_
        intro i hi
        simp only [List.mem_cons, List.not_mem_nil, or_false] at hi
        subst hi
        refine opK_trip rfl (by rfl) (exec_box (v := .agg #[.pointer (some ⟨B, 0, none⟩), .slice (some ⟨jb, joff, none⟩) n jc, .slice (some ⟨bR, 0, none⟩) n n, .slice (some ⟨bE, 0, none⟩) N N, .slice (some ⟨bV, 0, none⟩) N N]) rfl rfl ?_)
        intro br hbr
        refine ⟨trivial, ?_⟩
        refine hbr.pack (M := fun k1 => AnyK _ _ _ _ _ _ _ _ _ _ k1) _ ?_
        intro kr xr or nr
        try simp only [Value.cells] at or
        replace nr := xx.none nr
        replace xx := xx.trans xr
        replace ov := xr.own _ _ ov
        replace oR := xr.own _ _ oR
        replace oE := xr.own _ _ oE
        replace oV := xr.own _ _ oV
        walk_nrm
        refine anyK_trip 16 (by kernel_rfl) rfl (by rfl) (exec_storeL (c' := #[.pointer (some ⟨br, 0, none⟩)]) rfl rfl rfl rfl (fun w => by kernel_rfl) ov rfl rfl rfl ?_)
        refine ⟨trivial, ?_⟩
        (refine anyK_done (by kernel_rfl) ?_ _; simp only [thenK, blockK, if_true, if_false, reduceIte, Nat.reduceEqDiff])
        exact ⟨by trivial, madeRow xx oR oE oV or ov nR nE nV nr nv sR sE sV _ rfl rfl⟩
      · refine opK_trip rfl (by rfl) (exec_makeSlice (ti := TI62) (e := 62) (n := N) (sz := 2) (z := z62) rfl rfl rfl (by kernel_rfl) (by kernel_rfl) (fun w => by kernel_rfl) (fun w => by kernel_rfl) hN1 (Nat.le_of_ble_eq_true (by kernel_rfl)) ?_)
        intro bV cV hbV sV
        refine ⟨trivial, ?_⟩
        refine hbV.pack (M := fun k1 => AnyK _ _ _ _ _ _ _ _ _ _ k1) _ ?_
        intro kV xV oV nV
        try simp only [Value.cells] at oV
        replace nV := xx.none nV
        replace xx := xx.trans xV
        replace ov := xV.own _ _ ov
        replace oR := xV.own _ _ oR
        walk_nrm
        refine anyK_all (rs := [8]) (by kernel_rfl) (by simp) ?_
        intro i hi
        simp only [List.mem_cons, List.not_mem_nil, or_false] at hi
        subst hi
        refine opK_trip rfl (by rfl) (exec_makeSlice (ti := TI75) (e := 75) (n := N) (sz := 1) (z := z75) rfl rfl rfl (by kernel_rfl) (by kernel_rfl) (fun w => by kernel_rfl) (fun w => by kernel_rfl) hN1 (Nat.le_of_ble_eq_true (by kernel_rfl)) ?_)
        intro bE cE hbE sE
        refine ⟨trivial, ?_⟩
        refine hbE.pack (M := fun k1 => AnyK _ _ _ _ _ _ _ _ _ _ k1) _ ?_
        intro kE xE oE nE
        try simp only [Value.cells] at oE
        replace nE := xx.none nE
        replace xx := xx.trans xE
        replace ov := xE.own _ _ ov
        replace oR := xE.own _ _ oR
        replace oV := xE.own _ _ oV
        walk_nrm
        refine tkF 13 ?_
        refine anyK_all (rs := [14]) (by kernel_rfl) (by simp) ?_
        intro i hi
        simp only [List.mem_cons, List.not_mem_nil, or_false] at hi
        subst hi
        refine opK_trip rfl (by rfl) (exec_box (v := .agg #[.pointer (some ⟨B, 0, none⟩), .slice (some ⟨jb, joff, none⟩) n jc, .slice (some ⟨bR, 0, none⟩) n n, .slice (some ⟨bE, 0, none⟩) N N, .slice (some ⟨bV, 0, none⟩) N N]) rfl rfl ?_)
        intro br hbr
        refine ⟨trivial, ?_⟩
        refine hbr.pack (M := fun k1 => AnyK _ _ _ _ _ _ _ _ _ _ k1) _ ?_
        intro kr xr or nr
        try simp only [Value.cells] at or
        replace nr := xx.none nr
        replace xx := xx.trans xr
        replace ov := xr.own _ _ ov
        replace oR := xr.own _ _ oR
        replace oV := xr.own _ _ oV
        replace oE := xr.own _ _ oE
        walk_nrm
        refine anyK_trip 16 (by kernel_rfl) rfl (by rfl) (exec_storeL (c' := #[.pointer (some ⟨br, 0, none⟩)]) rfl rfl rfl rfl (fun w => by kernel_rfl) ov rfl rfl rfl ?_)
        refine ⟨trivial, ?_⟩
        (refine anyK_done (by kernel_rfl) ?_ _; simp only [thenK, blockK, if_true, if_false, reduceIte, Nat.reduceEqDiff])
        exact ⟨by trivial, madeRow xx oR oE oV or ov nR nE nV nr nv sR sE sV _ rfl rfl⟩
    · refine opK_trip rfl (by rfl) (exec_makeSlice (ti := TI75) (e := 75) (n := N) (sz := 1) (z := z75) rfl rfl rfl (by kernel_rfl) (by kernel_rfl) (fun w => by kernel_rfl) (fun w => by kernel_rfl) hN1 (Nat.le_of_ble_eq_true (by kernel_rfl)) ?_)
      intro bE cE hbE sE
      refine ⟨trivial, ?_⟩
      refine hbE.pack (M := fun k1 => AnyK _ _ _ _ _ _ _ _ _ _ k1) _ ?_
      intro kE xE oE nE
      try simp only [Value.cells] at oE
      replace nE := xx.none nE
      replace xx := xx.trans xE
      replace ov := xE.own _ _ ov
      walk_nrm
      refine anyK_all (rs := [4, 12]) (by kernel_rfl) (by simp) ?_
      intro i hi
      simp only [List.mem_cons, List.not_mem_nil, or_false] at hi
      rcases hi with rfl | rfl
      · refine opK_trip rfl (by rfl) (exec_makeSlice (ti := TI38) (e := 38) (n := n) (sz := 3) (z := z38) rfl rfl rfl (by kernel_rfl) (by kernel_rfl) (fun w => by kernel_rfl) (fun w => by kernel_rfl) hn1 (Nat.le_of_ble_eq_true (by kernel_rfl)) ?_)
        intro bR cR hbR sR
        refine ⟨trivial, ?_⟩
        refine hbR.pack (M := fun k1 => AnyK _ _ _ _ _ _ _ _ _ _ k1) _ ?_
        intro kR xR oR nR
        try simp only [Value.cells] at oR
        replace nR := xx.none nR
        replace xx := xx.trans xR
        replace ov := xR.own _ _ ov
        replace oE := xR.own _ _ oE
        walk_nrm
        refine anyK_all (rs := [12]) (by kernel_rfl) (by simp) ?_
        intro i hi
        simp only [List.mem_cons, List.not_mem_nil, or_false] at hi
        subst hi
        refine opK_trip rfl (by rfl) (exec_makeSlice (ti := TI62) (e := 62) (n := N) (sz := 2) (z := z62) rfl rfl rfl (by kernel_rfl) (by kernel_rfl) (fun w => by kernel_rfl) (fun w => by kernel_rfl) hN1 (Nat.le_of_ble_eq_true (by kernel_rfl)) ?_)
        intro bV cV hbV sV
        refine ⟨trivial, ?_⟩
        refine hbV.pack (M := fun k1 => AnyK _ _ _ _ _ _ _ _ _ _ k1) _ ?_
        intro kV xV oV nV
        try simp only [Value.cells] at oV
        replace nV := xx.none nV
        replace xx := xx.trans xV
        replace ov := xV.own _ _ ov
        replace oE := xV.own _ _ oE
        replace oR := xV.own _ _ oR
        walk_nrm
        refine tkF 13 ?_
        refine anyK_all (rs := [14]) (by kernel_rfl) (by simp) ?_
        intro i hi
        simp only [List.mem_cons, List.not_mem_nil, or_false] at hi
        subst hi
        refine opK_trip rfl (by rfl) (exec_box (v := .agg #[.pointer (some ⟨B, 0, none⟩), .slice (some ⟨jb, joff, none⟩) n jc, .slice (some ⟨bR, 0, none⟩) n n, .slice (some ⟨bE, 0, none⟩) N N, .slice (some ⟨bV, 0, none⟩) N N]) rfl rfl ?_)
        intro br hbr
        refine ⟨trivial, ?_⟩
        refine hbr.pack (M := fun k1 => AnyK _ _ _ _ _ _ _ _ _ _ k1) _ ?_
        intro kr xr or nr
        try simp only [Value.cells] at or
        replace nr := xx.none nr
        replace xx := xx.trans xr
        replace ov := xr.own _ _ ov
        replace oE := xr.own _ _ oE
        replace oR := xr.own _ _ oR
        replace oV := xr.own _ _ oV
        walk_nrm
        refine anyK_trip 16 (by kernel_rfl) rfl (by rfl) (exec_storeL (c' := #[.pointer (some ⟨br, 0, none⟩)]) rfl rfl rfl rfl (fun w => by kernel_rfl) ov rfl rfl rfl ?_)
        refine ⟨trivial, ?_⟩
        (refine anyK_done (by kernel_rfl) ?_ _; simp only [thenK, blockK, if_true, if_false, reduceIte, Nat.reduceEqDiff])
        exact ⟨by trivial, madeRow xx oR oE oV or ov nR nE nV nr nv sR sE sV _ rfl rfl⟩
      · refine opK_trip rfl (by rfl) (exec_makeSlice (ti := TI62) (e := 62) (n := N) (sz := 2) (z := z62) rfl rfl rfl (by kernel_rfl) (by kernel_rfl) (fun w => by kernel_rfl) (fun w => by kernel_rfl) hN1 (Nat.le_of_ble_eq_true (by kernel_rfl)) ?_)
        intro bV cV hbV sV
        refine ⟨trivial, ?_⟩
        refine hbV.pack (M := fun k1 => AnyK _ _ _ _ _ _ _ _ _ _ k1) _ ?_
        intro kV xV oV nV
        try simp only [Value.cells] at oV
        replace nV := xx.none nV
        replace xx := xx.trans xV
        replace ov := xV.own _ _ ov
        replace oE := xV.own _ _ oE
        walk_nrm
        refine anyK_all (rs := [4]) (by kernel_rfl) (by simp) ?_
        intro i hi
        simp only [List.mem_cons, List.not_mem_nil, or_false] at hi
        subst hi
        refine opK_trip rfl (by rfl) (exec_makeSlice (ti := TI38) (e := 38) (n := n) (sz := 3) (z := z38) rfl rfl rfl (by kernel_rfl) (by kernel_rfl) (fun w => by kernel_rfl) (fun w => by kernel_rfl) hn1 (Nat.le_of_ble_eq_true (by kernel_rfl)) ?_)
        intro bR cR hbR sR
        refine ⟨trivial, ?_⟩
        refine hbR.pack (M := fun k1 => AnyK _ _ _ _ _ _ _ _ _ _ k1) _ ?_
        intro kR xR oR nR
        try simp only [Value.cells] at oR
        replace nR := xx.none nR
        replace xx := xx.trans xR
        replace ov := xR.own _ _ ov
        replace oE := xR.own _ _ oE
        replace oV := xR.own _ _ oV
        walk_nrm
        refine tkF 13 ?_
        refine anyK_all (rs := [14]) (by kernel_rfl) (by simp) ?_
        intro i hi
        simp only [List.mem_cons, List.not_mem_nil, or_false] at hi
        subst hi
        refine opK_trip rfl (by rfl) (exec_box (v := .agg #[.pointer (some ⟨B, 0, none⟩), .slice (some ⟨jb, joff, none⟩) n jc, .slice (some ⟨bR, 0, none⟩) n n, .slice (some ⟨bE, 0, none⟩) N N, .slice (some ⟨bV, 0, none⟩) N N]) rfl rfl ?_)
        intro br hbr
        refine ⟨trivial, ?_⟩
        refine hbr.pack (M := fun k1 => AnyK _ _ _ _ _ _ _ _ _ _ k1) _ ?_
        intro kr xr or nr
        try simp only [Value.cells] at or
        replace nr := xx.none nr
        replace xx := xx.trans xr
        replace ov := xr.own _ _ ov
        replace oE := xr.own _ _ oE
        replace oV := xr.own _ _ oV
        replace oR := xr.own _ _ oR
        walk_nrm
        refine anyK_trip 16 (by kernel_rfl) rfl (by rfl) (exec_storeL (c' := #[.pointer (some ⟨br, 0, none⟩)]) rfl rfl rfl rfl (fun w => by kernel_rfl) ov rfl rfl rfl ?_)
        refine ⟨trivial, ?_⟩
        (refine anyK_done (by kernel_rfl) ?_ _; simp only [thenK, blockK, if_true, if_false, reduceIte, Nat.reduceEqDiff])
        exact ⟨by trivial, madeRow xx oR oE oV or ov nR nE nV nr nv sR sE sV _ rfl rfl⟩
    · refine opK_trip rfl (by rfl) (exec_makeSlice (ti := TI62) (e := 62) (n := N) (sz := 2) (z := z62) rfl rfl rfl (by kernel_rfl) (by kernel_rfl) (fun w => by kernel_rfl) (fun w => by kernel_rfl) hN1 (Nat.le_of_ble_eq_true (by kernel_rfl)) ?_)
      intro bV cV hbV sV
      refine ⟨trivial, ?_⟩
      refine hbV.pack (M := fun k1 => AnyK _ _ _ _ _ _ _ _ _ _ k1) _ ?_
      intro kV xV oV nV
      try simp only [Value.cells] at oV
      replace nV := xx.none nV
      replace xx := xx.trans xV
      replace ov := xV.own _ _ ov
      walk_nrm
      refine anyK_all (rs := [4, 8]) (by kernel_rfl) (by simp) ?_
      intro i hi
      simp only [List.mem_cons, List.not_mem_nil, or_false] at hi
      rcases hi with rfl | rfl
      · refine opK_trip rfl (by rfl) (exec_makeSlice (ti := TI38) (e := 38) (n := n) (sz := 3) (z := z38) rfl rfl rfl (by kernel_rfl) (by kernel_rfl) (fun w => by kernel_rfl) (fun w => by kernel_rfl) hn1 (Nat.le_of_ble_eq_true (by kernel_rfl)) ?_)
        intro bR cR hbR sR
        refine ⟨trivial, ?_⟩
        refine hbR.pack (M := fun k1 => AnyK _ _ _ _ _ _ _ _ _ _ k1) _ ?_
        intro kR xR oR nR
        try simp only [Value.cells] at oR
        replace nR := xx.none nR
        replace xx := xx.trans xR
        replace ov := xR.own _ _ ov
        replace oV := xR.own _ _ oV
        walk_nrm
        refine anyK_all (rs := [8]) (by kernel_rfl) (by simp) ?_
        intro i hi
        simp only [List.mem_cons, List.not_mem_nil, or_false] at hi
        subst hi
        refine opK_trip rfl (by rfl) (exec_makeSlice (ti := TI75) (e := 75) (n := N) (sz := 1) (z := z75) rfl rfl rfl (by kernel_rfl) (by kernel_rfl) (fun w => by kernel_rfl) (fun w => by kernel_rfl) hN1 (Nat.le_of_ble_eq_true (by kernel_rfl)) ?_)
        intro bE cE hbE sE
        refine ⟨trivial, ?_⟩
        refine hbE.pack (M := fun k1 => AnyK _ _ _ _ _ _ _ _ _ _ k1) _ ?_
        intro kE xE oE nE
        try simp only [Value.cells] at oE
        replace nE := xx.none nE
        replace xx := xx.trans xE
        replace ov := xE.own _ _ ov
        replace oV := xE.own _ _ oV
        replace oR := xE.own _ _ oR
        walk_nrm
        refine tkF 13 ?_
        refine anyK_all (rs := [14]) (by kernel_rfl) (by simp) ?_
        intro i hi
        simp only [List.mem_cons, List.not_mem_nil, or_false] at hi
        subst hi
        refine opK_trip rfl (by rfl) (exec_box (v := .agg #[.pointer (some ⟨B, 0, none⟩), .slice (some ⟨jb, joff, none⟩) n jc, .slice (some ⟨bR, 0, none⟩) n n, .slice (some ⟨bE, 0, none⟩) N N, .slice (some ⟨bV, 0, none⟩) N N]) rfl rfl ?_)
        intro br hbr
        refine ⟨trivial, ?_⟩
        refine hbr.pack (M := fun k1 => AnyK _ _ _ _ _ _ _ _ _ _ k1) _ ?_
        intro kr xr or nr
        try simp only [Value.cells] at or
        replace nr := xx.none nr
        replace xx := xx.trans xr
        replace ov := xr.own _ _ ov
        replace oV := xr.own _ _ oV
        replace oR := xr.own _ _ oR
        replace oE := xr.own _ _ oE
        walk_nrm
        refine anyK_trip 16 (by kernel_rfl) rfl (by rfl) (exec_storeL (c' := #[.pointer (some ⟨br, 0, none⟩)]) rfl rfl rfl rfl (fun w => by kernel_rfl) ov rfl rfl rfl ?_)
        refine ⟨trivial, ?_⟩
        (refine anyK_done (by kernel_rfl) ?_ _; simp only [thenK, blockK, if_true, if_false, reduceIte, Nat.reduceEqDiff])
        exact ⟨by trivial, madeRow xx oR oE oV or ov nR nE nV nr nv sR sE sV _ rfl rfl⟩
      · refine opK_trip rfl (by rfl) (exec_makeSlice (ti := TI75) (e := 75) (n := N) (sz := 1) (z := z75) rfl rfl rfl (by kernel_rfl) (by kernel_rfl) (fun w => by kernel_rfl) (fun w => by kernel_rfl) hN1 (Nat.le_of_ble_eq_true (by kernel_rfl)) ?_)
        intro bE cE hbE sE
        refine ⟨trivial, ?_⟩
        refine hbE.pack (M := fun k1 => AnyK _ _ _ _ _ _ _ _ _ _ k1) _ ?_
        intro kE xE oE nE
        try simp only [Value.cells] at oE
        replace nE := xx.none nE
        replace xx := xx.trans xE
        replace ov := xE.own _ _ ov
        replace oV := xE.own _ _ oV
        walk_nrm
        refine anyK_all (rs := [4]) (by kernel_rfl) (by simp) ?_
        intro i hi
        simp only [List.mem_cons, List.not_mem_nil, or_false] at hi
        subst hi
        refine opK_trip rfl (by rfl) (exec_makeSlice (ti := TI38) (e := 38) (n := n) (sz := 3) (z := z38) rfl rfl rfl (by kernel_rfl) (by kernel_rfl) (fun w => by kernel_rfl) (fun w => by kernel_rfl) hn1 (Nat.le_of_ble_eq_true (by kernel_rfl)) ?_)
        intro bR cR hbR sR
        refine ⟨trivial, ?_⟩
        refine hbR.pack (M := fun k1 => AnyK _ _ _ _ _ _ _ _ _ _ k1) _ ?_
        intro kR xR oR nR
        try simp only [Value.cells] at oR
        replace nR := xx.none nR
        replace xx := xx.trans xR
        replace ov := xR.own _ _ ov
        replace oV := xR.own _ _ oV
        replace oE := xR.own _ _ oE
        walk_nrm
        refine tkF 13 ?_
        refine anyK_all (rs := [14]) (by kernel_rfl) (by simp) ?_
        intro i hi
        simp only [List.mem_cons, List.not_mem_nil, or_false] at hi
        subst hi
        refine opK_trip rfl (by rfl) (exec_box (v := .agg #[.pointer (some ⟨B, 0, none⟩), .slice (some ⟨jb, joff, none⟩) n jc, .slice (some ⟨bR, 0, none⟩) n n, .slice (some ⟨bE, 0, none⟩) N N, .slice (some ⟨bV, 0, none⟩) N N]) rfl rfl ?_)
        intro br hbr
        refine ⟨trivial, ?_⟩
        refine hbr.pack (M := fun k1 => AnyK _ _ _ _ _ _ _ _ _ _ k1) _ ?_
        intro kr xr or nr
        try simp only [Value.cells] at or
        replace nr := xx.none nr
        replace xx := xx.trans xr
        replace ov := xr.own _ _ ov
        replace oV := xr.own _ _ oV
        replace oE := xr.own _ _ oE
        replace oR := xr.own _ _ oR
        walk_nrm
        refine anyK_trip 16 (by kernel_rfl) rfl (by rfl) (exec_storeL (c' := #[.pointer (some ⟨br, 0, none⟩)]) rfl rfl rfl rfl (fun w => by kernel_rfl) ov rfl rfl rfl ?_)
        refine ⟨trivial, ?_⟩
        (refine anyK_done (by kernel_rfl) ?_ _; simp only [thenK, blockK, if_true, if_false, reduceIte, Nat.reduceEqDiff])
        exact ⟨by trivial, madeRow xx oR oE oV or ov nR nE nV nr nv sR sE sV _ rfl rfl⟩
end Go.Proofs.Ytacfhfeegalmlaa
