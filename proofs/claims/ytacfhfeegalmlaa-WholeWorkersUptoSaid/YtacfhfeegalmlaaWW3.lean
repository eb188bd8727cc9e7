/-
  Joined texts: LAWS for the words in a region that draws its order. · PLAIN LAW: the persistent map: search trees, what put makes, what a sorted list of entries holds. · THE WORDS OF A WALK, each as one theorem whose last premise is found by its own tactic: what is left to show comes first. · the persistent map, walked in company: a tree in memory; tall, count. · the persistent map, walked in company: build.
-/
import Derived.Test.YtacfhfeegalmlaaWW2
import Derived.Test.YtacfhfeegalmlaaWW1

/- LAWS for the words in a region that draws its order. -/
namespace Go.Proofs.Ytacfhfeegalmlaa
open Go.Conc
set_option linter.unusedVariables false
set_option linter.unusedSimpArgs false

theorem Kn.New.grow {k : Kn} {b : Nat} (h : k.New b) (c : Array Value) : k.Grow (k.lay b c) :=
  ⟨fun a v x => by simp [Kn.lay, h.ro a (by rw [x]; simp), x], rfl, rfl, rfl, rfl, rfl⟩
theorem Kn.lay_at (k : Kn) (b : Nat) (c : Array Value) (j : Nat) : (k.lay b c).ro ⟨b, j, none⟩ = c[j]? := by simp [Kn.lay]

section
variable {P : Program} {main : Who} {fn : FuncId} {ops : Array Oper} {Q : Exit → Act → Kn → Prop} {md : Region.Mode} {S : Kn → Prop} {a : Act} {k : Kn} {i : Nat} {o : Oper} {v : Value}
theorem takeK_pure {fuel : Nat} {listed : Array Bool} (hi : ops[i]? = some o) (hw : Region.wanted o (yielded ops a.tmps) = true)
    (hs : Region.noSelect ops = true) (hf : Region.free md ops listed i = true) (hr : (Region.ready md ops listed).contains i = true) (hS : S k)
    (hv : ∀ w (K : Result Next → Prop), K (.ok (.value v) w) → K ((execOp a.eval o).run P w)) (hl : ∀ w, (execOp a.eval o).events P w #[] = #[])
    (h : AnyK P main fn md ops Q S fuel (listed.setIfInBounds i true) (a.put o.dst v) k) : AnyK P main fn md ops Q S (fuel + 1) listed a k :=
  anyK_take hi hs hf hr (.inl ⟨hw, .inl fun k' _ w hk => ⟨run_eq_of (hv w), by rw [listed_nil (hl w)]; exact k'.idle hk⟩⟩) hS h
/-- .. that is not wanted. -/
theorem takeK_un {fuel : Nat} {listed : Array Bool} (hi : ops[i]? = some o) (hw : Region.wanted o (yielded ops a.tmps) = false)
    (hs : Region.noSelect ops = true) (hf : Region.free md ops listed i = true) (hr : (Region.ready md ops listed).contains i = true) (hS : S k)
    (h : AnyK P main fn md ops Q S fuel (listed.setIfInBounds i true) (a.put o.dst undef) k) : AnyK P main fn md ops Q S (fuel + 1) listed a k :=
  anyK_take hi hs hf hr (.inr ⟨hw, rfl⟩) hS h
theorem takeK_nil {t ty : TypeId} {x : Operand} {p : Option Addr} {fuel : Nat} {listed : Array Bool} (hi : ops[i]? = some o) (hw : Region.wanted o (yielded ops a.tmps) = true)
    (hs : Region.noSelect ops = true) (hf : Region.free md ops listed i = true) (hr : (Region.ready md ops listed).contains i = true) (hS : S k)
    (hop : o.op = .binOp .eql t x (.const (.pointer none)) ty) (hx : a.eval x = .pointer p) (ht : isPtrD (P.underlying t) = true)
    (h : AnyK P main fn md ops Q S fuel (listed.setIfInBounds i true) (a.put o.dst (.bool p.isNone)) k) : AnyK P main fn md ops Q S (fuel + 1) listed a k := by
  obtain ⟨e, ht⟩ := isPtrD_of ht
  have hy : a.eval (.const (.pointer none)) = .pointer none := rfl
  refine takeK_pure hi hw hs hf hr hS (fun w K hK => ?_) (fun w => ?_) h
  · have : (execOp a.eval o).run P w = .ok (.value (.bool p.isNone)) w := by unfold execOp; simp only [hop, hx, hy]; simp [run_eqGuard_ptr, (binOp_eql_nil P w #[] ht p).1]
    rw [this]; exact hK
  · unfold execOp; simp only [hop, hx, hy]; simp [run_eqGuard_ptr, events_eqGuard_ptr, (binOp_eql_nil P w #[] ht p).1, (binOp_eql_nil P w #[] ht p).2]
theorem takeK_load1 {t : TypeId} {x : Operand} {ad : Addr} {fuel : Nat} {listed : Array Bool} (hi : ops[i]? = some o) (hw : Region.wanted o (yielded ops a.tmps) = true)
    (hs : Region.noSelect ops = true) (hf : Region.free md ops listed i = true) (hr : (Region.ready md ops listed).contains i = true) (hS : S k)
    (hop : o.op = .load t x) (hx : a.eval x = .pointer (some ad)) (hag : ∀ w, (Go.isAgg t).run P w = .ok false w) (hc : ∀ k', S k' → k'.Has ad v)
    (h : AnyK P main fn md ops Q S fuel (listed.setIfInBounds i true) (a.put o.dst v) k) : AnyK P main fn md ops Q S (fuel + 1) listed a k := by
  refine anyK_take hi hs hf hr (.inl ⟨hw, .inl fun k' hk' w hk => ?_⟩) hS h
  obtain ⟨u, w', k'', h1, h2, h3, h4⟩ := Trip.loadVar1 (P := P) (Ψ := fun u k'' => u = v ∧ k'' = k') hag (hc k' hk') ⟨rfl, rfl⟩ w hk
  have hcell := hk.cell (hc k' hk')
  have hrun : (loadVar t ad).run P w = .ok v w := by
    unfold Go.loadVar
    simp [hag, Go.load, Sem.run, hcell]
  rw [hrun] at h1
  simp only [Result.ok.injEq] at h1
  obtain ⟨rfl, rfl⟩ := h1
  refine ⟨by unfold execOp; simp [hop, hx, Instr.loadAt, Instr.sureAddr, hrun], ?_⟩
  subst h4
  refine h2.less fun e he => ?_
  have := mem_listed he
  unfold execOp at this
  simpa [hop, hx, Instr.loadAt, Instr.sureAddr, hrun] using this
theorem takeK_call {f : FuncId} {args : Array Operand} {ats : Array TypeId} {xs : Array Value} {fuel : Nat} {listed : Array Bool} (hi : ops[i]? = some o) (hw : Region.wanted o (yielded ops a.tmps) = true)
    (hs : Region.noSelect ops = true) (hf : Region.free md ops listed i = true) (hr : (Region.ready md ops listed).contains i = true) (hS : S k)
    (hop : o.op = .call { callee := .value (.func f), args, argTypes := ats }) (ha : args.map a.eval = xs) (hc : ∀ k', S k' → CallsK P main f xs k' fun u k'' => u = v ∧ k' = k'')
    (h : AnyK P main fn md ops Q S fuel (listed.setIfInBounds i true) (a.put o.dst v) k) : AnyK P main fn md ops Q S (fuel + 1) listed a k :=
  anyK_take hi hs hf hr (.inl ⟨hw, .inr ⟨f, args, ats, hop, by rw [ha]; exact hc⟩⟩) hS h
/-- One operation alone is ready: a call. -/
theorem opK_call {f : FuncId} {args : Array Operand} {ats : Array TypeId} {xs : Array Value} {Post : Value → Kn → Prop} {K : Act → Kn → Prop} (hi : ops[i]? = some o) (hw : Region.wanted o (yielded ops a.tmps) = true)
    (hop : o.op = .call { callee := .value (.func f), args, argTypes := ats }) (ha : args.map a.eval = xs) (hc : CallsK P main f xs k Post) (h : ∀ v k', Post v k' → K (a.put o.dst v) k') : OpK P main fn ops i K a k := by
  unfold OpK
  simp only [hi, hw, if_true]
  exact .inr (.inl ⟨f, args, ats, Post, hop, by rw [ha]; exact hc, h⟩)
theorem anyK_call {f : FuncId} {args : Array Operand} {ats : Array TypeId} {xs : Array Value} {Post : Value → Kn → Prop} {fuel : Nat} {listed : Array Bool} (i : Nat) {o : Oper} (hr : Region.ready md ops listed = [i]) (hi : ops[i]? = some o) (hw : Region.wanted o (yielded ops a.tmps) = true)
    (hop : o.op = .call { callee := .value (.func f), args, argTypes := ats }) (ha : args.map a.eval = xs) (hc : CallsK P main f xs k Post)
    (h : ∀ v k', Post v k' → S k' ∧ AnyK P main fn md ops Q S fuel (listed.setIfInBounds i true) (a.put o.dst v) k') : AnyK P main fn md ops Q S (fuel + 1) listed a k :=
  anyK_all hr (by simp) fun j hj => by
    obtain rfl : j = i := by simpa using hj
    exact opK_call hi hw hop ha hc h
/-- Two calls are ready. -/
theorem anyK_two {fuel : Nat} {listed : Array Bool} (i j : Nat) (hr : Region.ready md ops listed = [i, j])
    (h1 : OpK P main fn ops i (fun a' k' => S k' ∧ AnyK P main fn md ops Q S fuel (listed.setIfInBounds i true) a' k') a k)
    (h2 : OpK P main fn ops j (fun a' k' => S k' ∧ AnyK P main fn md ops Q S fuel (listed.setIfInBounds j true) a' k') a k) : AnyK P main fn md ops Q S (fuel + 1) listed a k :=
  anyK_all hr (by simp) fun m hm => by
    simp only [List.mem_cons, List.not_mem_nil, or_false] at hm
    rcases hm with rfl | rfl
    · exact h1
    · exact h2
end
end Go.Proofs.Ytacfhfeegalmlaa

/- PLAIN LAW: the persistent map: search trees, what put makes, what a sorted list of entries holds. -/
namespace Go.Proofs.Ytacfhfeegalmlaa
set_option linter.unusedVariables false
set_option linter.unusedSimpArgs false

/-- the order of names -/
abbrev klt (a b : ByteArray) : Bool := Op.bytesLess a.toList b.toList

theorem bl_irrefl : ∀ l : List UInt8, Op.bytesLess l l = false
  | [] => rfl
  | a :: l => by
    have h : ¬ a < a := fun h => by simp at h
    simp [Op.bytesLess, bl_irrefl l]
theorem bl_trans : ∀ {a b c : List UInt8}, Op.bytesLess a b = true → Op.bytesLess b c = true → Op.bytesLess a c = true
  | _, [], _, h, _ => by simp [Op.bytesLess] at h
  | _, _ :: _, [], _, h => by simp [Op.bytesLess] at h
  | [], _ :: _, _ :: _, _, _ => by simp [Op.bytesLess]
  | x :: a, y :: b, z :: c, h1, h2 => by
    simp only [Op.bytesLess, Bool.or_eq_true, decide_eq_true_eq, Bool.and_eq_true, beq_iff_eq] at h1 h2 ⊢
    rcases h1 with h1 | ⟨rfl, h1⟩
    · rcases h2 with h2 | ⟨rfl, h2⟩
      · exact .inl (UInt8.lt_trans h1 h2)
      · exact .inl h1
    · rcases h2 with h2 | ⟨rfl, h2⟩
      · exact .inl h2
      · exact .inr ⟨rfl, bl_trans h1 h2⟩
theorem bl_tri : ∀ {a b : List UInt8}, Op.bytesLess a b = false → Op.bytesLess b a = false → a = b
  | [], [], _, _ => rfl
  | [], _ :: _, h, _ => by simp [Op.bytesLess] at h
  | _ :: _, [], _, h => by simp [Op.bytesLess] at h
  | x :: a, y :: b, h1, h2 => by
    simp only [Op.bytesLess, Bool.or_eq_false_iff, decide_eq_false_iff_not, Bool.and_eq_false_iff, beq_eq_false_iff_ne] at h1 h2
    have hxy : x = y := by
      rcases UInt8.lt_or_lt_of_ne (a := x) (b := y) |> fun f => Classical.em (x = y) with h | h
      · exact h
      · rcases UInt8.lt_or_lt_of_ne h with h | h
        · exact absurd h h1.1
        · exact absurd h h2.1
    subst hxy
    have e1 := h1.2.resolve_left (fun h => h rfl)
    have e2 := h2.2.resolve_left (fun h => h rfl)
    rw [bl_tri e1 e2]

theorem klt_irrefl (a : ByteArray) : klt a a = false := bl_irrefl _
theorem klt_trans {a b c : ByteArray} (h1 : klt a b = true) (h2 : klt b c = true) : klt a c = true := bl_trans h1 h2
theorem klt_tri {a b : ByteArray} (h1 : klt a b = false) (h2 : klt b a = false) : a = b := by
  have h := bl_tri h1 h2
  rw [ByteArray.toList_eq, ByteArray.toList_eq] at h
  exact ByteArray.ext (Array.toList_inj.1 h)
theorem klt_asymm {a b : ByteArray} (h : klt a b = true) : klt b a = false := by
  cases h2 : klt b a with
  | false => rfl
  | true => have := klt_trans h h2; rw [klt_irrefl] at this; cases this
theorem klt_ne {a b : ByteArray} (h : klt a b = true) : a ≠ b := fun e => by rw [e, klt_irrefl] at h; cases h

/-- entries, in the order of their names -/
abbrev Ents := List (ByteArray × Int)
def Srt (l : Ents) : Prop := l.Pairwise fun x y => klt x.1 y.1 = true
def getL (l : Ents) (k : ByteArray) : Option Int := (l.find? fun x => decide (x.1 = k)).map (·.2)
def insL (k : ByteArray) (v : Int) : Ents → Ents
  | [] => [(k, v)]
  | x :: l => if klt k x.1 then (k, v) :: x :: l else if klt x.1 k then x :: insL k v l else (k, v) :: l

theorem getL_nil (k) : getL [] k = none := rfl
theorem getL_cons (x : ByteArray × Int) (l : Ents) (k) : getL (x :: l) k = if x.1 = k then some x.2 else getL l k := by
  unfold getL
  rw [List.find?_cons]
  by_cases e : x.1 = k
  · rw [if_pos e]; simp [e]
  · rw [if_neg e]; simp [e]
theorem getL_none {l : Ents} {k} (h : ∀ x ∈ l, x.1 ≠ k) : getL l k = none := by
  induction l with
  | nil => rfl
  | cons x l ih =>
    rw [getL_cons, if_neg (h x (by simp))]
    exact ih fun y hy => h y (by simp [hy])
theorem getL_app (A B : Ents) (k) : getL (A ++ B) k = (getL A k).or (getL B k) := by
  induction A with
  | nil => rfl
  | cons x l ih =>
    rw [List.cons_append, getL_cons, getL_cons, ih]
    split <;> rfl
theorem mem_insL {k v} {l : Ents} {y} (h : y ∈ insL k v l) : y = (k, v) ∨ y ∈ l := by
  induction l with
  | nil => simp [insL] at h; exact .inl h
  | cons x l ih =>
    unfold insL at h
    split at h
    · rcases List.mem_cons.1 h with h | h
      · exact .inl h
      · exact .inr h
    · split at h
      · rcases List.mem_cons.1 h with h | h
        · exact .inr (by simp [h])
        · exact (ih h).imp id (fun h => by simp [h])
      · rcases List.mem_cons.1 h with h | h
        · exact .inl h
        · exact .inr (by simp [h])
theorem srt_insL {k v} {l : Ents} (h : Srt l) : Srt (insL k v l) := by
  induction l with
  | nil => simp [insL, Srt]
  | cons x l ih =>
    have h1 := List.pairwise_cons.1 h
    unfold insL
    split
    · rename_i hk
      refine List.pairwise_cons.2 ⟨fun y hy => ?_, h⟩
      rcases List.mem_cons.1 hy with rfl | hy
      · exact hk
      · exact klt_trans hk (h1.1 y hy)
    · split
      · rename_i hk hx
        refine List.pairwise_cons.2 ⟨fun y hy => ?_, ih h1.2⟩
        rcases mem_insL hy with rfl | hy
        · exact hx
        · exact h1.1 y hy
      · rename_i hk hx
        have e := klt_tri (Bool.eq_false_iff.2 hk) (Bool.eq_false_iff.2 hx)
        refine List.pairwise_cons.2 ⟨fun y hy => ?_, h1.2⟩
        show klt k y.1 = true
        rw [e]; exact h1.1 y hy
theorem getL_insL {k v} {l : Ents} (h : Srt l) (j) : getL (insL k v l) j = if j = k then some v else getL l j := by
  induction l with
  | nil =>
    simp only [insL, getL_cons, getL_nil]
    by_cases e : j = k
    · subst e; simp
    · rw [if_neg (fun h => e h.symm), if_neg e]
  | cons x l ih =>
    have h1 := List.pairwise_cons.1 h
    unfold insL
    split
    · rw [getL_cons]
      by_cases e : j = k
      · subst e; simp
      · rw [if_neg (fun h => e h.symm), if_neg e]
    · split
      · rename_i hk hx
        rw [getL_cons, getL_cons, ih h1.2]
        by_cases e : x.1 = j
        · rw [if_pos e, if_pos e, if_neg (fun e2 => by rw [e2] at e; exact klt_ne hx e)]
        · rw [if_neg e, if_neg e]
      · rename_i hk hx
        have e := klt_tri (Bool.eq_false_iff.2 hk) (Bool.eq_false_iff.2 hx)
        rw [getL_cons, getL_cons]
        by_cases e2 : j = k
        · subst e2; simp
        · rw [if_neg (fun h => e2 h.symm), if_neg e2, if_neg (fun h => e2 (h.symm.trans e.symm))]
/-- sorted lists that answer alike are equal -/
theorem srt_ext : ∀ {A B : Ents}, Srt A → Srt B → (∀ k, getL A k = getL B k) → A = B
  | [], [], _, _, _ => rfl
  | [], y :: B, _, _, h => by have := h y.1; rw [getL_nil, getL_cons, if_pos rfl] at this; cases this
  | x :: A, [], _, _, h => by have := h x.1; rw [getL_nil, getL_cons, if_pos rfl] at this; cases this
  | x :: A, y :: B, ha, hb, h => by
    have a1 := List.pairwise_cons.1 ha
    have b1 := List.pairwise_cons.1 hb
    have gx : ∀ {z : ByteArray × Int} {C : Ents} {k}, (∀ w ∈ C, klt z.1 w.1 = true) → klt k z.1 = true → getL (z :: C) k = none := fun {z C k} hC hk => by
      refine getL_none fun w hw e => ?_
      rcases List.mem_cons.1 hw with rfl | hw
      · exact klt_ne hk e.symm
      · exact klt_ne (klt_trans hk (hC w hw)) e.symm
    have exy : x.1 = y.1 := by
      refine klt_tri ?_ ?_
      · cases hl : klt x.1 y.1 with
        | false => rfl
        | true => have := h x.1; rw [gx b1.1 hl, getL_cons, if_pos rfl] at this; cases this
      · cases hl : klt y.1 x.1 with
        | false => rfl
        | true => have := h y.1; rw [gx a1.1 hl, getL_cons, if_pos rfl] at this; cases this
    have exv : x.2 = y.2 := by
      have := h x.1
      rw [getL_cons, if_pos rfl, getL_cons, if_pos exy.symm] at this
      exact Option.some.inj this
    have e : x = y := Prod.ext exy exv
    subst e
    congr 1
    refine srt_ext a1.2 b1.2 fun k => ?_
    by_cases ek : x.1 = k
    · subst ek
      rw [getL_none (fun w hw e => klt_ne (a1.1 w hw) e.symm), getL_none (fun w hw e => klt_ne (b1.1 w hw) e.symm)]
    · have := h k
      rwa [getL_cons, getL_cons, if_neg ek, if_neg ek] at this

/-- a tree of the map -/
inductive Tr where
  | lf
  | nd (l : Tr) (k : ByteArray) (v : Int) (r : Tr) (h s : Nat)
def Tr.ht : Tr → Nat
  | .lf => 0
  | .nd _ _ _ _ h _ => h
def Tr.sz : Tr → Nat
  | .lf => 0
  | .nd _ _ _ _ _ s => s
def Tr.ents : Tr → Ents
  | .lf => []
  | .nd l k v r _ _ => l.ents ++ (k, v) :: r.ents
def Tr.ok : Tr → Prop
  | .lf => True
  | .nd l _ _ r h s => l.ok ∧ r.ok ∧ h = 1 + max l.ht r.ht ∧ s = 1 + l.sz + r.sz
theorem Tr.ok.le : ∀ {t : Tr}, t.ok → t.ht ≤ t.sz
  | .lf, _ => Nat.le_refl _
  | .nd l k v r h s, ⟨hl, hr, h1, h2⟩ => by
    have a := hl.le
    have b := hr.le
    show h ≤ s
    omega
theorem Tr.ok.size : ∀ {t : Tr}, t.ok → t.sz = t.ents.length
  | .lf, _ => rfl
  | .nd l k v r h s, ⟨hl, hr, h1, h2⟩ => by
    have a := hl.size
    have b := hr.size
    show s = _
    simp only [Tr.ents, List.length_append, List.length_cons]
    omega
def bld (l : Tr) (k : ByteArray) (v : Int) (r : Tr) : Tr := .nd l k v r (1 + max l.ht r.ht) (1 + l.sz + r.sz)
theorem bld_ents (l k v r) : (bld l k v r).ents = l.ents ++ (k, v) :: r.ents := rfl
theorem bld_ok {l r : Tr} (hl : l.ok) (hr : r.ok) (k v) : (bld l k v r).ok := ⟨hl, hr, rfl, rfl⟩
def lvl (l : Tr) (k : ByteArray) (v : Int) (r : Tr) : Tr :=
  if r.ht + 1 < l.ht then
    match l with
    | .lf => bld l k v r
    | .nd ll lk lv lr _ _ =>
      if lr.ht ≤ ll.ht then bld ll lk lv (bld lr k v r)
      else match lr with
        | .lf => bld l k v r
        | .nd tl tk tv tr _ _ => bld (bld ll lk lv tl) tk tv (bld tr k v r)
  else if l.ht + 1 < r.ht then
    match r with
    | .lf => bld l k v r
    | .nd rl rk rv rr _ _ =>
      if rl.ht ≤ rr.ht then bld (bld l k v rl) rk rv rr
      else match rl with
        | .lf => bld l k v r
        | .nd tl tk tv tr _ _ => bld (bld l k v tl) tk tv (bld tr rk rv rr)
  else bld l k v r
theorem lvl_ents (l k v r) : (lvl l k v r).ents = l.ents ++ (k, v) :: r.ents := by
  unfold lvl
  split
  · split
    · rfl
    · split
      · simp [bld_ents, Tr.ents]
      · split <;> simp [bld_ents, Tr.ents]
  · split
    · split
      · rfl
      · split
        · simp [bld_ents, Tr.ents]
        · split <;> simp [bld_ents, Tr.ents]
    · rfl
theorem lvl_ok {l r : Tr} (hl : l.ok) (hr : r.ok) (k v) : (lvl l k v r).ok := by
  unfold lvl
  split
  · split
    · exact bld_ok hl hr _ _
    · split
      · exact bld_ok hl.1 (bld_ok hl.2.1 hr _ _) _ _
      · split
        · exact bld_ok hl hr _ _
        · exact bld_ok (bld_ok hl.1 hl.2.1.1 _ _) (bld_ok hl.2.1.2.1 hr _ _) _ _
  · split
    · split
      · exact bld_ok hl hr _ _
      · split
        · exact bld_ok (bld_ok hl hr.1 _ _) hr.2.1 _ _
        · split
          · exact bld_ok hl hr _ _
          · exact bld_ok (bld_ok hl hr.1.1 _ _) (bld_ok hr.1.2.1 hr.2.1 _ _) _ _
    · exact bld_ok hl hr _ _
def putT : Tr → ByteArray → Int → Tr
  | .lf, k, v => bld .lf k v .lf
  | .nd l k' v' r _ _, k, v => if klt k k' then lvl (putT l k v) k' v' r else if klt k' k then lvl l k' v' (putT r k v) else bld l k v r
theorem putT_ok : ∀ {t : Tr} (h : t.ok) (k v), (putT t k v).ok
  | .lf, _, k, v => bld_ok (l := .lf) (r := .lf) trivial trivial _ _
  | .nd l k' v' r _ _, h, k, v => by
    unfold putT
    split
    · exact lvl_ok (putT_ok h.1 k v) h.2.1 _ _
    · split
      · exact lvl_ok h.1 (putT_ok h.2.1 k v) _ _
      · exact bld_ok h.1 h.2.1 _ _
theorem insL_left {k v} {A : Ents} {x : ByteArray × Int} {B : Ents} (h : klt k x.1 = true) : insL k v (A ++ x :: B) = insL k v A ++ x :: B := by
  induction A with
  | nil => simp [insL, h]
  | cons y A ih =>
    simp only [List.cons_append, insL]
    split
    · simp
    · split
      · rw [ih]; simp
      · simp
theorem insL_right {k v} {A : Ents} {x : ByteArray × Int} {B : Ents} (hA : ∀ y ∈ A, klt y.1 x.1 = true) (h : klt x.1 k = true) : insL k v (A ++ x :: B) = A ++ x :: insL k v B := by
  induction A with
  | nil => simp [insL, h, klt_asymm h]
  | cons y A ih =>
    have hy := klt_trans (hA y (by simp)) h
    simp only [List.cons_append, insL, klt_asymm hy, hy]
    rw [ih (fun z hz => hA z (by simp [hz]))]
    simp
theorem insL_same {k v v'} {A B : Ents} (hA : ∀ y ∈ A, klt y.1 k = true) : insL k v (A ++ (k, v') :: B) = A ++ (k, v) :: B := by
  induction A with
  | nil => simp [insL, klt_irrefl]
  | cons y A ih =>
    have hy := hA y (by simp)
    simp only [List.cons_append, insL, klt_asymm hy, hy]
    rw [ih (fun z hz => hA z (by simp [hz]))]
    simp
theorem putT_ents : ∀ {t : Tr} (h : Srt t.ents) (k v), (putT t k v).ents = insL k v t.ents
  | .lf, _, k, v => rfl
  | .nd l k' v' r _ _, h, k, v => by
    have h1 := List.pairwise_append.1 h
    have h2 := List.pairwise_cons.1 h1.2.1
    have hlt : ∀ y ∈ l.ents, klt y.1 k' = true := fun y hy => h1.2.2 y hy (k', v') (by simp)
    unfold putT
    split
    · rename_i hk
      rw [lvl_ents, putT_ents h1.1]
      exact (insL_left hk).symm
    · split
      · rename_i hk hk2
        rw [lvl_ents, putT_ents h2.2]
        exact (insL_right hlt hk2).symm
      · rename_i hk hk2
        have e := klt_tri (Bool.eq_false_iff.2 hk) (Bool.eq_false_iff.2 hk2)
        subst e
        exact (insL_same hlt).symm
/-- what find answers -/
def findT : Tr → ByteArray → Tr
  | .lf, _ => .lf
  | .nd l k' v' r h s, k => if klt k k' then findT l k else if klt k' k then findT r k else .nd l k' v' r h s
def getT (t : Tr) (k : ByteArray) : Option Int := match findT t k with
  | .lf => none
  | .nd _ _ v _ _ _ => some v
theorem getT_ents : ∀ {t : Tr} (h : Srt t.ents) (k), getT t k = getL t.ents k
  | .lf, _, k => rfl
  | .nd l k' v' r hh s, h, k => by
    have h1 := List.pairwise_append.1 h
    have h2 := List.pairwise_cons.1 h1.2.1
    have hlt : ∀ y ∈ l.ents, klt y.1 k' = true := fun y hy => h1.2.2 y hy (k', v') (by simp)
    have ihl := getT_ents h1.1 k
    have ihr := getT_ents h2.2 k
    simp only [getT, findT, Tr.ents, getL_app, getL_cons] at ihl ihr ⊢
    by_cases hk : klt k k' = true
    · rw [if_pos hk, ihl, if_neg (fun e => klt_ne hk e.symm), getL_none (l := r.ents) (fun y hy e => klt_ne (klt_trans hk (h2.1 y hy)) e.symm)]
      cases getL l.ents k <;> rfl
    · rw [if_neg hk]
      by_cases hk2 : klt k' k = true
      · rw [if_pos hk2, ihr, if_neg (klt_ne hk2), getL_none (l := l.ents) (fun y hy e => klt_ne (klt_trans (hlt y hy) hk2) e)]
        rfl
      · rw [if_neg hk2]
        have e := klt_tri (Bool.eq_false_iff.2 hk) (Bool.eq_false_iff.2 hk2)
        subst e
        rw [if_pos rfl, getL_none (l := l.ents) (fun y hy e => klt_ne (hlt y hy) e)]
        rfl

end Go.Proofs.Ytacfhfeegalmlaa

/- THE WORDS OF A WALK, each as one theorem whose last premise is found by its own tactic: what is left to show comes first. -/
namespace Go.Proofs.Ytacfhfeegalmlaa
open Go.Conc
set_option linter.unusedVariables false
set_option linter.unusedSimpArgs false

/-- A claim that bears a number. -/
def Wi (i : Nat) (p : Prop) : Prop := p
section
variable {P : Program} {main : Who} {fn : FuncId} {ops : Array Oper} {Q : Exit → Act → Kn → Prop} {md : Region.Mode} {S : Kn → Prop} {a : Act} {k : Kn} {i : Nat} {o : Oper} {v : Value}
theorem takeW_pure {fuel : Nat} {listed : Array Bool} (hi : ops[i]? = some o) (hw : Region.wanted o (yielded ops a.tmps) = true)
    (hs : Region.noSelect ops = true) (hf : Region.free md ops listed i = true) (hr : (Region.ready md ops listed).contains i = true) (hS : S k)
    (hv : ∀ w (K : Result Next → Prop), K (.ok (.value v) w) → K ((execOp a.eval o).run P w)) (hl : ∀ w, (execOp a.eval o).events P w #[] = #[])
    (h : AnyK P main fn md ops Q S fuel (listed.setIfInBounds i true) (a.put o.dst v) k) : Wi i (AnyK P main fn md ops Q S (fuel + 1) listed a k) := takeK_pure hi hw hs hf hr hS hv hl h
theorem takeW_un {fuel : Nat} {listed : Array Bool} (hi : ops[i]? = some o) (hw : Region.wanted o (yielded ops a.tmps) = false)
    (hs : Region.noSelect ops = true) (hf : Region.free md ops listed i = true) (hr : (Region.ready md ops listed).contains i = true) (hS : S k)
    (h : AnyK P main fn md ops Q S fuel (listed.setIfInBounds i true) (a.put o.dst undef) k) : Wi i (AnyK P main fn md ops Q S (fuel + 1) listed a k) := takeK_un hi hw hs hf hr hS h
theorem takeW_nil {t ty : TypeId} {x : Operand} {p : Option Addr} {fuel : Nat} {listed : Array Bool} (hi : ops[i]? = some o) (hw : Region.wanted o (yielded ops a.tmps) = true)
    (hs : Region.noSelect ops = true) (hf : Region.free md ops listed i = true) (hr : (Region.ready md ops listed).contains i = true) (hS : S k)
    (hop : o.op = .binOp .eql t x (.const (.pointer none)) ty) (hx : a.eval x = .pointer p) (ht : isPtrD (P.underlying t) = true)
    (h : AnyK P main fn md ops Q S fuel (listed.setIfInBounds i true) (a.put o.dst (.bool p.isNone)) k) : Wi i (AnyK P main fn md ops Q S (fuel + 1) listed a k) := takeK_nil hi hw hs hf hr hS hop hx ht h
theorem takeW_load1 {t : TypeId} {x : Operand} {ad : Addr} {fuel : Nat} {listed : Array Bool} (hi : ops[i]? = some o) (hw : Region.wanted o (yielded ops a.tmps) = true)
    (hs : Region.noSelect ops = true) (hf : Region.free md ops listed i = true) (hr : (Region.ready md ops listed).contains i = true) (hS : S k)
    (hop : o.op = .load t x) (hx : a.eval x = .pointer (some ad)) (hag : ∀ w, (Go.isAgg t).run P w = .ok false w) (hc : ∀ k', S k' → k'.Has ad v)
    (h : AnyK P main fn md ops Q S fuel (listed.setIfInBounds i true) (a.put o.dst v) k) : Wi i (AnyK P main fn md ops Q S (fuel + 1) listed a k) := takeK_load1 hi hw hs hf hr hS hop hx hag hc h
end
theorem goF {p q : Prop} (r : q) (h : PLift q → p := by intro hq; (repeat (first | (apply wpK_region; simp only [List.size_toArray, List.length_cons, List.length_nil, Nat.reduceAdd, Nat.zero_add, List.range, List.range.loop]) | ((first | refine opsK_max rfl (by rfl) rfl rfl rfl ?_ | refine opsK_eqNil rfl (by rfl) rfl rfl (by kernel_rfl) ?_ | refine opsK_neNil rfl (by rfl) rfl rfl (by kernel_rfl) ?_); try simp only [Option.isNone_none, Option.isNone_some, Bool.not_true, Bool.not_false]; try walk_nrm) | (co_applyP opsK_pure_k rfl (by rfl) ?_ ?_ ?_; (focus (intro _ K hK; go_simp; exact hK)); (focus (first | (exact fun _ => ev_int rfl rfl rfl rfl) | (exact fun _ => ev_str rfl rfl rfl) | (exact fun _ => ev_build rfl) | (exact fun _ => ev_lenS rfl rfl) | (exact fun _ => ev_lenL rfl rfl) | (exact fun _ => ev_mkI rfl) | (intro _; simp [go_sem, *]; done))); try walk_nrm) | ((first | apply wpK_seq | apply wpK_block | apply wpK_skip | apply wpK_label | apply wpK_ret | apply wpK_exit | apply opsK_nil); try simp only [thenK, blockK, if_true, if_false, reduceIte, Nat.reduceEqDiff]) | (refine wpK_cond rfl ?_; simp only [if_true, if_false, reduceIte, Bool.false_eq_true]) | (refine opsK_unwanted rfl (by rfl) ?_; try walk_nrm))); exact hq.down) : p := h ⟨r⟩
theorem goI {p q : Prop} (r : q) (h : PLift q → p := by intro hq; (repeat (first | (apply wpK_region; simp only [List.size_toArray, List.length_cons, List.length_nil, Nat.reduceAdd, Nat.zero_add, List.range, List.range.loop]) | ((first | refine opsK_max rfl (by rfl) rfl rfl rfl ?_ | refine opsK_eqNil rfl (by rfl) rfl rfl (by kernel_rfl) ?_ | refine opsK_neNil rfl (by rfl) rfl rfl (by kernel_rfl) ?_); try simp only [Option.isNone_none, Option.isNone_some, Bool.not_true, Bool.not_false]; try walk_nrm) | (co_applyP opsK_pure_k rfl (by rfl) ?_ ?_ ?_; (focus (intro _ K hK; go_simp; exact hK)); (focus (first | (exact fun _ => ev_int rfl rfl rfl rfl) | (exact fun _ => ev_str rfl rfl rfl) | (exact fun _ => ev_build rfl) | (exact fun _ => ev_lenS rfl rfl) | (exact fun _ => ev_lenL rfl rfl) | (exact fun _ => ev_mkI rfl) | (intro _; simp [go_sem, *]; done))); try walk_nrm) | (co_applyP opsK_load1 rfl (by rfl) rfl rfl ?_ ?_ ?_; (focus (intro _; go_simp)); (focus exact .inl (by assumption)); try walk_nrm) | ((first | apply wpK_seq | apply wpK_block | apply wpK_skip | apply wpK_label | apply wpK_ret | apply wpK_exit | apply opsK_nil); try simp only [thenK, blockK, if_true, if_false, reduceIte, Nat.reduceEqDiff]) | (refine wpK_cond rfl ?_; simp only [if_true, if_false, reduceIte, Bool.false_eq_true]) | (refine opsK_unwanted rfl (by rfl) ?_; try walk_nrm))); exact hq.down) : p := h ⟨r⟩
theorem tkF {p q : Prop} (i : Nat) (r : q) (h : PLift q → Wi i p := by intro hq; ((first | (refine takeW_nil rfl (by rfl) (by kernel_rfl) (by kernel_rfl) (by kernel_rfl) (by first | assumption | exact Kn.Grow.refl _ | rfl) rfl rfl (by kernel_rfl) ?_; try simp only [Option.isNone_none, Option.isNone_some]; try walk_nrm) | (co_applyP takeW_pure rfl (by rfl) (by kernel_rfl) (by kernel_rfl) (by kernel_rfl) (by first | assumption | exact Kn.Grow.refl _ | rfl) ?_ ?_ ?_; (focus (intro _ K hK; go_simp; exact hK)); (focus (first | (exact fun _ => ev_int rfl rfl rfl rfl) | (exact fun _ => ev_str rfl rfl rfl) | (exact fun _ => ev_build rfl) | (exact fun _ => ev_lenS rfl rfl) | (exact fun _ => ev_lenL rfl rfl) | (exact fun _ => ev_mkI rfl) | (intro _; simp [go_sem, *]; done))); try walk_nrm) | (co_applyP takeW_load1 rfl (by rfl) (by kernel_rfl) (by kernel_rfl) (by kernel_rfl) (by first | assumption | exact Kn.Grow.refl _ | rfl) rfl rfl ?_ ?_ ?_; (focus (intro _; go_simp)); (focus fail); try walk_nrm) | (refine takeW_un rfl (by rfl) (by kernel_rfl) (by kernel_rfl) (by kernel_rfl) (by first | assumption | exact Kn.Grow.refl _ | rfl) ?_; try walk_nrm))); exact hq.down) : p := h ⟨r⟩
theorem tkI {p q : Prop} (i : Nat) (r : q) (h : PLift q → Wi i p := by intro hq; ((first | (refine takeW_nil rfl (by rfl) (by kernel_rfl) (by kernel_rfl) (by kernel_rfl) (by first | assumption | exact Kn.Grow.refl _ | rfl) rfl rfl (by kernel_rfl) ?_; try simp only [Option.isNone_none, Option.isNone_some]; try walk_nrm) | (co_applyP takeW_pure rfl (by rfl) (by kernel_rfl) (by kernel_rfl) (by kernel_rfl) (by first | assumption | exact Kn.Grow.refl _ | rfl) ?_ ?_ ?_; (focus (intro _ K hK; go_simp; exact hK)); (focus (first | (exact fun _ => ev_int rfl rfl rfl rfl) | (exact fun _ => ev_str rfl rfl rfl) | (exact fun _ => ev_build rfl) | (exact fun _ => ev_lenS rfl rfl) | (exact fun _ => ev_lenL rfl rfl) | (exact fun _ => ev_mkI rfl) | (intro _; simp [go_sem, *]; done))); try walk_nrm) | (co_applyP takeW_load1 rfl (by rfl) (by kernel_rfl) (by kernel_rfl) (by kernel_rfl) (by first | assumption | exact Kn.Grow.refl _ | rfl) rfl rfl ?_ ?_ ?_; (focus (intro _; go_simp)); (focus exact fun k' h => .inl (h.ro _ _ (by assumption))); try walk_nrm) | (refine takeW_un rfl (by rfl) (by kernel_rfl) (by kernel_rfl) (by kernel_rfl) (by first | assumption | exact Kn.Grow.refl _ | rfl) ?_; try walk_nrm))); exact hq.down) : p := h ⟨r⟩
theorem tkE {p q : Prop} (i : Nat) (r : q) (h : PLift q → Wi i p := by intro hq; ((first | (refine takeW_nil rfl (by rfl) (by kernel_rfl) (by kernel_rfl) (by kernel_rfl) (by first | assumption | exact Kn.Grow.refl _ | rfl) rfl rfl (by kernel_rfl) ?_; try simp only [Option.isNone_none, Option.isNone_some]; try walk_nrm) | (co_applyP takeW_pure rfl (by rfl) (by kernel_rfl) (by kernel_rfl) (by kernel_rfl) (by first | assumption | exact Kn.Grow.refl _ | rfl) ?_ ?_ ?_; (focus (intro _ K hK; go_simp; exact hK)); (focus (first | (exact fun _ => ev_int rfl rfl rfl rfl) | (exact fun _ => ev_str rfl rfl rfl) | (exact fun _ => ev_build rfl) | (exact fun _ => ev_lenS rfl rfl) | (exact fun _ => ev_lenL rfl rfl) | (exact fun _ => ev_mkI rfl) | (intro _; simp [go_sem, *]; done))); try walk_nrm) | (co_applyP takeW_load1 rfl (by rfl) (by kernel_rfl) (by kernel_rfl) (by kernel_rfl) (by first | assumption | exact Kn.Grow.refl _ | rfl) rfl rfl ?_ ?_ ?_; (focus (intro _; go_simp)); (focus rintro _ rfl; assumption); try walk_nrm) | (refine takeW_un rfl (by rfl) (by kernel_rfl) (by kernel_rfl) (by kernel_rfl) (by first | assumption | exact Kn.Grow.refl _ | rfl) ?_; try walk_nrm))); exact hq.down) : p := h ⟨r⟩

end Go.Proofs.Ytacfhfeegalmlaa

/- the persistent map, walked in company: a tree in memory; tall, count. -/
namespace Go.Proofs.Ytacfhfeegalmlaa
open Go.Conc
set_option linter.unusedVariables false
set_option linter.unusedSimpArgs false

/-- A tree of nodes that stand for ever. -/
def TrK (ro : Addr → Option Value) : Value → Tr → Prop
  | v, .lf => v = .pointer none
  | v, .nd l key val r h s => ∃ b pl pr, v = .pointer (some ⟨b, 0, none⟩) ∧ ro ⟨b, 0, none⟩ = some (.string key) ∧ ro ⟨b, 1, none⟩ = some (.int .i64 val) ∧ ro ⟨b, 2, none⟩ = some pl ∧ ro ⟨b, 3, none⟩ = some pr ∧
      ro ⟨b, 4, none⟩ = some (.int .i64 h) ∧ ro ⟨b, 5, none⟩ = some (.int .i64 s) ∧ TrK ro pl l ∧ TrK ro pr r
theorem TrK.mono {ro ro' : Addr → Option Value} (hm : ∀ a v, ro a = some v → ro' a = some v) : ∀ {t : Tr} {v : Value}, TrK ro v t → TrK ro' v t
  | .lf, _, h => h
  | .nd l key val r h s, _, ⟨b, pl, pr, e, h0, h1, h2, h3, h4, h5, hl, hr⟩ => ⟨b, pl, pr, e, hm _ _ h0, hm _ _ h1, hm _ _ h2, hm _ _ h3, hm _ _ h4, hm _ _ h5, TrK.mono hm hl, TrK.mono hm hr⟩

set_option maxRecDepth 100000 in
theorem tall_k {main : Who} (k : Kn) (p : Value) (t : Tr) (h : TrK k.ro p t) :
    CallsK Try.prog main 67 #[p] k fun v k' => v = .int .i64 t.ht ∧ k = k' := by
  (refine callsK_of Try.func67 (by first | rfl | kernel_rfl) rfl ?_; simp only [Try.ntmps67, List.size_toArray, List.length_cons, List.length_nil, Nat.reduceAdd, Nat.reduceSub, Array.replicate_succ, Array.replicate_zero, List.push_toArray, List.append_toArray, List.nil_append, List.cons_append])
  cases t with
  | lf =>
    obtain rfl := h
    refine goF ?_
    exact retK1 rfl rfl ⟨rfl, rfl⟩
  | nd l key val r h s =>
    obtain ⟨b, pl, pr, rfl, h0, h1, h2, h3, h4, h5, hl, hr⟩ := h
    refine goI ?_
    exact retK1 rfl rfl ⟨rfl, rfl⟩
set_option maxRecDepth 100000 in
theorem count_k {main : Who} (k : Kn) (p : Value) (t : Tr) (h : TrK k.ro p t) :
    CallsK Try.prog main 68 #[p] k fun v k' => v = .int .i64 t.sz ∧ k = k' := by
  (refine callsK_of Try.func68 (by first | rfl | kernel_rfl) rfl ?_; simp only [Try.ntmps68, List.size_toArray, List.length_cons, List.length_nil, Nat.reduceAdd, Nat.reduceSub, Array.replicate_succ, Array.replicate_zero, List.push_toArray, List.append_toArray, List.nil_append, List.cons_append])
  cases t with
  | lf =>
    obtain rfl := h
    refine goF ?_
    exact retK1 rfl rfl ⟨rfl, rfl⟩
  | nd l key val r h s =>
    obtain ⟨b, pl, pr, rfl, h0, h1, h2, h3, h4, h5, hl, hr⟩ := h
    refine goI ?_
    exact retK1 rfl rfl ⟨rfl, rfl⟩
end Go.Proofs.Ytacfhfeegalmlaa

/- the persistent map, walked in company: build. -/
namespace Go.Proofs.Ytacfhfeegalmlaa
open Go.Conc
set_option linter.unusedVariables false
set_option linter.unusedSimpArgs false

theorem TrK.ptr {ro : Addr → Option Value} {v : Value} {t : Tr} (h : TrK ro v t) : ∃ p, v = .pointer p := by
  cases t with
  | lf => exact ⟨none, h⟩
  | nd => obtain ⟨b, _, _, rfl, _⟩ := h; exact ⟨_, rfl⟩
theorem wr64 {x : Int} (h : -9223372036854775808 ≤ x) (h' : x ≤ 9223372036854775807) : IntKind.i64.wrap x = x := IntWalk.i64_in _ (by omega)
set_option maxRecDepth 100000 in
theorem build_k {main : Who} (k : Kn) (pl pr : Value) (l r : Tr) (key : ByteArray) (val : Int) (hl : TrK k.ro pl l) (hr : TrK k.ro pr r) (hs : l.sz + r.sz < 4611686018427387904) (ol : l.ht ≤ l.sz) (or : r.ht ≤ r.sz) :
    CallsK Try.prog main 57 #[pl, .string key, .int .i64 val, pr] k fun v k' => TrK k'.ro v (bld l key val r) ∧ k.Grow k' := by
  obtain ⟨pa, rfl⟩ := hl.ptr
  obtain ⟨pb, rfl⟩ := hr.ptr
  (refine callsK_of Try.func57 (by first | rfl | kernel_rfl) rfl ?_; simp only [Try.ntmps57, List.size_toArray, List.length_cons, List.length_nil, Nat.reduceAdd, Nat.reduceSub, Array.replicate_succ, Array.replicate_zero, List.push_toArray, List.append_toArray, List.nil_append, List.cons_append])
  refine goF ?_
  refine opsK_callv rfl (by rfl) rfl (by walk_nrm) (tall_k k _ l hl) ?_
  rintro _ _ ⟨rfl, rfl⟩
  walk_nrm
  refine goF ?_
  refine opsK_callv rfl (by rfl) rfl (by walk_nrm) (tall_k k _ r hr) ?_
  rintro _ _ ⟨rfl, rfl⟩
  walk_nrm
  refine goF ?_
  refine opsK_callv rfl (by rfl) rfl (by walk_nrm) (count_k k _ l hl) ?_
  rintro _ _ ⟨rfl, rfl⟩
  walk_nrm
  refine goF ?_
  refine opsK_callv rfl (by rfl) rfl (by walk_nrm) (count_k k _ r hr) ?_
  rintro _ _ ⟨rfl, rfl⟩
  walk_nrm
  refine goF ?_
  refine opsK_boxRo rfl (by rfl) rfl rfl ?_
  intro b hb
  walk_nrm
  refine goF ?_
  have e1 : IntKind.i64.wrap (1 + max (l.ht : Int) r.ht) = ((1 + max l.ht r.ht : Nat) : Int) := by rw [wr64 (by omega) (by omega)]; omega
  have e2 : IntKind.i64.wrap (IntKind.i64.wrap (1 + (l.sz : Int)) + r.sz) = ((1 + l.sz + r.sz : Nat) : Int) := by rw [wr64 (x := 1 + (l.sz : Int)) (by omega) (by omega), wr64 (by omega) (by omega)]; omega
  refine retK1 rfl rfl ⟨⟨b, .pointer pa, .pointer pb, rfl, ?_, ?_, ?_, ?_, ?_, ?_, hl.mono (hb.grow _).ro, hr.mono (hb.grow _).ro⟩, hb.grow _⟩
  all_goals (rw [Kn.lay_at]; first | rfl | (rw [e1]; rfl) | (rw [e2]; rfl) | (simp only [e1, e2]; rfl))
end Go.Proofs.Ytacfhfeegalmlaa
