/-
  Joined texts: Run, in company. · THE LAW, in company: the two boxes, the two runs, and what is compared.
-/
import Derived.Test.YtacfhfeegalmlaaWW11
import Derived.Laws.StructEq

/- Run, in company. -/
namespace Go.Proofs.Ytacfhfeegalmlaa
open Go.Conc
open Go.ConcR (KK wgBlock)
set_option linter.unusedVariables false
set_option linter.unusedSimpArgs false

section
variable {P : Program} {main : Who} {fn : FuncId} {Q : Exit → Act → Kn → Prop} {a : Act} {k : Kn} {ops : Array Oper} {i : Nat} {rest : List Nat} {o : Oper} {X : RunC} {q wg m b : Nat}
theorem opsK_share (hg : k.gh = .run X b) (hq : k.own q = some chanO) (hw : k.own wg = some (wgBlock main.wgT 0 0)) (hne : q ≠ wg) (h : OpsK P main fn ops rest Q a { k.minus q with gh := .par X q wg 0 0 b }) : OpsK P main fn ops rest Q a k :=
  fun b' kk cs Stop hbf hk hc => GK.share X q wg b hg hq hw hne (h b' kk cs Stop hbf hk hc)
theorem opsK_spawn {d : Deferred} {f : Fn} {c : Array Value} (ho : ops[i]? = some o) (hw : Region.wanted o (yielded ops a.tmps) = true) (hr : ∀ w, (execOp a.eval o).run P w = .ok (.spawn d) w) (he : ∀ w, (execOp a.eval o).events P w #[] = #[]) (hd : d.target = .fn f c)
    (hg : k.gh = .par X q wg m 0 (b + 1)) (hdf : k.deaf = 0) (hkid : main.Kid (k.child (.wk X q wg X.n .idle)) (born P d)) (h : OpsK P main fn ops rest Q (a.put o.dst undef) { k with gh := .par X q wg (m + 1) 0 b }) : OpsK P main fn ops (i :: rest) Q a k :=
  fun b' kk cs Stop hbf hk hc => GK.spawn X q wg m b hg hdf rfl (fun w _ => by rw [stepG_spawn ho hw hk (hr w) hd, listed_nil (he w)]) rfl hkid (h b' kk cs Stop hbf hk hc)
theorem opsK_sendQ {x y : Operand} {s : Nat} (ho : ops[i]? = some o) (hw : Region.wanted o (yielded ops a.tmps) = true) (hop : o.op = .send x y) (hx : a.eval x = .chan (some q)) (hy : a.eval y = .int .i64 s)
    (hg : k.gh = .par X q wg m s b) (hs : s < X.n) (hm : 0 < m) (hdf : k.deaf = 0) (h : OpsK P main fn ops rest Q (a.put o.dst undef) { k with gh := .par X q wg m (s + 1) b }) : OpsK P main fn ops (i :: rest) Q a k :=
  fun b' kk cs Stop hbf hk hc => by
    have he : ∀ w, (execOp a.eval o).events P w #[] = #[] := fun w => by
      unfold execOp
      simp only [hop]
      rfl
    refine GK.sendQ X q wg m s b (.tuple #[]) hg hs hm hdf rfl (fun w _ => ?_) ?_
    · rw [stepG_comm (cases := #[scase q (.int .i64 s) (.tuple #[])]) (blocking := true) (shape := .send) (w' := w) ho hw hk (by simp [execOp, hop, hx, hy, scase]), listed_nil (he w)]
    · rw [served_G, ho]
      exact h b' kk cs Stop hbf hk hc
theorem opsK_closeQ {x : Operand} {ats : Array TypeId} (ho : ops[i]? = some o) (hw : Region.wanted o (yielded ops a.tmps) = true) (hop : o.op = .call { callee := .builtin .close, args := #[x], argTypes := ats })
    (hx : a.eval x = .chan (some q)) (hq : (P.funcs[fn]?).any (·.norace) = false) (hg : k.gh = .par X q wg m X.n b) (hm : 0 < m) (hm2 : m < 2147483648) (hdf : k.deaf = 0) (hown : k.own wg = some (wgBlock main.wgT (m * KK) 0))
    (h : OpsK P main fn ops rest Q (a.put o.dst (.tuple #[])) { k.minus wg with live := some (wg, main.wgT), gh := .shut X q wg m m b }) : OpsK P main fn ops (i :: rest) Q a k :=
  fun b' kk cs Stop hbf hk hc => GK.closeQ X q wg m b hg hm hm2 hdf rfl (mayWake_op ho hop) hown (fun w s hs hch => stepG_close ho hw hk hop hx hch (by rw [hbf]; exact hq)) (h b' kk cs Stop hbf hk hc)
theorem opsK_min {x y : Operand} {ats : Array TypeId} {k1 k2 : IntKind} {u v : Int} (ho : ops[i]? = some o) (hw : Region.wanted o (yielded ops a.tmps) = true) (hop : o.op = .call { callee := .builtin .min, args := #[x, y], argTypes := ats })
    (hx : a.eval x = .int k1 u) (hy : a.eval y = .int k2 v) (h : OpsK P main fn ops rest Q (a.put o.dst (.int k1 (min u v))) k) : OpsK P main fn ops (i :: rest) Q a k := by
  have e : (if v < u then v else u) = min u v := by rw [Int.min_def]; split <;> split <;> omega
  refine opsK_pure ho hw (fun w => ?_) (fun w => listed_nil ?_) h
  · unfold execOp
    simp [hop, resolve, invoke, builtin, Builtin.min_, Builtin.min2, hx, hy, e]
  · unfold execOp
    simp [hop, resolve, invoke, builtin, Builtin.min_, Builtin.min2, hx, hy, e]
end
theorem made_row {main : Who} (k : Kn) (B jb joff jc n N : Nat) (W : Value) (hN : N = n + 1) (hn : n < 1000) (T : Array Value) (hT : T = #[.pointer (some ⟨B, 0, none⟩), .slice (some ⟨jb, joff, none⟩) n jc, W, (fun j => T.getD j undef) 3, (fun j => T.getD j undef) 4, (fun j => T.getD j undef) 5, .slice none 0 0, (fun j => T.getD j undef) 7, (fun j => T.getD j undef) 8, (fun j => T.getD j undef) 9, (fun j => T.getD j undef) 10, (fun j => T.getD j undef) 11, (fun j => T.getD j undef) 12, (fun j => T.getD j undef) 13, (fun j => T.getD j undef) 14, (fun j => T.getD j undef) 15, (fun j => T.getD j undef) 16, (fun j => T.getD j undef) 17, (fun j => T.getD j undef) 18, (fun j => T.getD j undef) 19, (fun j => T.getD j undef) 20, (fun j => T.getD j undef) 21, (fun j => T.getD j undef) 22, (fun j => T.getD j undef) 23, (fun j => T.getD j undef) 24, (fun j => T.getD j undef) 25, (fun j => T.getD j undef) 26, (fun j => T.getD j undef) 27, (fun j => T.getD j undef) 28, (fun j => T.getD j undef) 29, (fun j => T.getD j undef) 30, (fun j => T.getD j undef) 31, (fun j => T.getD j undef) 32, (fun j => T.getD j undef) 33, (fun j => T.getD j undef) 34, (fun j => T.getD j undef) 35, (fun j => T.getD j undef) 36, (fun j => T.getD j undef) 37, (fun j => T.getD j undef) 38, (fun j => T.getD j undef) 39, (fun j => T.getD j undef) 40, (fun j => T.getD j undef) 41, (fun j => T.getD j undef) 42, (fun j => T.getD j undef) 43, (fun j => T.getD j undef) 44, (fun j => T.getD j undef) 45, (fun j => T.getD j undef) 46, (fun j => T.getD j undef) 47, (fun j => T.getD j undef) 48, (fun j => T.getD j undef) 49, (fun j => T.getD j undef) 50, (fun j => T.getD j undef) 51, (fun j => T.getD j undef) 52, (fun j => T.getD j undef) 53, (fun j => T.getD j undef) 54, (fun j => T.getD j undef) 55, (fun j => T.getD j undef) 56, (fun j => T.getD j undef) 57, (fun j => T.getD j undef) 58, (fun j => T.getD j undef) 59, (fun j => T.getD j undef) 60, (fun j => T.getD j undef) 61, (fun j => T.getD j undef) 62, (fun j => T.getD j undef) 63, (fun j => T.getD j undef) 64, (fun j => T.getD j undef) 65, (fun j => T.getD j undef) 66, (fun j => T.getD j undef) 67, (fun j => T.getD j undef) 68, (fun j => T.getD j undef) 69, (fun j => T.getD j undef) 70, (fun j => T.getD j undef) 71, (fun j => T.getD j undef) 72, (fun j => T.getD j undef) 73, (fun j => T.getD j undef) 74, (fun j => T.getD j undef) 75, (fun j => T.getD j undef) 76]) :
    (Code.region 3 reg3 true).wpK Try.prog main 6 (fun e a' k' => e = .normal ∧ MadeA k B jb joff jc n N W a' k') ⟨T, []⟩ k := by
  obtain ⟨y, rfl⟩ : ∃ y : Nat → Value, T = #[.pointer (some ⟨B, 0, none⟩), .slice (some ⟨jb, joff, none⟩) n jc, W, y 3, y 4, y 5, .slice none 0 0, y 7, y 8, y 9, y 10, y 11, y 12, y 13, y 14, y 15, y 16, y 17, y 18, y 19, y 20, y 21, y 22, y 23, y 24, y 25, y 26, y 27, y 28, y 29, y 30, y 31, y 32, y 33, y 34, y 35, y 36, y 37, y 38, y 39, y 40, y 41, y 42, y 43, y 44, y 45, y 46, y 47, y 48, y 49, y 50, y 51, y 52, y 53, y 54, y 55, y 56, y 57, y 58, y 59, y 60, y 61, y 62, y 63, y 64, y 65, y 66, y 67, y 68, y 69, y 70, y 71, y 72, y 73, y 74, y 75, y 76] := ⟨fun j => T.getD j undef, hT⟩
  exact made_k k B jb joff jc n N W hN hn y
def isChanT (P : Program) (t : TypeId) : Bool := match P.underlying t with
  | some (.chan _ e) => (P.info? e).isSome
  | _ => false
theorem chanT {P : Program} {t : TypeId} (h : isChanT P t = true) : ∃ d e ti, P.underlying t = some (.chan d e) ∧ P.info? e = some ti := by
  unfold isChanT at h
  split at h
  · rename_i d e hd
    obtain ⟨ti, hti⟩ := Option.isSome_iff_exists.1 h
    exact ⟨d, e, ti, hd, hti⟩
  · cases h
theorem chan75 : ∃ d e ti, Try.prog.underlying 75 = some (.chan d e) ∧ Try.prog.info? e = some ti := chanT (by kernel_rfl)
theorem chan77 : ∃ d e ti, Try.prog.underlying 77 = some (.chan d e) ∧ Try.prog.info? e = some ti := chanT (by kernel_rfl)
/-- The channels of 'executed', as far as they are made. -/
structure LoopE (k2 : Kn) (bE N i : Nat) (ka : Kn) : Prop where
  ro : ka.ro = k2.ro
  oc : ka.oc = k2.oc
  deaf : ka.deaf = k2.deaf
  live : ka.live = k2.live
  gh : ka.gh = k2.gh
  own : ∀ x o, x ≠ bE → k2.own x = some o → ka.own x = some o
  ex : ∃ (ex : Nat → Nat) (c : Array Value), ka.own bE = some (.cells c 75) ∧ c.size = N ∧ (∀ j, j < i → c[j]? = some (.chan (some (ex j))) ∧ ka.own (ex j) = some chanO ∧ k2.own (ex j) = none) ∧ ∀ j j', j < i → j' < i → ex j = ex j' → j = j'
theorem LoopE.zero {k2 : Kn} {bE N : Nat} {c : Array Value} (h : k2.own bE = some (.cells c 75)) (hc : c.size = N) : LoopE k2 bE N 0 k2 :=
  ⟨rfl, rfl, rfl, rfl, rfl, fun _ _ _ h => h, fun _ => 0, c, h, hc, fun j hj => absurd hj (by omega), fun j _ hj => absurd hj (by omega)⟩
theorem LoopE.next {k2 ka : Kn} {bE N i b : Nat} (h : LoopE k2 bE N i ka) (hi : i < N) (hb : ka.New b) : ∃ c, (ka.set b chanO).own bE = some (.cells c 75) ∧ c.size = N ∧ LoopE k2 bE N (i + 1) ((ka.set b chanO).set bE (.cells (laidIn c i [.chan (some b)]) 75)) := by
  obtain ⟨ex, c, h1, h2, h3, h4⟩ := h.ex
  have nb : bE ≠ b := fun e => by have := hb.own; rw [← e, h1] at this; cases this
  have nx : ∀ j, j < i → ex j ≠ b := fun j hj e => by have := (h3 j hj).2.1; rw [e, hb.own] at this; cases this
  have nE : ∀ j, j < i → ex j ≠ bE := fun j hj e => by have := (h3 j hj).2.1; rw [e, h1] at this; cases this
  refine ⟨c, by rw [Kn.set_ne _ _ nb]; exact h1, h2, h.ro, h.oc, h.deaf, h.live, h.gh, fun x o hx hk => ?_, fun j => if j = i then b else ex j, _, Kn.set_same _ _ _, by simp [laidIn, h2], fun j hj => ?_, fun j j' hj hj' e => ?_⟩
  · have h5 := h.own x o hx hk
    rw [Kn.set_ne _ _ hx, Kn.set_ne _ _ (fun e => by rw [e, hb.own] at h5; cases h5)]
    exact h5
  · by_cases e : j = i
    · subst e
      simp only [if_true]
      refine ⟨by simp only [laidIn]; rw [Array.getElem?_setIfInBounds_self_of_lt (by omega)], ?_, ?_⟩
      · rw [Kn.set_ne _ _ (Ne.symm nb), Kn.set_same]
      · cases e : k2.own b with
        | none => rfl
        | some o => have := h.own b o (Ne.symm nb) e; rw [hb.own] at this; cases this
    · have hj' : j < i := by omega
      simp only [e, if_false]
      refine ⟨by simp only [laidIn]; rw [Array.getElem?_setIfInBounds_ne (Ne.symm e)]; exact (h3 j hj').1, ?_, (h3 j hj').2.2⟩
      rw [Kn.set_ne _ _ (nE j hj'), Kn.set_ne _ _ (nx j hj')]
      exact (h3 j hj').2.1
  · simp only at e
    by_cases e1 : j = i <;> by_cases e2 : j' = i <;> simp only [e1, e2, if_true, if_false] at e ⊢
    · exact absurd e.symm (nx j' (by omega))
    · exact absurd e (nx j (by omega))
    · exact h4 j j' (by omega) (by omega) e
/-- The call of Run. -/
def runX (n : Nat) (ex : Nat → Nat) (B ml bR bV bE br : Nat) (J : List JobT) (E : Ents) : RunC :=
  { n := n, ex := ex, blk := fun j => match j with | 0 => B | 1 => ml | 2 => bR | 3 => bV | 4 => bE | _ => br, jobs := J, ents := E }
/-- What stands ahead of finish(0). -/
structure Ready (X : RunC) (k k2 k5 : Kn) (b : Nat) : Prop where
  rec_ : RunR X k5.ro
  tok : TokM X 0 0 0 k5
  fin : FinG X 0 k5 (.run X b)
  deaf : k5.deaf = 0
  live : k5.live = none
  ro : ∀ a u, k2.ro a = some u → k5.ro a = some u
  own : ∀ x o, x ≠ X.B → x ≠ X.ml → k.own x = some o → k5.own x = some o ∧ ¬ X.Hd x
theorem setup {k k2 k3 : Kn} {B ml jb joff jc n N b bR bE bV br : Nat} {p : Value} {t : Tr} {J : List JobT} {E : Ents} {cR cV : Array Value} (hB : k.own B = some (.cells (boxC 0 p (.map (some ml))) 64)) (hL : LastK k ml (fun _ => none)) (hp : TrK k.ro p t) (ot : t.ok) (et : t.ents = E) (hE : Srt E) (hEn : E.length < 1099511627776)
    (hjobs : ∀ j Ji, J[j]? = some Ji → JobAt k.ro jb (joff + j * 3) Ji) (hfit : ∀ Ji ∈ J, Ji.1.length < 1099511627776 ∧ Ji.2.1.length < 1099511627776) (hJn : J.length = n) (hn : n < 1000) (hN : N = n + 1)
    (ro2 : ∀ a u, k.ro a = some u → k2.ro a = some u) (k02 : ∀ x o, k.own x = some o → k2.own x = some o) (nR : k.own bR = none) (nE : k.own bE = none) (nV : k.own bV = none) (oR : k2.own bR = some (.cells cR 38)) (sR : cR.size = n * 3) (oE : ∃ c, k2.own bE = some (.cells c 75)) (oV : k2.own bV = some (.cells cV 62)) (sV : cV.size = N * 2)
    (r0 : k2.ro ⟨br, 0, none⟩ = some (.pointer (some ⟨B, 0, none⟩))) (r1 : k2.ro ⟨br, 1, none⟩ = some (.slice (some ⟨jb, joff, none⟩) n jc)) (r2 : k2.ro ⟨br, 2, none⟩ = some (.slice (some ⟨bR, 0, none⟩) n n)) (r3 : k2.ro ⟨br, 3, none⟩ = some (.slice (some ⟨bE, 0, none⟩) N N)) (r4 : k2.ro ⟨br, 4, none⟩ = some (.slice (some ⟨bV, 0, none⟩) N N))
    (hd : k2.deaf = 0) (hl : k2.live = none) (hg : k2.gh = .lone b) (h3 : LoopE k2 bE N N k3) (hs : ∃ w, k3.Sat w) :
    ∃ (ex : Nat → Nat) (c : Array Value), k3.own bE = some (.cells c 75) ∧ (k3.stand bE c).own bV = some (.cells cV 62) ∧ ((∃ w, (k3.stand bE c).Sat w) → Ready (runX n ex B ml bR bV bE br J E) k k2 ((k3.stand bE c).part bV cV) b) := by
  obtain ⟨ex, c, e1, e2, e3, e4⟩ := h3.ex
  obtain ⟨c0, oE⟩ := oE
  have ne : ∀ x y (u v : Array Value) (s t : Nat), k2.own x = some (.cells u s) → k2.own y = some (.cells v t) → s ≠ t → x ≠ y := fun x y u v s t h1 h2 hn e => by
    rw [e, h2] at h1
    injection h1 with h1
    injection h1 with _ h1
    exact hn h1.symm
  have nVE : bV ≠ bE := ne _ _ _ _ _ _ oV oE (by decide)
  have nRE : bR ≠ bE := ne _ _ _ _ _ _ oR oE (by decide)
  have nRV : bR ≠ bV := ne _ _ _ _ _ _ oR oV (by decide)
  have hV3 : (k3.stand bE c).own bV = some (.cells cV 62) := (Kn.stand_own nVE).trans (h3.own _ _ nVE oV)
  refine ⟨ex, c, e1, hV3, fun hs4 => ?_⟩
  have own5 : ∀ x, x ≠ bE → x ≠ bV → ((k3.stand bE c).part bV cV).own x = k3.own x := fun x h1 h2 => by simp only [Kn.part, if_neg h2]; exact Kn.stand_own h1
  have ro5 : ∀ a u, k2.ro a = some u → ((k3.stand bE c).part bV cV).ro a = some u := fun a u h => by
    show (k3.stand bE c).ro a = some u
    exact Kn.stand_roK hs e1 (by rw [h3.ro]; exact h)
  have chs : ∀ j, j < N → ((k3.stand bE c).part bV cV).ro ⟨bE, j, none⟩ = some (.chan (some (ex j))) := fun j hj => Kn.stand_ro (e3 j hj).1
  have kown : ∀ x o, k.own x = some o → ((k3.stand bE c).part bV cV).own x = some o := fun x o h => by
    have h1 : x ≠ bE := fun e => by rw [e, nE] at h; cases h
    rw [own5 x h1 (fun e => by rw [e, nV] at h; cases h)]
    exact h3.own _ _ h1 (k02 _ _ h)
  have exk : ∀ j, j < N → k.own (ex j) = none := fun j hj => by
    cases e : k.own (ex j) with
    | none => rfl
    | some o => have := k02 _ _ e; rw [(e3 j hj).2.2] at this; cases this
  subst hN
  refine ⟨⟨ro5 _ _ r0, ⟨jb, joff, jc, ro5 _ _ r1, fun j Ji h => (hjobs j Ji h).mono fun a u h => ro5 _ _ (ro2 _ _ h)⟩, ro5 _ _ r2, ro5 _ _ r3, ro5 _ _ r4, fun j hj => chs j (by exact Nat.lt_succ_of_le hj), hJn, hn, hfit, hE, hEn⟩, ?_, ?_, h3.deaf.trans hd, h3.live.trans hl, ro5, fun x o h1 h2 h => ⟨kown x o h, ?_⟩⟩
  · refine ⟨⟨p, t, kown _ _ hB, hp.mono fun a u h => ro5 _ _ (ro2 _ _ h), ot, et⟩, hL.ext (kown _), ⟨cR, ?_, sR, fun i J h => absurd h (by omega)⟩, fun i h1 h2 => ?_⟩
    · show ((k3.stand bE c).part bV cV).own bR = _
      rw [own5 _ nRE nRV]
      exact h3.own _ _ nRE oR
    · have h2 : i ≤ n := h2
      have key : ∀ j, j < (n + 1) * 2 → ((k3.stand bE c).part bV cV).oc ⟨bV, j, none⟩ ≠ none := fun j hj => by
        simp only [Kn.part, and_self, if_true]
        rw [Array.getElem?_eq_getElem (by omega)]
        simp
      exact ⟨key _ (by omega), key _ (by omega)⟩
  · refine .main (h3.gh.trans hg) rfl (fun i hi => ?_) (fun i i' hi hi' e => e4 i i' (Nat.lt_succ_of_le hi) (Nat.lt_succ_of_le hi') e)
    have hi' : i < n + 1 := Nat.lt_succ_of_le hi
    show ((k3.stand bE c).part bV cV).own (ex i) = _
    have h5 := (e3 i hi').2.1
    rw [own5 _ (fun e => by rw [e, e1] at h5; cases h5) (fun e => by have := (e3 i hi').2.2; rw [e, oV] at this; cases this)]
    exact h5
  · rintro (e | e | e | ⟨i, hi, e⟩)
    · exact h1 e
    · exact h2 e
    · have e : x = bR := e
      rw [e, nR] at h
      cases h
    · have e : x = ex i := e
      rw [e, exk i (Nat.lt_succ_of_le hi)] at h
      cases h
/-- What Run knows while it starts its workers and hands out the jobs. -/
def parK (k : Kn) (X : RunC) (q wg m s b : Nat) : Kn := { k.set wg (wgBlock 84 ((m : Int) * KK) 0) with gh := .par X q wg m s b }
theorem parK_own (k : Kn) (X : RunC) (q wg m s b : Nat) : (parK k X q wg m s b).own wg = some (wgBlock 84 ((m : Int) * KK) 0) := Kn.set_same _ _ _
theorem parK_zero {k : Kn} {X : RunC} {q wg s b : Nat} (h : k.own wg = some (wgBlock 84 0 0)) : { k with gh := .par X q wg 0 s b } = parK k X q wg 0 s b := by
  unfold parK
  rw [Kn.set_id (by rw [h]; simp)]
theorem parK_next (k : Kn) (X : RunC) (q wg m s b b' : Nat) : { (parK k X q wg m s b).set wg (wgBlock 84 (((m + 1 : Nat) : Int) * KK) 0) with gh := .par X q wg (m + 1) s b' } = parK k X q wg (m + 1) s b' := by
  have e : (parK k X q wg m s b).set wg (wgBlock 84 (((m + 1 : Nat) : Int) * KK) 0) = { (k.set wg (wgBlock 84 ((m : Int) * KK) 0)).set wg (wgBlock 84 (((m + 1 : Nat) : Int) * KK) 0) with gh := .par X q wg m s b } := rfl
  rw [e, Kn.set_set]
  rfl
/-- What Run comes to. -/
structure RunTo (k : Kn) (B ml n b : Nat) (J : List JobT) (E : Ents) (v : Value) (k' : Kn) : Prop where
  res : ∃ RB c, v = .slice (some ⟨RB, 0, none⟩) n n ∧ k.own RB = none ∧ k'.own RB = some (.cells c 38) ∧ c.size = n * 3 ∧ ∀ i Ji, J[i]? = some Ji → ResAt k'.ro c i (resJ J E i Ji)
  box : ∃ p t, k'.own B = some (.cells (boxC (stJ J E n).num p (.map (some ml))) 64) ∧ TrK k'.ro p t ∧ t.ok ∧ t.ents = (stJ J E n).ents
  last : LastK k' ml (stJ J E n).last
  ro : ∀ a u, k.ro a = some u → k'.ro a = some u
  own : ∀ x o, x ≠ B → x ≠ ml → k.own x = some o → k'.own x = some o
  gh : k'.gh = .lone b
  deaf : k'.deaf = 0
  live : k'.live = none
theorem runTo_of {k k11 kt : Kn} {X : RunC} {B ml bR n b q wg mw s' : Nat} {tw : TypeId} {G : Gh} {J : List JobT} {E : Ents} (xB : X.B = B) (xml : X.ml = ml) (xR : X.RB = bR) (xn : X.n = n) (xJ : X.jobs = J) (xE : X.ents = E) (nR : k.own bR = none) (hJn : J.length = n) (hT : TokK X X.n kt)
    (hdj : Kn.Disj { (parK k11 X q wg mw s' b).minus wg with live := some (wg, tw), gh := G } kt) (k011 : ∀ a u, k.ro a = some u → k11.ro a = some u) (kk11 : ∀ x o, x ≠ B → x ≠ ml → k.own x = some o → k11.own x = some o ∧ x ≠ wg) (f3 : k11.deaf = 0) :
    RunTo k B ml n b J E (.slice (some ⟨bR, 0, none⟩) n n) { Kn.join { (parK k11 X q wg mw s' b).minus wg with live := some (wg, tw), gh := G } kt with live := none, gh := .lone b } := by
  generalize hk : ({ (parK k11 X q wg mw s' b).minus wg with live := some (wg, tw), gh := G } : Kn) = k12 at hdj
  have e12 : k12.ro = k11.ro := by rw [← hk]; rfl
  have d12 : k12.deaf = 0 := by rw [← hk]; exact f3
  have o12 : ∀ x o, x ≠ wg → k11.own x = some o → k12.own x = some o := fun x o h1 h => by
    rw [← hk]
    show ((parK k11 X q wg mw s' b).minus wg).own x = _
    simp only [Kn.minus, parK, if_neg h1]
    rw [Kn.set_ne _ _ h1]
    exact h
  have ot : ∀ x o, kt.own x = some o → (k12.own x).or (kt.own x) = some o := fun x o h => by
    cases e : k12.own x with
    | none => simpa using h
    | some u => have := hdj.oo x (by rw [e]; simp); rw [h] at this; cases this
  have rt : ∀ a u, kt.ro a = some u → (k12.ro a).or (kt.ro a) = some u := fun a u h => by
    cases e : k12.ro a with
    | none => simpa using h
    | some v => have := hdj.rr a v u e h; subst this; rfl
  obtain ⟨p, t, h1, h2, h3, h4⟩ := hT.box
  obtain ⟨c, g1, g2, g3⟩ := hT.res
  subst xB xml xR xn xJ xE
  exact ⟨⟨_, c, rfl, nR, ot _ _ g1, g2, fun i Ji h => (g3 i Ji (by rw [← hJn]; exact (List.getElem?_eq_some_iff.1 h).1) h).mono rt⟩, ⟨p, t, ot _ _ h1, h2.mono rt, h3, h4⟩, hT.last.ext (ot _), fun a u h => by show (k12.ro a).or (kt.ro a) = _; rw [e12, k011 _ _ h]; rfl,
    fun x o h1 h2 h => by show (k12.own x).or (kt.own x) = _; rw [o12 x o (kk11 x o h1 h2 h).2 (kk11 x o h1 h2 h).1]; rfl, rfl, d12, rfl⟩
set_option maxRecDepth 100000 in
set_option maxHeartbeats 8000000 in
theorem run_k {main : Who} (hO : main.Ours) (hKid : ∀ k g, KidK k g → main.Kid k g) (k : Kn) (B ml jb joff jc n b : Nat) (wn : Int) (p : Value) (t : Tr) (J : List JobT) (E : Ents) (mw : Nat) (hmw : (mw : Int) = min (max wn 1) n) (hn0 : 0 < n) (hn : n < 1000) (hJn : J.length = n)
    (hgh : k.gh = .lone (b + mw)) (hd : k.deaf = 0) (hl : k.live = none) (hB : k.own B = some (.cells (boxC 0 p (.map (some ml))) 64)) (hL : LastK k ml (fun _ => none)) (hp : TrK k.ro p t) (ot : t.ok) (et : t.ents = E) (hE : Srt E) (hEn : E.length < 1099511627776)
    (hjobs : ∀ j Ji, J[j]? = some Ji → JobAt k.ro jb (joff + j * 3) Ji) (hfit : ∀ Ji ∈ J, Ji.1.length < 1099511627776 ∧ Ji.2.1.length < 1099511627776) :
    CallsK Try.prog main 6 #[.pointer (some ⟨B, 0, none⟩), .slice (some ⟨jb, joff, none⟩) n jc, .int .i64 wn] k fun v k' => RunTo k B ml n b J E v k' := by
  (refine callsK_of Try.func6 (by first | rfl | kernel_rfl) rfl ?_; simp only [Try.ntmps6, List.size_toArray, List.length_cons, List.length_nil, Nat.reduceAdd, Nat.reduceSub, Array.replicate_succ, Array.replicate_zero, List.push_toArray, List.append_toArray, List.nil_append, List.cons_append])
  have d0 : ((n : Int) == 0) = false := by simp; omega
  refine goF ?_
  obtain ⟨N, hN⟩ : ∃ N, N = n + 1 := ⟨_, rfl⟩
  refine wpK_mid (M := fun a' k' => MadeA k B jb joff jc n N (.int .i64 wn) a' k') ?_ ?_
  · refine wpK_mono (made_row k B jb joff jc n N (.int .i64 wn) hN hn _ rfl) ?_
    rintro _ a' k' ⟨rfl, h⟩
    exact h
  rintro _ k1 ⟨bR, bE, bV, br, bv, hM, T', rfl, hT'⟩
  obtain ⟨y, rfl⟩ : ∃ y : Nat → Value, T' = #[.pointer (some ⟨B, 0, none⟩), .slice (some ⟨jb, joff, none⟩) n jc, .int .i64 wn, y 3, y 4, y 5, .slice none 0 0, .pointer (some ⟨bv, 0, none⟩), y 8, y 9, y 10, y 11, y 12, y 13, y 14, y 15, y 16, y 17, y 18, y 19, y 20, y 21, y 22, y 23, y 24, y 25, y 26, y 27, y 28, y 29, y 30, y 31, y 32, y 33, y 34, y 35, y 36, y 37, y 38, y 39, y 40, y 41, y 42, y 43, y 44, y 45, y 46, y 47, y 48, y 49, y 50, y 51, y 52, y 53, y 54, y 55, y 56, y 57, y 58, y 59, y 60, y 61, y 62, y 63, y 64, y 65, y 66, y 67, y 68, y 69, y 70, y 71, y 72, y 73, y 74, y 75, y 76] := ⟨fun j => T'.getD j undef, hT'⟩
  clear hT'
  -- the variable r and the record stand from now on
  refine wpK_sat fun hs1 => ?_
  refine wpK_turn (Kn.stand_turn hs1 hM.v) ?_
  refine wpK_sat fun hs2 => ?_
  have nrv : br ≠ bv := fun e => by have h1 := hM.r; rw [e, hM.v] at h1; cases h1
  have hr2 : (k1.stand bv #[.pointer (some ⟨br, 0, none⟩)]).own br = _ := (Kn.stand_own nrv).trans hM.r
  refine wpK_turn (Kn.stand_turn hs2 hr2) ?_
  have e2 : ∃ k2, k2 = (k1.stand bv #[.pointer (some ⟨br, 0, none⟩)]).stand br #[.pointer (some ⟨B, 0, none⟩), .slice (some ⟨jb, joff, none⟩) n jc, .slice (some ⟨bR, 0, none⟩) n n, .slice (some ⟨bE, 0, none⟩) N N, .slice (some ⟨bV, 0, none⟩) N N] := ⟨_, rfl⟩
  obtain ⟨k2, hk2⟩ := e2
  rw [← hk2]
  have ro2 : ∀ a u, k.ro a = some u → k2.ro a = some u := fun a u h => by rw [hk2]; exact Kn.stand_roK hs2 hr2 (Kn.stand_roK hs1 hM.v (hM.ext.ro _ _ h))
  have own2 : ∀ x, x ≠ bv → x ≠ br → k2.own x = k1.own x := fun x h1 h2 => by rw [hk2, Kn.stand_own h2, Kn.stand_own h1]
  have v0 : k2.ro ⟨bv, 0, none⟩ = some (.pointer (some ⟨br, 0, none⟩)) := by rw [hk2]; exact Kn.stand_roK hs2 hr2 (Kn.stand_ro rfl)
  have r0 : k2.ro ⟨br, 0, none⟩ = some (.pointer (some ⟨B, 0, none⟩)) := by rw [hk2]; exact Kn.stand_ro rfl
  have r1 : k2.ro ⟨br, 1, none⟩ = some (.slice (some ⟨jb, joff, none⟩) n jc) := by rw [hk2]; exact Kn.stand_ro rfl
  have r2 : k2.ro ⟨br, 2, none⟩ = some (.slice (some ⟨bR, 0, none⟩) n n) := by rw [hk2]; exact Kn.stand_ro rfl
  have r3 : k2.ro ⟨br, 3, none⟩ = some (.slice (some ⟨bE, 0, none⟩) N N) := by rw [hk2]; exact Kn.stand_ro rfl
  have r4 : k2.ro ⟨br, 4, none⟩ = some (.slice (some ⟨bV, 0, none⟩) N N) := by rw [hk2]; exact Kn.stand_ro rfl
  have st2 : k2.oc = k1.oc ∧ k2.deaf = k.deaf ∧ k2.live = k.live ∧ k2.gh = k.gh := by rw [hk2]; exact ⟨rfl, hM.ext.deaf, hM.ext.live, hM.ext.gh⟩
  clear hk2 hr2 hs2 hs1
  obtain ⟨cR, oR, sR⟩ := hM.R
  obtain ⟨cE, oE, sE⟩ := hM.E
  obtain ⟨cV, oV, sV⟩ := hM.V
  have ty : ∀ x c u, k1.own x = some (.cells c u) → u ≠ 70 → u ≠ 74 → x ≠ bv ∧ x ≠ br := fun x c u h h1 h2 => ⟨fun e => by rw [e, hM.v] at h; injection h with h; injection h with _ h; exact h1 h.symm, fun e => by rw [e, hM.r] at h; injection h with h; injection h with _ h; exact h2 h.symm⟩
  have oR2 := (own2 bR (ty _ _ _ oR (by decide) (by decide)).1 (ty _ _ _ oR (by decide) (by decide)).2).trans oR
  have oE2 := (own2 bE (ty _ _ _ oE (by decide) (by decide)).1 (ty _ _ _ oE (by decide) (by decide)).2).trans oE
  have oV2 := (own2 bV (ty _ _ _ oV (by decide) (by decide)).1 (ty _ _ _ oV (by decide) (by decide)).2).trans oV
  have k02 : ∀ x o, k.own x = some o → k2.own x = some o := fun x o h => by
    rw [own2 x (fun e => by rw [e, hM.nv] at h; cases h) (fun e => by rw [e, hM.nr] at h; cases h)]
    exact hM.ext.own _ _ h
  have hN1 : n < N := by omega
  have hN2 : N < n + 2 := by omega
  clear hN
  refine goI ?_
  refine wpK_midB (M := fun a' k' => LoopE k2 bE N N k' ∧ ∃ T' : Array Value, a' = ⟨T', []⟩ ∧ T' = #[.pointer (some ⟨B, 0, none⟩), .slice (some ⟨jb, joff, none⟩) n jc, .int .i64 wn, (fun j => T'.getD j undef) 3, (fun j => T'.getD j undef) 4, (fun j => T'.getD j undef) 5, .slice none 0 0, .pointer (some ⟨bv, 0, none⟩), (fun j => T'.getD j undef) 8, (fun j => T'.getD j undef) 9, (fun j => T'.getD j undef) 10, (fun j => T'.getD j undef) 11, (fun j => T'.getD j undef) 12, (fun j => T'.getD j undef) 13, (fun j => T'.getD j undef) 14, (fun j => T'.getD j undef) 15, (fun j => T'.getD j undef) 16, (fun j => T'.getD j undef) 17, (fun j => T'.getD j undef) 18, (fun j => T'.getD j undef) 19, (fun j => T'.getD j undef) 20, (fun j => T'.getD j undef) 21, (fun j => T'.getD j undef) 22, (fun j => T'.getD j undef) 23, (fun j => T'.getD j undef) 24, (fun j => T'.getD j undef) 25, (fun j => T'.getD j undef) 26, (fun j => T'.getD j undef) 27, (fun j => T'.getD j undef) 28, (fun j => T'.getD j undef) 29, (fun j => T'.getD j undef) 30, (fun j => T'.getD j undef) 31, (fun j => T'.getD j undef) 32, (fun j => T'.getD j undef) 33, (fun j => T'.getD j undef) 34, (fun j => T'.getD j undef) 35, (fun j => T'.getD j undef) 36, (fun j => T'.getD j undef) 37, (fun j => T'.getD j undef) 38, (fun j => T'.getD j undef) 39, (fun j => T'.getD j undef) 40, (fun j => T'.getD j undef) 41, (fun j => T'.getD j undef) 42, (fun j => T'.getD j undef) 43, (fun j => T'.getD j undef) 44, (fun j => T'.getD j undef) 45, (fun j => T'.getD j undef) 46, (fun j => T'.getD j undef) 47, (fun j => T'.getD j undef) 48, (fun j => T'.getD j undef) 49, (fun j => T'.getD j undef) 50, (fun j => T'.getD j undef) 51, (fun j => T'.getD j undef) 52, (fun j => T'.getD j undef) 53, (fun j => T'.getD j undef) 54, (fun j => T'.getD j undef) 55, (fun j => T'.getD j undef) 56, (fun j => T'.getD j undef) 57, (fun j => T'.getD j undef) 58, (fun j => T'.getD j undef) 59, (fun j => T'.getD j undef) 60, (fun j => T'.getD j undef) 61, (fun j => T'.getD j undef) 62, (fun j => T'.getD j undef) 63, (fun j => T'.getD j undef) 64, (fun j => T'.getD j undef) 65, (fun j => T'.getD j undef) 66, (fun j => T'.getD j undef) 67, (fun j => T'.getD j undef) 68, (fun j => T'.getD j undef) 69, (fun j => T'.getD j undef) 70, (fun j => T'.getD j undef) 71, (fun j => T'.getD j undef) 72, (fun j => T'.getD j undef) 73, (fun j => T'.getD j undef) 74, (fun j => T'.getD j undef) 75, (fun j => T'.getD j undef) 76]) ?_ ?_
  · refine wpK_loop (measure fun i => N - i).wf (I := fun i a' k' => i ≤ N ∧ LoopE k2 bE N i k' ∧ ∃ T' : Array Value, a' = ⟨T', []⟩ ∧ T' = #[.pointer (some ⟨B, 0, none⟩), .slice (some ⟨jb, joff, none⟩) n jc, .int .i64 wn, (fun j => T'.getD j undef) 3, (fun j => T'.getD j undef) 4, (fun j => T'.getD j undef) 5, .slice none 0 0, .pointer (some ⟨bv, 0, none⟩), (fun j => T'.getD j undef) 8, (fun j => T'.getD j undef) 9, (fun j => T'.getD j undef) 10, (fun j => T'.getD j undef) 11, (fun j => T'.getD j undef) 12, (fun j => T'.getD j undef) 13, (fun j => T'.getD j undef) 14, (fun j => T'.getD j undef) 15, (fun j => T'.getD j undef) 16, (fun j => T'.getD j undef) 17, (fun j => T'.getD j undef) 18, (fun j => T'.getD j undef) 19, (fun j => T'.getD j undef) 20, (fun j => T'.getD j undef) 21, (fun j => T'.getD j undef) 22, (fun j => T'.getD j undef) 23, (fun j => T'.getD j undef) 24, (fun j => T'.getD j undef) 25, (fun j => T'.getD j undef) 26, (fun j => T'.getD j undef) 27, (fun j => T'.getD j undef) 28, (fun j => T'.getD j undef) 29, (fun j => T'.getD j undef) 30, (fun j => T'.getD j undef) 31, (fun j => T'.getD j undef) 32, (fun j => T'.getD j undef) 33, (fun j => T'.getD j undef) 34, (fun j => T'.getD j undef) 35, (fun j => T'.getD j undef) 36, (fun j => T'.getD j undef) 37, .int .i64 N, .int .i64 i, (fun j => T'.getD j undef) 40, (fun j => T'.getD j undef) 41, (fun j => T'.getD j undef) 42, (fun j => T'.getD j undef) 43, (fun j => T'.getD j undef) 44, (fun j => T'.getD j undef) 45, (fun j => T'.getD j undef) 46, (fun j => T'.getD j undef) 47, (fun j => T'.getD j undef) 48, (fun j => T'.getD j undef) 49, (fun j => T'.getD j undef) 50, (fun j => T'.getD j undef) 51, (fun j => T'.getD j undef) 52, (fun j => T'.getD j undef) 53, (fun j => T'.getD j undef) 54, (fun j => T'.getD j undef) 55, (fun j => T'.getD j undef) 56, (fun j => T'.getD j undef) 57, (fun j => T'.getD j undef) 58, (fun j => T'.getD j undef) 59, (fun j => T'.getD j undef) 60, (fun j => T'.getD j undef) 61, (fun j => T'.getD j undef) 62, (fun j => T'.getD j undef) 63, (fun j => T'.getD j undef) 64, (fun j => T'.getD j undef) 65, (fun j => T'.getD j undef) 66, (fun j => T'.getD j undef) 67, (fun j => T'.getD j undef) 68, (fun j => T'.getD j undef) 69, (fun j => T'.getD j undef) 70, (fun j => T'.getD j undef) 71, (fun j => T'.getD j undef) 72, (fun j => T'.getD j undef) 73, (fun j => T'.getD j undef) 74, (fun j => T'.getD j undef) 75, (fun j => T'.getD j undef) 76]) (x := 0) ⟨Nat.zero_le _, LoopE.zero oE2 (by omega), _, rfl, rfl⟩ ?_
    rintro i _ ka ⟨hi, hL', T', rfl, hT'⟩
    obtain ⟨y, rfl⟩ : ∃ y : Nat → Value, T' = #[.pointer (some ⟨B, 0, none⟩), .slice (some ⟨jb, joff, none⟩) n jc, .int .i64 wn, y 3, y 4, y 5, .slice none 0 0, .pointer (some ⟨bv, 0, none⟩), y 8, y 9, y 10, y 11, y 12, y 13, y 14, y 15, y 16, y 17, y 18, y 19, y 20, y 21, y 22, y 23, y 24, y 25, y 26, y 27, y 28, y 29, y 30, y 31, y 32, y 33, y 34, y 35, y 36, y 37, .int .i64 N, .int .i64 i, y 40, y 41, y 42, y 43, y 44, y 45, y 46, y 47, y 48, y 49, y 50, y 51, y 52, y 53, y 54, y 55, y 56, y 57, y 58, y 59, y 60, y 61, y 62, y 63, y 64, y 65, y 66, y 67, y 68, y 69, y 70, y 71, y 72, y 73, y 74, y 75, y 76] := ⟨fun j => T'.getD j undef, hT'⟩
    clear hT'
    by_cases hlt : i < N
    · have d1 : decide ((i : Int) < (N : Int)) = true := by simp; omega
      have w1 : IntKind.i64.wrap ((i : Int) + 1) = ((i + 1 : Nat) : Int) := by rw [wr64 (by omega) (by omega)]; rfl
      have v0' : ka.ro ⟨bv, 0, none⟩ = _ := (congrFun hL'.ro _).trans v0
      have r3' : ka.ro ⟨br, 3, none⟩ = _ := (congrFun hL'.ro _).trans r3
      refine goF ?_
      have sK := Kn.RoLe.refl ka
      (refine wpK_region_held (fun k' => ka.RoLe k') (by kernel_rfl) ?_; simp only [List.size_toArray, List.length_cons, List.length_nil, Nat.reduceAdd, Nat.zero_add])
      refine tkI 0 ?_
      refine tkI 1 ?_
      refine tkI 2 ?_
      refine tkI 3 ?_
      refine tkI 4 ?_
      obtain ⟨cd, ce, cti, ct1, ct2⟩ := chan75
      refine anyK_trip 5 (by kernel_rfl) rfl (by rfl) (exec_makeChan rfl rfl ct1 ct2 fun b hb => ?_)
      obtain ⟨c, hc1, hc2, hc3⟩ := hL'.next hlt hb
      have sK2 : ka.RoLe (ka.set b chanO) := ⟨fun a u h => h⟩
      refine ⟨sK2, ?_⟩
      walk_nrm
      refine tkF 6 ?_
      refine anyK_trip 7 (by kernel_rfl) rfl (by rfl) (exec_storeL (ad := ⟨bE, i, none⟩) (te := 75) (c := c) (vs := [.chan (some b)]) rfl rfl rfl rfl (fun w => by kernel_rfl) hc1 (Nat.ble_eq_true_of_le (by show i + 1 ≤ c.size; omega)) rfl rfl ?_)
      refine ⟨⟨fun a u h => h⟩, ?_⟩
      walk_nrm
      (refine anyK_done (by kernel_rfl) ?_ _; simp only [thenK, blockK, if_true, if_false, reduceIte, Nat.reduceEqDiff])
      refine goF ?_
      refine ⟨i + 1, ?_, by omega, hc3, _, rfl, rfl⟩
      simp [WellFoundedRelation.rel, measure, invImage, InvImage]; omega
    · have d1 : decide ((i : Int) < (N : Int)) = false := by simp; omega
      obtain rfl : i = N := by omega
      refine goF ?_
      exact ⟨hL', _, rfl, rfl⟩
  rintro _ k3 ⟨hE3, T', rfl, hT'⟩
  obtain ⟨y, rfl⟩ : ∃ y : Nat → Value, T' = #[.pointer (some ⟨B, 0, none⟩), .slice (some ⟨jb, joff, none⟩) n jc, .int .i64 wn, y 3, y 4, y 5, .slice none 0 0, .pointer (some ⟨bv, 0, none⟩), y 8, y 9, y 10, y 11, y 12, y 13, y 14, y 15, y 16, y 17, y 18, y 19, y 20, y 21, y 22, y 23, y 24, y 25, y 26, y 27, y 28, y 29, y 30, y 31, y 32, y 33, y 34, y 35, y 36, y 37, y 38, y 39, y 40, y 41, y 42, y 43, y 44, y 45, y 46, y 47, y 48, y 49, y 50, y 51, y 52, y 53, y 54, y 55, y 56, y 57, y 58, y 59, y 60, y 61, y 62, y 63, y 64, y 65, y 66, y 67, y 68, y 69, y 70, y 71, y 72, y 73, y 74, y 75, y 76] := ⟨fun j => T'.getD j undef, hT'⟩
  clear hT'
  refine wpK_sat fun hs3 => ?_
  obtain ⟨ex, cE', eE, eV, hRdy⟩ := setup hB hL hp ot et hE hEn hjobs hfit hJn hn (show N = n + 1 by omega) ro2 k02 hM.nR hM.nE hM.nV oR2 sR ⟨_, oE2⟩ oV2 sV r0 r1 r2 r3 r4 (st2.2.1.trans hd) (st2.2.2.1.trans hl) (st2.2.2.2.trans hgh) hE3 hs3
  refine wpK_turn (Kn.stand_turn hs3 eE) ?_
  refine wpK_sat fun hs4 => ?_
  have hRdy := hRdy hs4
  refine wpK_turn (Kn.part_turn hs4 eV) ?_
  generalize ((k3.stand bE cE').part bV cV) = k5 at hRdy
  have v5 := hRdy.ro _ _ v0
  obtain ⟨X, hX⟩ : ∃ X, X = runX n ex B ml bR bV bE br J E := ⟨_, rfl⟩
  rw [← hX] at hRdy
  have hfin := finish_k (main := main) hO k5 X 0 _ hRdy.rec_ (Nat.zero_le _) hRdy.tok hRdy.fin hRdy.deaf
  have xB : X.B = B := by rw [hX]; rfl
  have xml : X.ml = ml := by rw [hX]; rfl
  have xR : X.RB = bR := by rw [hX]; rfl
  have xr : X.r = br := by rw [hX]; rfl
  have xn : X.n = n := by rw [hX]; rfl
  have xJ : X.jobs = J := by rw [hX]; rfl
  have xE : X.ents = E := by rw [hX]; rfl
  clear hX
  rw [xr] at hfin
  have nR := hM.nR
  have hX5 := hRdy.rec_
  have l5 := hRdy.live
  have k05 : ∀ a u, k.ro a = some u → k5.ro a = some u := fun a u h => hRdy.ro _ _ (ro2 _ _ h)
  have kk5 : ∀ x o, x ≠ B → x ≠ ml → k.own x = some o → k5.own x = some o ∧ ¬ X.Hd x := by rw [← xB, ← xml]; exact hRdy.own
  clear hRdy hs3 hs4 hE3 eE eV oE2 oV2 oR2 oR oE oV r0 r1 r2 r3 r4 v0 st2 own2 ro2 k02 hM ty nrv sR sE sV
  repeat (first | (apply wpK_region; simp only [List.size_toArray, List.length_cons, List.length_nil, Nat.reduceAdd, Nat.zero_add, List.range, List.range.loop]) | ((first | refine opsK_max rfl (by rfl) rfl rfl rfl ?_ | refine opsK_eqNil rfl (by rfl) rfl rfl (by kernel_rfl) ?_ | refine opsK_neNil rfl (by rfl) rfl rfl (by kernel_rfl) ?_); try simp only [Option.isNone_none, Option.isNone_some, Bool.not_true, Bool.not_false]; try walk_nrm) | (co_applyP opsK_pure_k rfl (by rfl) ?_ ?_ ?_; (focus (intro _ K hK; go_simp; exact hK)); (focus (first | (exact fun _ => ev_int rfl rfl rfl rfl) | (exact fun _ => ev_str rfl rfl rfl) | (exact fun _ => ev_build rfl) | (exact fun _ => ev_lenS rfl rfl) | (exact fun _ => ev_lenL rfl rfl) | (exact fun _ => ev_mkI rfl) | (intro _; simp [go_sem, *]; done))); try walk_nrm) | (co_applyP opsK_load1 rfl (by rfl) rfl rfl ?_ ?_ ?_; (focus (intro _; go_simp)); (focus (exact .inl v5)); try walk_nrm) | ((first | apply wpK_seq | apply wpK_block | apply wpK_skip | apply wpK_label | apply wpK_ret | apply wpK_exit | apply opsK_nil); try simp only [thenK, blockK, if_true, if_false, reduceIte, Nat.reduceEqDiff]) | (refine wpK_cond rfl ?_; simp only [if_true, if_false, reduceIte, Bool.false_eq_true]) | (refine opsK_unwanted rfl (by rfl) ?_; try walk_nrm))
  refine opsK_callv rfl (by rfl) rfl (by first | (walk_nrm; done) | (walk_nrm; rfl)) (hfin) ?_
  rintro _ k6 ⟨ro6, own6, oc6, d6, l6, g6⟩
  have v6 := ro6 _ _ v5
  have hX6 := hX5.mono ro6
  have k06 : ∀ a u, k.ro a = some u → k6.ro a = some u := fun a u h => ro6 _ _ (k05 _ _ h)
  have kk6 : ∀ x o, x ≠ B → x ≠ ml → k.own x = some o → k6.own x = some o := fun x o h1 h2 h => own6 _ _ (kk5 x o h1 h2 h).2 (kk5 x o h1 h2 h).1
  have l6' := l6.trans l5
  clear hfin own6 ro6 v5 hX5 k05 kk5 l6 l5
  walk_nrm
  refine goF ?_
  obtain ⟨cd, ce, cti, ct1, ct2⟩ := chan77
  refine opsK_makeChan rfl (by rfl) rfl rfl ct1 ct2 ?_
  (intro b7 hb7; refine hb7.pack (M := fun k1 => OpsK _ _ _ _ _ _ _ k1) _ ?_; intro k7 x7 o7 n7; try simp only [Value.cells] at o7); walk_nrm
  refine goF ?_
  refine opsK_alloc (z := .chan none) rfl (by rfl) rfl (fun w => by kernel_rfl) ?_
  (intro b8 hb8; refine hb8.pack (M := fun k1 => OpsK _ _ _ _ _ _ _ k1) _ ?_; intro k8 x8 o8 n8; try simp only [Value.cells] at o8); walk_nrm
  refine opsK_storeL (c' := #[.chan (some b7)]) rfl (by rfl) rfl rfl rfl rfl (fun w => by kernel_rfl) o8 rfl rfl rfl ?_
  walk_nrm
  have y9 : (k8.set b8 (.cells #[.chan (some b7)] 77)).own b8 = some (.cells #[.chan (some b7)] 77) := Kn.set_same _ _ _
  have x9 : k7.Ext (k8.set b8 (.cells #[.chan (some b7)] 77)) := x8.set_new n8 _
  generalize k8.set b8 (.cells #[.chan (some b7)] 77) = k9 at x9 y9
  have o9 := x9.own _ _ o7
  refine goF ?_
  refine opsK_alloc (z := .agg #[.int .u64 0, .int .u32 0]) rfl (by rfl) rfl (fun w => by kernel_rfl) ?_
  (intro b10 hb10; refine hb10.pack (M := fun k1 => OpsK _ _ _ _ _ _ _ k1) _ ?_; intro k10 x10 o10 n10; try simp only [Value.cells] at o10); walk_nrm
  have o107 := x10.own _ _ o9
  have o108 := x10.own _ _ y9
  refine opsK_sat fun hs => ?_
  refine opsK_turn (Kn.stand_turn hs o108) ?_
  have n78 : b7 ≠ b8 := fun e => by rw [← e, o7] at n8; cases n8
  have n810 : b8 ≠ b10 := fun e => by rw [← e, y9] at n10; cases n10
  have n710 : b7 ≠ b10 := fun e => by rw [← e, o9] at n10; cases n10
  refine opsK_share (main := main) (X := X) (q := b7) (wg := b10) (b := b + mw) (x10.gh.trans (x9.gh.trans (x7.gh.trans g6))) ((Kn.stand_own n78).trans o107) ((Kn.stand_own (Ne.symm n810)).trans (by rw [hO.wg]; exact o10)) n710 ?_
  have up : ∀ a u, k6.ro a = some u → (k10.stand b8 #[.chan (some b7)]).ro a = some u := fun a u h => Kn.stand_roK hs o108 (x10.ro _ _ (x9.ro _ _ (x7.ro _ _ h)))
  have uk : ∀ x o, k6.own x = some o → ((k10.stand b8 #[.chan (some b7)]).minus b7).own x = some o ∧ x ≠ b10 := fun x o h => by
    have h7 := x7.own _ _ h
    have h9 := x9.own _ _ h7
    have h10 := x10.own _ _ h9
    have e7 : x ≠ b7 := fun e => by rw [e, n7] at h; cases h
    have e8 : x ≠ b8 := fun e => by rw [e, n8] at h7; cases h7
    exact ⟨by simp only [Kn.minus, if_neg e7]; exact (Kn.stand_own e8).trans h10, fun e => by rw [e, n10] at h9; cases h9⟩
  have f1 : ((k10.stand b8 #[.chan (some b7)]).minus b7).ro ⟨b8, 0, none⟩ = some (.chan (some b7)) := Kn.stand_ro rfl
  have f2 : ((k10.stand b8 #[.chan (some b7)]).minus b7).own b10 = some (wgBlock 84 0 0) := by simp only [Kn.minus, if_neg (Ne.symm n710)]; exact (Kn.stand_own (Ne.symm n810)).trans o10
  have f3 : ((k10.stand b8 #[.chan (some b7)]).minus b7).deaf = 0 := x10.deaf.trans (x9.deaf.trans (x7.deaf.trans d6))
  have f4 : ((k10.stand b8 #[.chan (some b7)]).minus b7).live = none := x10.live.trans (x9.live.trans (x7.live.trans l6'))
  have up : ∀ a u, k6.ro a = some u → ((k10.stand b8 #[.chan (some b7)]).minus b7).ro a = some u := up
  generalize hk11 : (k10.stand b8 #[.chan (some b7)]).minus b7 = k11 at up uk f1 f2 f3 f4
  clear hk11 hs x10 x9 x7 o7 o8 o9 o10 o107 o108 y9 n7 n8 n10 n78 n810 n710
  have hX11 := hX6.mono up
  have v11 := up _ _ v6
  have k011 : ∀ a u, k.ro a = some u → k11.ro a = some u := fun a u h => up _ _ (k06 _ _ h)
  have kk11 : ∀ x o, x ≠ B → x ≠ ml → k.own x = some o → k11.own x = some o ∧ x ≠ b10 := fun x o h1 h2 h => uk _ _ (kk6 x o h1 h2 h)
  clear up uk hX6 v6 k06 kk6 oc6 d6 g6 l6'
  have hmw1 : 0 < mw := by omega
  have hmw2 : mw < 1000 := by omega
  refine goF ?_
  refine opsK_min rfl (by rfl) rfl rfl rfl ?_
  rw [← hmw]
  clear hmw
  walk_nrm
  refine goF ?_
  refine wpK_midB (M := fun a' k' => k' = parK k11 X b7 b10 mw 0 b ∧ ∃ T' : Array Value, a' = ⟨T', []⟩ ∧ T' = #[(fun j => T'.getD j undef) 0, .slice (some ⟨jb, joff, none⟩) n jc, (fun j => T'.getD j undef) 2, (fun j => T'.getD j undef) 3, (fun j => T'.getD j undef) 4, (fun j => T'.getD j undef) 5, .slice none 0 0, .pointer (some ⟨bv, 0, none⟩), (fun j => T'.getD j undef) 8, .pointer (some ⟨b8, 0, none⟩), .pointer (some ⟨b10, 0, none⟩), (fun j => T'.getD j undef) 11, (fun j => T'.getD j undef) 12, (fun j => T'.getD j undef) 13, (fun j => T'.getD j undef) 14, (fun j => T'.getD j undef) 15, (fun j => T'.getD j undef) 16, (fun j => T'.getD j undef) 17, (fun j => T'.getD j undef) 18, (fun j => T'.getD j undef) 19, (fun j => T'.getD j undef) 20, (fun j => T'.getD j undef) 21, (fun j => T'.getD j undef) 22, (fun j => T'.getD j undef) 23, (fun j => T'.getD j undef) 24, (fun j => T'.getD j undef) 25, (fun j => T'.getD j undef) 26, (fun j => T'.getD j undef) 27, (fun j => T'.getD j undef) 28, (fun j => T'.getD j undef) 29, (fun j => T'.getD j undef) 30, (fun j => T'.getD j undef) 31, (fun j => T'.getD j undef) 32, (fun j => T'.getD j undef) 33, (fun j => T'.getD j undef) 34, (fun j => T'.getD j undef) 35, (fun j => T'.getD j undef) 36, (fun j => T'.getD j undef) 37, (fun j => T'.getD j undef) 38, (fun j => T'.getD j undef) 39, (fun j => T'.getD j undef) 40, (fun j => T'.getD j undef) 41, (fun j => T'.getD j undef) 42, (fun j => T'.getD j undef) 43, (fun j => T'.getD j undef) 44, (fun j => T'.getD j undef) 45, (fun j => T'.getD j undef) 46, (fun j => T'.getD j undef) 47, (fun j => T'.getD j undef) 48, (fun j => T'.getD j undef) 49, (fun j => T'.getD j undef) 50, (fun j => T'.getD j undef) 51, (fun j => T'.getD j undef) 52, (fun j => T'.getD j undef) 53, (fun j => T'.getD j undef) 54, (fun j => T'.getD j undef) 55, (fun j => T'.getD j undef) 56, (fun j => T'.getD j undef) 57, (fun j => T'.getD j undef) 58, (fun j => T'.getD j undef) 59, (fun j => T'.getD j undef) 60, (fun j => T'.getD j undef) 61, (fun j => T'.getD j undef) 62, (fun j => T'.getD j undef) 63, (fun j => T'.getD j undef) 64, (fun j => T'.getD j undef) 65, (fun j => T'.getD j undef) 66, (fun j => T'.getD j undef) 67, (fun j => T'.getD j undef) 68, (fun j => T'.getD j undef) 69, (fun j => T'.getD j undef) 70, (fun j => T'.getD j undef) 71, (fun j => T'.getD j undef) 72, (fun j => T'.getD j undef) 73, (fun j => T'.getD j undef) 74, (fun j => T'.getD j undef) 75, (fun j => T'.getD j undef) 76]) ?_ ?_
  · refine wpK_loop (measure fun i => mw - i).wf (I := fun i a' k' => i ≤ mw ∧ k' = parK k11 X b7 b10 i 0 (b + (mw - i)) ∧ ∃ T' : Array Value, a' = ⟨T', []⟩ ∧ T' = #[(fun j => T'.getD j undef) 0, .slice (some ⟨jb, joff, none⟩) n jc, (fun j => T'.getD j undef) 2, (fun j => T'.getD j undef) 3, (fun j => T'.getD j undef) 4, (fun j => T'.getD j undef) 5, .slice none 0 0, .pointer (some ⟨bv, 0, none⟩), (fun j => T'.getD j undef) 8, .pointer (some ⟨b8, 0, none⟩), .pointer (some ⟨b10, 0, none⟩), (fun j => T'.getD j undef) 11, (fun j => T'.getD j undef) 12, (fun j => T'.getD j undef) 13, (fun j => T'.getD j undef) 14, (fun j => T'.getD j undef) 15, (fun j => T'.getD j undef) 16, (fun j => T'.getD j undef) 17, (fun j => T'.getD j undef) 18, (fun j => T'.getD j undef) 19, (fun j => T'.getD j undef) 20, (fun j => T'.getD j undef) 21, (fun j => T'.getD j undef) 22, (fun j => T'.getD j undef) 23, (fun j => T'.getD j undef) 24, (fun j => T'.getD j undef) 25, (fun j => T'.getD j undef) 26, (fun j => T'.getD j undef) 27, (fun j => T'.getD j undef) 28, (fun j => T'.getD j undef) 29, (fun j => T'.getD j undef) 30, (fun j => T'.getD j undef) 31, (fun j => T'.getD j undef) 32, (fun j => T'.getD j undef) 33, (fun j => T'.getD j undef) 34, (fun j => T'.getD j undef) 35, (fun j => T'.getD j undef) 36, (fun j => T'.getD j undef) 37, (fun j => T'.getD j undef) 38, (fun j => T'.getD j undef) 39, (fun j => T'.getD j undef) 40, (fun j => T'.getD j undef) 41, (fun j => T'.getD j undef) 42, (fun j => T'.getD j undef) 43, (fun j => T'.getD j undef) 44, (fun j => T'.getD j undef) 45, (fun j => T'.getD j undef) 46, (fun j => T'.getD j undef) 47, (fun j => T'.getD j undef) 48, (fun j => T'.getD j undef) 49, (fun j => T'.getD j undef) 50, (fun j => T'.getD j undef) 51, (fun j => T'.getD j undef) 52, (fun j => T'.getD j undef) 53, (fun j => T'.getD j undef) 54, (fun j => T'.getD j undef) 55, (fun j => T'.getD j undef) 56, .int .i64 mw, .int .i64 i, (fun j => T'.getD j undef) 59, (fun j => T'.getD j undef) 60, (fun j => T'.getD j undef) 61, (fun j => T'.getD j undef) 62, (fun j => T'.getD j undef) 63, (fun j => T'.getD j undef) 64, (fun j => T'.getD j undef) 65, (fun j => T'.getD j undef) 66, (fun j => T'.getD j undef) 67, (fun j => T'.getD j undef) 68, (fun j => T'.getD j undef) 69, (fun j => T'.getD j undef) 70, (fun j => T'.getD j undef) 71, (fun j => T'.getD j undef) 72, (fun j => T'.getD j undef) 73, (fun j => T'.getD j undef) 74, (fun j => T'.getD j undef) 75, (fun j => T'.getD j undef) 76]) (x := 0) ⟨Nat.zero_le _, parK_zero f2, _, rfl, rfl⟩ ?_
    rintro i _ _ ⟨hi, rfl, T', rfl, hT'⟩
    obtain ⟨y, rfl⟩ : ∃ y : Nat → Value, T' = #[y 0, .slice (some ⟨jb, joff, none⟩) n jc, y 2, y 3, y 4, y 5, .slice none 0 0, .pointer (some ⟨bv, 0, none⟩), y 8, .pointer (some ⟨b8, 0, none⟩), .pointer (some ⟨b10, 0, none⟩), y 11, y 12, y 13, y 14, y 15, y 16, y 17, y 18, y 19, y 20, y 21, y 22, y 23, y 24, y 25, y 26, y 27, y 28, y 29, y 30, y 31, y 32, y 33, y 34, y 35, y 36, y 37, y 38, y 39, y 40, y 41, y 42, y 43, y 44, y 45, y 46, y 47, y 48, y 49, y 50, y 51, y 52, y 53, y 54, y 55, y 56, .int .i64 mw, .int .i64 i, y 59, y 60, y 61, y 62, y 63, y 64, y 65, y 66, y 67, y 68, y 69, y 70, y 71, y 72, y 73, y 74, y 75, y 76] := ⟨fun j => T'.getD j undef, hT'⟩
    clear hT'
    by_cases hlt : i < mw
    · have d1 : decide ((i : Int) < (mw : Int)) = true := by simp; omega
      have w1 : IntKind.i64.wrap ((i : Int) + 1) = ((i + 1 : Nat) : Int) := by rw [wr64 (by omega) (by omega)]; rfl
      obtain ⟨r, hr⟩ : ∃ r, mw - i = r + 1 := ⟨mw - i - 1, by omega⟩
      have hr' : mw - (i + 1) = r := by omega
      rw [hr]
      refine goF ?_
      refine opsK_callv rfl (by rfl) rfl (by first | (walk_nrm; done) | (walk_nrm; rfl)) (wgadd_k (parK k11 X b7 b10 i 0 (b + (r + 1))) b10 i (by omega) (parK_own _ _ _ _ _ _ _)) ?_
      rintro _ _ rfl
      walk_nrm
      refine goF ?_
      refine opsK_spawn (X := X) (q := b7) (wg := b10) (m := i) (b := b + r) (d := call20 b10 b8 bv) (f := .func 20) rfl (by rfl) (fun w => by kernel_rfl) (fun w => by kernel_rfl) rfl rfl f3 ?_ ?_
      · refine hKid _ _ ⟨X, b7, b10, b8, bv, X.n, rfl, rfl, hX11, f1, ?_, rfl⟩
        rw [xr]
        exact v11
      rw [parK_next]
      walk_nrm
      refine goF ?_
      refine ⟨i + 1, ?_, by omega, by rw [hr'], _, rfl, rfl⟩
      simp [WellFoundedRelation.rel, measure, invImage, InvImage]; omega
    · have d1 : decide ((i : Int) < (mw : Int)) = false := by simp; omega
      obtain rfl : i = mw := by omega
      refine goF ?_
      exact ⟨by simp, _, rfl, rfl⟩
  rintro _ _ ⟨rfl, T', rfl, hT'⟩
  obtain ⟨y, rfl⟩ : ∃ y : Nat → Value, T' = #[y 0, .slice (some ⟨jb, joff, none⟩) n jc, y 2, y 3, y 4, y 5, .slice none 0 0, .pointer (some ⟨bv, 0, none⟩), y 8, .pointer (some ⟨b8, 0, none⟩), .pointer (some ⟨b10, 0, none⟩), y 11, y 12, y 13, y 14, y 15, y 16, y 17, y 18, y 19, y 20, y 21, y 22, y 23, y 24, y 25, y 26, y 27, y 28, y 29, y 30, y 31, y 32, y 33, y 34, y 35, y 36, y 37, y 38, y 39, y 40, y 41, y 42, y 43, y 44, y 45, y 46, y 47, y 48, y 49, y 50, y 51, y 52, y 53, y 54, y 55, y 56, y 57, y 58, y 59, y 60, y 61, y 62, y 63, y 64, y 65, y 66, y 67, y 68, y 69, y 70, y 71, y 72, y 73, y 74, y 75, y 76] := ⟨fun j => T'.getD j undef, hT'⟩
  clear hT'
  refine goF ?_
  refine wpK_midB (M := fun a' k' => k' = parK k11 X b7 b10 mw X.n b ∧ ∃ T' : Array Value, a' = ⟨T', []⟩ ∧ T' = #[(fun j => T'.getD j undef) 0, (fun j => T'.getD j undef) 1, (fun j => T'.getD j undef) 2, (fun j => T'.getD j undef) 3, (fun j => T'.getD j undef) 4, (fun j => T'.getD j undef) 5, (fun j => T'.getD j undef) 6, .pointer (some ⟨bv, 0, none⟩), (fun j => T'.getD j undef) 8, .pointer (some ⟨b8, 0, none⟩), .pointer (some ⟨b10, 0, none⟩), (fun j => T'.getD j undef) 11, (fun j => T'.getD j undef) 12, (fun j => T'.getD j undef) 13, (fun j => T'.getD j undef) 14, (fun j => T'.getD j undef) 15, (fun j => T'.getD j undef) 16, (fun j => T'.getD j undef) 17, (fun j => T'.getD j undef) 18, (fun j => T'.getD j undef) 19, (fun j => T'.getD j undef) 20, (fun j => T'.getD j undef) 21, (fun j => T'.getD j undef) 22, (fun j => T'.getD j undef) 23, (fun j => T'.getD j undef) 24, (fun j => T'.getD j undef) 25, (fun j => T'.getD j undef) 26, (fun j => T'.getD j undef) 27, (fun j => T'.getD j undef) 28, (fun j => T'.getD j undef) 29, (fun j => T'.getD j undef) 30, (fun j => T'.getD j undef) 31, (fun j => T'.getD j undef) 32, (fun j => T'.getD j undef) 33, (fun j => T'.getD j undef) 34, (fun j => T'.getD j undef) 35, (fun j => T'.getD j undef) 36, (fun j => T'.getD j undef) 37, (fun j => T'.getD j undef) 38, (fun j => T'.getD j undef) 39, (fun j => T'.getD j undef) 40, (fun j => T'.getD j undef) 41, (fun j => T'.getD j undef) 42, (fun j => T'.getD j undef) 43, (fun j => T'.getD j undef) 44, (fun j => T'.getD j undef) 45, (fun j => T'.getD j undef) 46, (fun j => T'.getD j undef) 47, (fun j => T'.getD j undef) 48, (fun j => T'.getD j undef) 49, (fun j => T'.getD j undef) 50, (fun j => T'.getD j undef) 51, (fun j => T'.getD j undef) 52, (fun j => T'.getD j undef) 53, (fun j => T'.getD j undef) 54, (fun j => T'.getD j undef) 55, (fun j => T'.getD j undef) 56, (fun j => T'.getD j undef) 57, (fun j => T'.getD j undef) 58, (fun j => T'.getD j undef) 59, (fun j => T'.getD j undef) 60, (fun j => T'.getD j undef) 61, (fun j => T'.getD j undef) 62, (fun j => T'.getD j undef) 63, (fun j => T'.getD j undef) 64, (fun j => T'.getD j undef) 65, (fun j => T'.getD j undef) 66, (fun j => T'.getD j undef) 67, (fun j => T'.getD j undef) 68, (fun j => T'.getD j undef) 69, (fun j => T'.getD j undef) 70, (fun j => T'.getD j undef) 71, (fun j => T'.getD j undef) 72, (fun j => T'.getD j undef) 73, (fun j => T'.getD j undef) 74, (fun j => T'.getD j undef) 75, (fun j => T'.getD j undef) 76]) ?_ ?_
  · refine wpK_loop (measure fun s => n - s).wf (I := fun s a' k' => s ≤ n ∧ k' = parK k11 X b7 b10 mw s b ∧ ∃ T' : Array Value, a' = ⟨T', []⟩ ∧ T' = #[(fun j => T'.getD j undef) 0, (fun j => T'.getD j undef) 1, (fun j => T'.getD j undef) 2, (fun j => T'.getD j undef) 3, (fun j => T'.getD j undef) 4, (fun j => T'.getD j undef) 5, (fun j => T'.getD j undef) 6, .pointer (some ⟨bv, 0, none⟩), (fun j => T'.getD j undef) 8, .pointer (some ⟨b8, 0, none⟩), .pointer (some ⟨b10, 0, none⟩), (fun j => T'.getD j undef) 11, (fun j => T'.getD j undef) 12, (fun j => T'.getD j undef) 13, (fun j => T'.getD j undef) 14, (fun j => T'.getD j undef) 15, (fun j => T'.getD j undef) 16, (fun j => T'.getD j undef) 17, (fun j => T'.getD j undef) 18, (fun j => T'.getD j undef) 19, (fun j => T'.getD j undef) 20, (fun j => T'.getD j undef) 21, (fun j => T'.getD j undef) 22, (fun j => T'.getD j undef) 23, (fun j => T'.getD j undef) 24, (fun j => T'.getD j undef) 25, (fun j => T'.getD j undef) 26, (fun j => T'.getD j undef) 27, (fun j => T'.getD j undef) 28, (fun j => T'.getD j undef) 29, (fun j => T'.getD j undef) 30, (fun j => T'.getD j undef) 31, (fun j => T'.getD j undef) 32, (fun j => T'.getD j undef) 33, (fun j => T'.getD j undef) 34, (fun j => T'.getD j undef) 35, (fun j => T'.getD j undef) 36, (fun j => T'.getD j undef) 37, (fun j => T'.getD j undef) 38, (fun j => T'.getD j undef) 39, (fun j => T'.getD j undef) 40, (fun j => T'.getD j undef) 41, (fun j => T'.getD j undef) 42, (fun j => T'.getD j undef) 43, (fun j => T'.getD j undef) 44, (fun j => T'.getD j undef) 45, (fun j => T'.getD j undef) 46, (fun j => T'.getD j undef) 47, (fun j => T'.getD j undef) 48, (fun j => T'.getD j undef) 49, (fun j => T'.getD j undef) 50, (fun j => T'.getD j undef) 51, (fun j => T'.getD j undef) 52, (fun j => T'.getD j undef) 53, (fun j => T'.getD j undef) 54, (fun j => T'.getD j undef) 55, (fun j => T'.getD j undef) 56, (fun j => T'.getD j undef) 57, (fun j => T'.getD j undef) 58, (fun j => T'.getD j undef) 59, (fun j => T'.getD j undef) 60, (fun j => T'.getD j undef) 61, (fun j => T'.getD j undef) 62, (fun j => T'.getD j undef) 63, .int .i64 n, .int .i64 s, (fun j => T'.getD j undef) 66, (fun j => T'.getD j undef) 67, (fun j => T'.getD j undef) 68, (fun j => T'.getD j undef) 69, (fun j => T'.getD j undef) 70, (fun j => T'.getD j undef) 71, (fun j => T'.getD j undef) 72, (fun j => T'.getD j undef) 73, (fun j => T'.getD j undef) 74, (fun j => T'.getD j undef) 75, (fun j => T'.getD j undef) 76]) (x := 0) ⟨Nat.zero_le _, rfl, _, rfl, rfl⟩ ?_
    rintro s _ _ ⟨hs, rfl, T', rfl, hT'⟩
    obtain ⟨y, rfl⟩ : ∃ y : Nat → Value, T' = #[y 0, y 1, y 2, y 3, y 4, y 5, y 6, .pointer (some ⟨bv, 0, none⟩), y 8, .pointer (some ⟨b8, 0, none⟩), .pointer (some ⟨b10, 0, none⟩), y 11, y 12, y 13, y 14, y 15, y 16, y 17, y 18, y 19, y 20, y 21, y 22, y 23, y 24, y 25, y 26, y 27, y 28, y 29, y 30, y 31, y 32, y 33, y 34, y 35, y 36, y 37, y 38, y 39, y 40, y 41, y 42, y 43, y 44, y 45, y 46, y 47, y 48, y 49, y 50, y 51, y 52, y 53, y 54, y 55, y 56, y 57, y 58, y 59, y 60, y 61, y 62, y 63, .int .i64 n, .int .i64 s, y 66, y 67, y 68, y 69, y 70, y 71, y 72, y 73, y 74, y 75, y 76] := ⟨fun j => T'.getD j undef, hT'⟩
    clear hT'
    by_cases hlt : s < n
    · have d1 : decide ((s : Int) < (n : Int)) = true := by simp; omega
      have w1 : IntKind.i64.wrap ((s : Int) + 1) = ((s + 1 : Nat) : Int) := by rw [wr64 (by omega) (by omega)]; rfl
      repeat (first | (apply wpK_region; simp only [List.size_toArray, List.length_cons, List.length_nil, Nat.reduceAdd, Nat.zero_add, List.range, List.range.loop]) | ((first | refine opsK_max rfl (by rfl) rfl rfl rfl ?_ | refine opsK_eqNil rfl (by rfl) rfl rfl (by kernel_rfl) ?_ | refine opsK_neNil rfl (by rfl) rfl rfl (by kernel_rfl) ?_); try simp only [Option.isNone_none, Option.isNone_some, Bool.not_true, Bool.not_false]; try walk_nrm) | (co_applyP opsK_pure_k rfl (by rfl) ?_ ?_ ?_; (focus (intro _ K hK; go_simp; exact hK)); (focus (first | (exact fun _ => ev_int rfl rfl rfl rfl) | (exact fun _ => ev_str rfl rfl rfl) | (exact fun _ => ev_build rfl) | (exact fun _ => ev_lenS rfl rfl) | (exact fun _ => ev_lenL rfl rfl) | (exact fun _ => ev_mkI rfl) | (intro _; simp [go_sem, *]; done))); try walk_nrm) | (co_applyP opsK_load1 rfl (by rfl) rfl rfl ?_ ?_ ?_; (focus (intro _; go_simp)); (focus (exact .inl f1)); try walk_nrm) | ((first | apply wpK_seq | apply wpK_block | apply wpK_skip | apply wpK_label | apply wpK_ret | apply wpK_exit | apply opsK_nil); try simp only [thenK, blockK, if_true, if_false, reduceIte, Nat.reduceEqDiff]) | (refine wpK_cond rfl ?_; simp only [if_true, if_false, reduceIte, Bool.false_eq_true]) | (refine opsK_unwanted rfl (by rfl) ?_; try walk_nrm))
      refine opsK_sendQ (X := X) (q := b7) (wg := b10) (m := mw) (s := s) (b := b) rfl (by rfl) rfl rfl rfl rfl (by rw [xn]; exact hlt) hmw1 f3 ?_
      walk_nrm
      refine goF ?_
      refine ⟨s + 1, ?_, by omega, rfl, _, rfl, rfl⟩
      simp [WellFoundedRelation.rel, measure, invImage, InvImage]; omega
    · have d1 : decide ((s : Int) < (n : Int)) = false := by simp; omega
      obtain rfl : s = n := by omega
      refine goF ?_
      exact ⟨by rw [xn], _, rfl, rfl⟩
  rintro _ _ ⟨rfl, T', rfl, hT'⟩
  obtain ⟨y, rfl⟩ : ∃ y : Nat → Value, T' = #[y 0, y 1, y 2, y 3, y 4, y 5, y 6, .pointer (some ⟨bv, 0, none⟩), y 8, .pointer (some ⟨b8, 0, none⟩), .pointer (some ⟨b10, 0, none⟩), y 11, y 12, y 13, y 14, y 15, y 16, y 17, y 18, y 19, y 20, y 21, y 22, y 23, y 24, y 25, y 26, y 27, y 28, y 29, y 30, y 31, y 32, y 33, y 34, y 35, y 36, y 37, y 38, y 39, y 40, y 41, y 42, y 43, y 44, y 45, y 46, y 47, y 48, y 49, y 50, y 51, y 52, y 53, y 54, y 55, y 56, y 57, y 58, y 59, y 60, y 61, y 62, y 63, y 64, y 65, y 66, y 67, y 68, y 69, y 70, y 71, y 72, y 73, y 74, y 75, y 76] := ⟨fun j => T'.getD j undef, hT'⟩
  clear hT'
  repeat (first | (apply wpK_region; simp only [List.size_toArray, List.length_cons, List.length_nil, Nat.reduceAdd, Nat.zero_add, List.range, List.range.loop]) | ((first | refine opsK_max rfl (by rfl) rfl rfl rfl ?_ | refine opsK_eqNil rfl (by rfl) rfl rfl (by kernel_rfl) ?_ | refine opsK_neNil rfl (by rfl) rfl rfl (by kernel_rfl) ?_); try simp only [Option.isNone_none, Option.isNone_some, Bool.not_true, Bool.not_false]; try walk_nrm) | (co_applyP opsK_pure_k rfl (by rfl) ?_ ?_ ?_; (focus (intro _ K hK; go_simp; exact hK)); (focus (first | (exact fun _ => ev_int rfl rfl rfl rfl) | (exact fun _ => ev_str rfl rfl rfl) | (exact fun _ => ev_build rfl) | (exact fun _ => ev_lenS rfl rfl) | (exact fun _ => ev_lenL rfl rfl) | (exact fun _ => ev_mkI rfl) | (intro _; simp [go_sem, *]; done))); try walk_nrm) | (co_applyP opsK_load1 rfl (by rfl) rfl rfl ?_ ?_ ?_; (focus (intro _; go_simp)); (focus (exact .inl f1)); try walk_nrm) | ((first | apply wpK_seq | apply wpK_block | apply wpK_skip | apply wpK_label | apply wpK_ret | apply wpK_exit | apply opsK_nil); try simp only [thenK, blockK, if_true, if_false, reduceIte, Nat.reduceEqDiff]) | (refine wpK_cond rfl ?_; simp only [if_true, if_false, reduceIte, Bool.false_eq_true]) | (refine opsK_unwanted rfl (by rfl) ?_; try walk_nrm))
  refine opsK_closeQ (X := X) (q := b7) (wg := b10) (m := mw) (b := b) rfl (by rfl) rfl rfl (by kernel_rfl) rfl hmw1 (by omega) f3 (by rw [hO.wg]; exact parK_own _ _ _ _ _ _ _) ?_
  walk_nrm
  refine goF ?_
  refine opsK_callv rfl (by rfl) rfl (by first | (walk_nrm; done) | (walk_nrm; rfl)) (wait_k hO { (parK k11 X b7 b10 mw X.n b).minus b10 with live := some (b10, main.wgT), gh := .shut X b7 b10 mw mw b } X b7 b10 mw b hmw2 rfl f3 (by show some (b10, main.wgT) = _; rw [hO.wg])) ?_
  rintro _ _ ⟨kt, hT, hdj, rfl⟩
  have hTo := runTo_of xB xml xR xn xJ xE nR hJn hT hdj k011 kk11 f3
  have h1 : ({ Kn.join { (parK k11 X b7 b10 mw X.n b).minus b10 with live := some (b10, main.wgT), gh := .shut X b7 b10 mw mw b } kt with live := none, gh := .lone b } : Kn).Has ⟨bv, 0, none⟩ (.pointer (some ⟨br, 0, none⟩)) := .inl (by show (k11.ro _).or (kt.ro _) = _; rw [v11]; rfl)
  have hres := hX11.res
  rw [xr, xR, xn] at hres
  have h2 : ({ Kn.join { (parK k11 X b7 b10 mw X.n b).minus b10 with live := some (b10, main.wgT), gh := .shut X b7 b10 mw mw b } kt with live := none, gh := .lone b } : Kn).Has ⟨br, 2, none⟩ (.slice (some ⟨bR, 0, none⟩) n n) := .inl (by show (k11.ro _).or (kt.ro _) = _; rw [hres]; rfl)
  generalize ({ Kn.join { (parK k11 X b7 b10 mw X.n b).minus b10 with live := some (b10, main.wgT), gh := .shut X b7 b10 mw mw b } kt with live := none, gh := .lone b } : Kn) = k13 at hTo h1 h2
  walk_nrm
  repeat (first | (apply wpK_region; simp only [List.size_toArray, List.length_cons, List.length_nil, Nat.reduceAdd, Nat.zero_add, List.range, List.range.loop]) | ((first | refine opsK_max rfl (by rfl) rfl rfl rfl ?_ | refine opsK_eqNil rfl (by rfl) rfl rfl (by kernel_rfl) ?_ | refine opsK_neNil rfl (by rfl) rfl rfl (by kernel_rfl) ?_); try simp only [Option.isNone_none, Option.isNone_some, Bool.not_true, Bool.not_false]; try walk_nrm) | (co_applyP opsK_pure_k rfl (by rfl) ?_ ?_ ?_; (focus (intro _ K hK; go_simp; exact hK)); (focus (first | (exact fun _ => ev_int rfl rfl rfl rfl) | (exact fun _ => ev_str rfl rfl rfl) | (exact fun _ => ev_build rfl) | (exact fun _ => ev_lenS rfl rfl) | (exact fun _ => ev_lenL rfl rfl) | (exact fun _ => ev_mkI rfl) | (intro _; simp [go_sem, *]; done))); try walk_nrm) | (co_applyP opsK_load1 rfl (by rfl) rfl rfl ?_ ?_ ?_; (focus (intro _; go_simp)); (focus (first | exact h1 | exact h2)); try walk_nrm) | ((first | apply wpK_seq | apply wpK_block | apply wpK_skip | apply wpK_label | apply wpK_ret | apply wpK_exit | apply opsK_nil); try simp only [thenK, blockK, if_true, if_false, reduceIte, Nat.reduceEqDiff]) | (refine wpK_cond rfl ?_; simp only [if_true, if_false, reduceIte, Bool.false_eq_true]) | (refine opsK_unwanted rfl (by rfl) ?_; try walk_nrm))
  exact retK1 rfl rfl hTo
end Go.Proofs.Ytacfhfeegalmlaa

/- THE LAW, in company: the two boxes, the two runs, and what is compared. -/
namespace Go.Proofs.Ytacfhfeegalmlaa
open Go.Conc
set_option linter.unusedVariables false
set_option linter.unusedSimpArgs false

section
variable {P : Program} {main : Who} {fn : FuncId} {Q : Exit → Act → Kn → Prop} {a : Act} {k : Kn} {ops : Array Oper} {i : Nat} {rest : List Nat} {o : Oper}
theorem Trip.buildSliceC {t e : TypeId} {sz n : Nat} {z : Value} {parts : Array (Nat × Value)} {cs : Array Value} {Ψ : Value → Kn → Prop} (ht : P.underlying t = some (.slice e)) (hsz : ∀ w, (Go.sizeOf e).run P w = .ok sz w) (h1 : ¬ n * sz > 2 ^ 24) (h2 : ¬ n * sz = 0) (hz : ∀ w, (Go.zeroValue e).run P w = .ok z w)
    (hfill : Instr.fill (fun i => some (i * sz, sz)) ((Array.range (n * sz)).map (z.cells[· % z.cells.size]!)) parts.toList = some cs)
    (h : ∀ b, k.New b → Ψ (.slice (some ⟨b, 0, none⟩) n n) (k.set b (.cells cs e))) : Trip P k (Instr.buildSlice t n parts) Ψ := by
  unfold Instr.buildSlice
  refine Trip.bind (Trip.underlying ht ?_)
  refine Trip.bind (Trip.sizeOf hsz ?_)
  simp only [h1, h2, if_false]
  refine Trip.bind (Trip.zeroValue hz (Trip.bind (Trip.pure ?_)))
  simp only [hfill]
  unfold newRow
  exact Trip.bind (Trip.bind (Trip.new' fun b hb => Trip.pure (Trip.pure (h b hb))))
theorem opsK_buildSlice2 {t e : TypeId} {sz : Nat} {x y : Operand} {u v z : Value} {cs : Array Value} (ho : ops[i]? = some o) (hw : Region.wanted o (yielded ops a.tmps) = true) (hop : o.op = .buildSlice t 2 #[(0, x), (1, y)]) (hxv : a.eval x = u) (hyv : a.eval y = v)
    (ht : P.underlying t = some (.slice e)) (hsz : ∀ w, (Go.sizeOf e).run P w = .ok sz w) (h1 : ¬ 2 * sz > 2 ^ 24) (h2 : ¬ 2 * sz = 0) (hz : ∀ w, (Go.zeroValue e).run P w = .ok z w)
    (hfill : Instr.fill (fun i => some (i * sz, sz)) ((Array.range (2 * sz)).map (z.cells[· % z.cells.size]!)) [(0, u), (1, v)] = some cs)
    (h : ∀ b, k.New b → OpsK P main fn ops rest Q (a.put o.dst (.slice (some ⟨b, 0, none⟩) 2 2)) (k.set b (.cells cs e))) : OpsK P main fn ops (i :: rest) Q a k := by
  refine opsK_trip ho hw ?_
  unfold execOp
  simp only [hop, List.map_toArray, List.map_cons, List.map_nil, hxv, hyv]
  exact Trip.bind (Trip.buildSliceC ht hsz h1 h2 hz hfill fun b hb => Trip.pure (h b hb))
end
def nmTA : ByteArray := ByteArray.mk #[116, 97]
def nmTB : ByteArray := ByteArray.mk #[116, 98]
def startL : List (ByteArray × Int) := [(nmTA, 1), (nmTB, 2)]
/-- What a call of Run comes to, whatever the number of jobs. -/
structure RunAll (k : Kn) (B ml n b : Nat) (J : List JobT) (E : Ents) (v : Value) (k' : Kn) : Prop where
  res : ∃ a c, v = .slice a n c ∧ ∀ i Ji, J[i]? = some Ji → ∃ RB cs, a = some ⟨RB, 0, none⟩ ∧ k.own RB = none ∧ k'.own RB = some (.cells cs 38) ∧ ResAt k'.ro cs i (resJ J E i Ji)
  box : ∃ p t, k'.own B = some (.cells (boxC (stJ J E n).num p (.map (some ml))) 64) ∧ TrK k'.ro p t ∧ t.ok ∧ t.ents = (stJ J E n).ents
  ro : ∀ a u, k.ro a = some u → k'.ro a = some u
  own : ∀ x o, x ≠ B → x ≠ ml → k.own x = some o → k'.own x = some o
  gh : k'.gh = .lone b
  deaf : k'.deaf = 0
  live : k'.live = none
theorem RunTo.all {k k' : Kn} {B ml n b : Nat} {J : List JobT} {E : Ents} {v : Value} (h : RunTo k B ml n b J E v k') : RunAll k B ml n b J E v k' := by
  obtain ⟨RB, c, h1, h2, h3, h4, h5⟩ := h.res
  exact ⟨⟨_, _, h1, fun i Ji hJ => ⟨RB, c, rfl, h2, h3, h5 i Ji hJ⟩⟩, h.box, h.ro, h.own, h.gh, h.deaf, h.live⟩
set_option maxRecDepth 100000 in
set_option maxHeartbeats 2000000 in
theorem run0_k {main : Who} (k : Kn) (x w : Value) (sa : Option Addr) (c : Nat) (hx : ∃ B, x = .pointer (some ⟨B, 0, none⟩)) (hw : ∃ n, w = .int .i64 n) : CallsK Try.prog main 6 #[x, .slice sa 0 c, w] k fun v k' => v = .slice none 0 0 ∧ k = k' := by
  obtain ⟨B, rfl⟩ := hx
  obtain ⟨n, rfl⟩ := hw
  (refine callsK_of Try.func6 (by first | rfl | kernel_rfl) rfl ?_; simp only [Try.ntmps6, List.size_toArray, List.length_cons, List.length_nil, Nat.reduceAdd, Nat.reduceSub, Array.replicate_succ, Array.replicate_zero, List.push_toArray, List.append_toArray, List.nil_append, List.cons_append])
  refine goF ?_
  exact retK1 rfl rfl ⟨rfl, rfl⟩
/-- How many workers. -/
def workN (wn : Int) (n : Nat) : Nat := (min (max wn 1) (n : Int)).toNat
theorem runAll_k {main : Who} (hO : main.Ours) (hKid : ∀ k g, KidK k g → main.Kid k g) (k : Kn) (B ml n c b : Nat) (sa : Option Addr) (wn : Int) (p : Value) (t : Tr) (J : List JobT) (E : Ents) (hn : n < 1000) (hJn : J.length = n)
    (hgh : k.gh = .lone (b + workN wn n)) (hd : k.deaf = 0) (hl : k.live = none) (hB : k.own B = some (.cells (boxC 0 p (.map (some ml))) 64)) (hL : LastK k ml (fun _ => none)) (hp : TrK k.ro p t) (ot : t.ok) (et : t.ents = E) (hE : Srt E) (hEn : E.length < 1099511627776)
    (hjobs : 0 < n → ∃ jb joff, sa = some ⟨jb, joff, none⟩ ∧ ∀ j Ji, J[j]? = some Ji → JobAt k.ro jb (joff + j * 3) Ji) (hfit : ∀ Ji ∈ J, Ji.1.length < 1099511627776 ∧ Ji.2.1.length < 1099511627776) :
    CallsK Try.prog main 6 #[.pointer (some ⟨B, 0, none⟩), .slice sa n c, .int .i64 wn] k fun v k' => RunAll k B ml n b J E v k' := by
  have hmw : ((workN wn n : Nat) : Int) = min (max wn 1) n := by unfold workN; omega
  rcases Nat.eq_zero_or_pos n with h0 | h0
  · subst h0
    have hw0 : workN wn 0 = 0 := by unfold workN; omega
    refine (run0_k k _ _ sa c ⟨_, rfl⟩ ⟨_, rfl⟩).mono fun v k' => ?_
    rintro ⟨rfl, rfl⟩
    rw [hw0] at hgh
    exact ⟨⟨none, 0, rfl, fun i Ji h => by have := (List.getElem?_eq_some_iff.1 h).1; omega⟩, ⟨p, t, hB, hp, ot, et⟩, fun _ _ h => h, fun _ _ _ _ h => h, hgh, hd, hl⟩
  · obtain ⟨jb, joff, rfl, hj⟩ := hjobs h0
    exact (run_k hO hKid k B ml jb joff c n b wn p t J E _ hmw h0 hn hJn hgh hd hl hB hL hp ot et hE hEn hj hfit).mono fun v k' h => h.all
set_option maxRecDepth 100000 in
theorem Trip.eqNamed {k : Kn} {s : ByteArray} {x : Int} {d : Nat} {Ψ : Bool → Kn → Prop} (h : Ψ true k) : Trip Try.prog k (Op.equalIn (d + 2) 26 (.agg #[.string s, .int .i64 x]) (.agg #[.string s, .int .i64 x])) Ψ := by
  have es : (s == s) = true := by first | exact beq_self_eq_true s | (rw [beq_toListBytes]; simp)
  have ex : (x == x) = true := by simp
  have e0 : ¬ Try.prog.stoodInHeld 26 = true := by
    have : Try.prog.stoodInHeld 26 = false := by kernel_rfl
    rw [this]; decide
  have p0 : ∀ {Ψ : Value → Kn → Prop}, Ψ (.string s) k → Trip Try.prog k (part 9 #[.string s, .int .i64 x] 0) Ψ := fun h => Trip.still (fun w => by kernel_rfl) (fun w => by kernel_rfl) h
  have p1 : ∀ {Ψ : Value → Kn → Prop}, Ψ (.int .i64 x) k → Trip Try.prog k (part 24 #[.string s, .int .i64 x] 1) Ψ := fun h => Trip.still (fun w => by kernel_rfl) (fun w => by kernel_rfl) h
  have q0 : ∀ {Ψ : Bool → Kn → Prop}, Ψ true k → Trip Try.prog k (Op.equalIn (d + 1) 9 (.string s) (.string s)) Ψ := fun {Ψ} h => by
    rw [Op.equalIn]
    refine Trip.bind (Trip.underlying Try.underlying9 ?_)
    simp only [es]
    exact Trip.pure h
  have q1 : ∀ {Ψ : Bool → Kn → Prop}, Ψ true k → Trip Try.prog k (Op.equalIn (d + 1) 24 (.int .i64 x) (.int .i64 x)) Ψ := fun {Ψ} h => by
    rw [Op.equalIn]
    refine Trip.bind (Trip.underlying Try.underlying24 ?_)
    simp only [if_true, ex]
    exact Trip.pure h
  rw [Op.equalIn]
  refine Trip.bind (Trip.underlying Try.underlying26 ?_)
  simp only []
  refine Trip.bind (Trip.still (fun w => run_program _ _) (fun w => events_program _ _ _) ?_)
  rw [if_neg e0]
  refine Trip.bind ?_
  rw [← Array.forIn_toList]
  simp only [List.forIn_cons, List.forIn_nil]
  refine Trip.bind ?_
  rw [if_pos (by decide)]
  refine Trip.bind (p0 (Trip.bind (p0 (Trip.bind (q0 ?_)))))
  simp only [Bool.not_true, Bool.false_eq_true, if_false]
  refine Trip.pure ?_
  refine Trip.bind ?_
  rw [if_pos (by decide)]
  refine Trip.bind (p1 (Trip.bind (p1 (Trip.bind (q1 ?_)))))
  simp only [Bool.not_true, Bool.false_eq_true, if_false]
  refine Trip.pure ?_
  refine Trip.pure ?_
  exact Trip.pure h
theorem exec_neqNamed {k : Kn} {a : Act} {o : Oper} {K : Act → Kn → Prop} {u v : Tmp} {ty : TypeId} {s : ByteArray} {n : Int} (hop : o.op = .binOp .neq 26 (.tmp u) (.tmp v) ty) (hx : a.eval (.tmp u) = .agg #[.string s, .int .i64 n]) (hy : a.eval (.tmp v) = .agg #[.string s, .int .i64 n])
    (h : K (a.put o.dst (.bool false)) k) : Trip Try.prog k (execOp a.eval o) (nextA K a o.dst) := by
  unfold execOp
  simp only [hop, hx, hy]
  refine Trip.bind (Trip.bind (Trip.still (a := ()) (fun w => by kernel_rfl) (fun w => by kernel_rfl) ?_))
  simp only [binOp]
  refine Trip.bind ?_
  unfold Op.equal
  show Trip Try.prog k (Op.equalIn (9998 + 2) 26 _ _) _
  exact Trip.eqNamed (Trip.pure (Trip.pure h))
theorem resJ_len {jobs : List JobT} {E : Ents} {j : Nat} {J : JobT} : (resJ jobs E j J).saw.length ≤ J.1.length := by
  unfold resJ stepJ
  split
  · simp
  split
  · simp
  split
  · simp
  split
  · simp
  · simp
/-- A row's cells, pair by pair. -/
theorem OwnSl.named {k : Kn} {v : Value} {l : List (ByteArray × Int)} (h : OwnSl k 26 2 v l.length (namedC l)) : ∃ a cap, v = .slice a l.length cap ∧ ∀ j x, l[j]? = some x → ∃ b, a = some ⟨b, 0, none⟩ ∧ k.Has ⟨b, j * 2, none⟩ (.string x.1) ∧ k.Has ⟨b, j * 2 + 1, none⟩ (.int .i64 x.2) := by
  rcases h.at_ with ⟨rfl, h0⟩ | ⟨b, cap, c, rfl, hc, hb, hs, ht⟩
  · rw [h0]
    exact ⟨none, 0, rfl, fun j x hj => by have := (List.getElem?_eq_some_iff.1 hj).1; omega⟩
  · refine ⟨_, _, rfl, fun j x hj => ⟨b, rfl, ?_, ?_⟩⟩
    all_goals
      have hl := (List.getElem?_eq_some_iff.1 hj).1
      obtain ⟨g0, g1⟩ := namedC_get hj
      rw [← ht] at g0 g1
      rw [List.getElem?_take_of_lt (by omega), Array.getElem?_toList] at g0 g1
    · exact Kn.has_own hb g0
    · exact Kn.has_own hb g1
theorem ids_at {main : Who} {k k' : Kn} {v1 v2 : Value} {vs : List Int} (h : k = k') (h1 : RoSl k.ro v1 vs.length 1 (vs.map intV)) (h2 : RoSl k.ro v2 vs.length 1 (vs.map intV)) (hn : vs.length < 1099511627776) :
    CallsK Try.prog main 9 #[v1, v2] k' fun v k'' => v = .bool true ∧ k' = k'' := by
  subst h
  exact ids_k k v1 v2 vs h1 h2 hn
end Go.Proofs.Ytacfhfeegalmlaa
