/-
  tree.order: the walk.
-/
import Derived.Test.YtpabngicbfcdkaaOrdP
import Derived.Deep.LoopGhost
import Derived.Deep.DeepCutAuto
import Derived.Outline
namespace Go.Proofs.Ytpabngicbfcdkaa
open Go.RowKit
set_option linter.unusedVariables false
set_option linter.unusedSimpArgs false

theorem EStep : EltG Try.prog 105 104 (.agg #[.pointer none, .bool false]) 2 16 := ⟨Try.underlying105, info_parts (by kernel_rfl), rfl, by decide⟩
theorem EPtr : EltG Try.prog 69 64 (.pointer none) 1 8 := ⟨Try.underlying69, info_parts (by kernel_rfl), rfl, by decide⟩
theorem zeroI (w : World) : (zeroValue 3).run Try.prog w = .ok (.int .i64 0) w := by kernel_rfl
abbrev penc : Addr → Value := fun p => Value.pointer (some p)
theorem pk : PKey Try.prog 64 penc OkA := by
  have h : (Try.prog.info? 38).map (fun i => i.size) = some 4 := by kernel_rfl
  obtain ⟨j, hj, hs⟩ := Option.map_eq_some_iff.1 h
  exact pkey_addr Try.underlying64 hj (by rw [hs]; decide)

theorem take_snoc {α : Type} {l : List α} {i : Nat} {x : α} (h : l[i]? = some x) : l.take (i + 1) = l.take i ++ [x] := by
  have hi := List.getElem?_eq_some_iff.1 h
  rw [List.take_succ_eq_append_getElem hi.1, hi.2]

theorem Row.ne_map {w : World} {base e size v n xs} (h : Row w base e size v n xs) {κ : Type} {enc : κ → Value} {bm : Nat} {f : κ → Option Value} (hm : PMap w enc bm f) : v.ownBlock ≠ some bm := by
  rcases h.2 with ⟨rfl, _⟩ | ⟨g, cap, cur, rfl, hbb, hgg, rest⟩
  · intro h; cases h
  · intro h2
    obtain ⟨es, clock, hb, _⟩ := hm
    have h3 : g = bm := by simpa [Value.ownBlock] using h2
    rw [h3, hb] at hgg; cases hgg
/-- the last element dropped -/
theorem Row.pop {w : World} {base e size a n c xs} (h : Row w base e size (.slice a (n + 1) c) (n + 1) xs) : Row w base e size (.slice a n c) n (xs.take (n * size)) := by
  have hl : n * size ≤ xs.length := by rw [h.1]; exact Nat.mul_le_mul_right _ (by omega)
  refine ⟨by rw [List.length_take]; omega, ?_⟩
  rcases h.2 with ⟨hv, h0⟩ | ⟨g, cap, cur, hv, hbb, hgg, hnc, hcm, hcs, htk⟩
  · omega
  · simp only [Value.slice.injEq] at hv
    obtain ⟨rfl, _, rfl⟩ := hv
    refine .inr ⟨g, c, cur, rfl, hbb, hgg, by omega, hcm, hcs, ?_⟩
    rw [← htk, List.take_take, Nat.min_eq_left (Nat.mul_le_mul_right _ (by omega))]

/-- what order keeps in memory -/
structure OM (w0 : World) (bm : Nat) (S : List SE) (L : List Addr) (f : Addr → Option Value) (sv lv : Value) (wr : World) : Prop where
  stk : Row wr w0.heap.size 104 2 sv S.length (cellsSE S)
  lst : Row wr w0.heap.size 64 1 lv L.length (L.map penc)
  mp : PMap wr penc bm f
  bel : Below w0.heap.size w0 wr
  lo : w0.heap.size ≤ bm
theorem OM.below {w0 bm S L f sv lv w w'} (h : OM w0 bm S L f sv lv w) (hb : Below w.heap.size w w') : OM w0 bm S L f sv lv w' :=
  ⟨h.stk.below hb, h.lst.below hb, h.mp.below hb, bthen h.bel hb, h.lo⟩
theorem OM.push {w0 bm S L f sv lv w w'} (h : OM w0 bm S L f sv lv w) {x : SE} {sv'} (hr : Row w' w0.heap.size 104 2 sv' (S.length + 1) (cellsSE S ++ [.pointer (some x.p), .bool x.left])) (hg : w.grownBy w' sv.ownBlock) : OM w0 bm (S ++ [x]) L f sv' lv w' := by
  refine ⟨?_, Row.keep h.lst h.stk (by decide) hg, h.mp.fr (S := fun b => sv.ownBlock = some b) (Fr.of_grown hg (fun k hk => hk)) (Row.ne_map h.stk h.mp), Row.grown h.stk hg h.bel.size |> h.bel.trans, h.lo⟩
  rw [List.length_append, cellsSE_snoc]; exact hr
theorem OM.list {w0 bm S L f sv lv w w'} (h : OM w0 bm S L f sv lv w) {p : Addr} {lv'} (hr : Row w' w0.heap.size 64 1 lv' (L.length + 1) (L.map penc ++ [.pointer (some p)])) (hg : w.grownBy w' lv.ownBlock) : OM w0 bm S (L ++ [p]) f sv lv' w' := by
  refine ⟨Row.keep h.stk h.lst (by decide) hg, ?_, h.mp.fr (S := fun b => lv.ownBlock = some b) (Fr.of_grown hg (fun k hk => hk)) (Row.ne_map h.lst h.mp), Row.grown h.lst hg h.bel.size |> h.bel.trans, h.lo⟩
  rw [List.length_append, List.map_append]; exact hr
theorem OM.map {w0 bm S L f f' sv lv w w'} (h : OM w0 bm S L f sv lv w) (hm : PMap w' penc bm f') (hg : w.grownBy w' (some bm)) : OM w0 bm S L f' sv lv w' := by
  have hf : Fr (fun b => b = bm) w w' := Fr.of_grown hg (fun k hk => (Option.some.inj hk).symm)
  exact ⟨Row.fr h.stk hf (fun g hg2 e => Row.ne_map h.stk h.mp (by rw [hg2, e])), Row.fr h.lst hf (fun g hg2 e => Row.ne_map h.lst h.mp (by rw [hg2, e])), hm, h.bel.trans (hf.below (fun b e => by rw [e]; exact h.lo) h.bel.size), h.lo⟩
theorem OM.pop {w0 bm S x L f a n c lv w} (h : OM w0 bm (S ++ [x]) L f (.slice a n c) lv w) : OM w0 bm S L f (.slice a S.length c) lv w := by
  refine ⟨?_, h.lst, h.mp, h.bel, h.lo⟩
  have hs := h.stk
  obtain ⟨a', c', hv⟩ := Row.form hs
  simp only [Value.slice.injEq] at hv
  obtain ⟨rfl, rfl, rfl⟩ := hv
  rw [List.length_append, List.length_singleton] at hs
  have := Row.pop hs
  rw [cellsSE_snoc, List.take_left' (by rw [cellsSE_len])] at this
  exact this

theorem OM.top {w0 bm S x L f a n c lv w} (h : OM w0 bm (S ++ [x]) L f (.slice a n c) lv w) : ∃ g, a = some ⟨g, 0, none⟩ ∧ w.cell? ⟨g, S.length * 2, none⟩ = some (.pointer (some x.p)) ∧ w.cell? ⟨g, S.length * 2 + 1, none⟩ = some (.bool x.left) := by
  have hs := h.stk
  obtain ⟨a', c', hv⟩ := Row.form hs
  simp only [Value.slice.injEq] at hv
  obtain ⟨rfl, rfl, rfl⟩ := hv
  obtain ⟨h1, h2⟩ := cellsSE_last S x
  have hr := Row.rdG hs
  obtain ⟨b, off, ha, hc⟩ := hr.cell _ _ h1
  obtain ⟨b', off', ha', hc'⟩ := hr.cell _ _ h2
  rcases hs.2 with ⟨hv, h0⟩ | ⟨g, cap, cur, hv, _⟩
  · simp at h0
  · simp only [Value.slice.injEq] at hv
    obtain ⟨rfl, _, _⟩ := hv
    simp only [Option.some.injEq, Addr.mk.injEq, and_true] at ha ha'
    obtain ⟨rfl, rfl⟩ := ha
    obtain ⟨rfl, rfl⟩ := ha'
    rw [Nat.zero_add] at hc hc'
    exact ⟨g, rfl, hc, hc'⟩
theorem wgt_len (S : List SE) : S.length ≤ wgt S := by
  induction S with
  | nil => simp
  | cons x r ih =>
    have : 1 ≤ x.wgt := by unfold SE.wgt; have := x.t.size_pos; split <;> omega
    simp only [wgt, List.length_cons]; omega

def OrdPost (T : Nat → Prop) (good : Ex → Bool) (root : Ex) (p0 : Addr) (w : World) (e : Ending) (w' : World) : Prop :=
  Below w.heap.size w w' ∧ ((∃ L a c, e = .returned (.tuple #[.slice a L.length c, .bool true]) ∧ RdG w' 1 a L.length (L.map penc) ∧ Topo T w root L ∧ p0 ∈ L ∧ root.all good ∧ L.length ≤ 2 * root.size) ∨ (e = .returned (.tuple #[.slice none 0 0, .bool false]) ∧ ¬ root.all good))

set_option maxRecDepth 100000 in
set_option maxHeartbeats 2000000 in
theorem order_any (F : Nat) (good : Ex → Bool) (T : Nat → Prop) (root : Ex) (p0 : Addr) (w : World) (hr : RdP T w root p0) (hsz : root.size ≤ 1000000000) (hcf : ∀ args w, (callFunc F args).run Try.prog w = .ok (.enter F args) w)
    (his : ∀ (wx : World) (t : Ex) (p : Addr), Below w.heap.size w wx → RdP T w t p → t.size ≤ root.size → Calls Try.prog F #[.pointer (some p)] wx fun e w' => e = .returned (.bool (good t)) ∧ Below wx.heap.size wx w') :
    Calls Try.prog 46 #[.pointer (some p0), .func (.func F) #[] #[]] w (OrdPost T good root p0 w) := by
  have HR := Lib.hid hr
  have HSZ := Lib.hid hsz
  have HIS := Lib.hid his
  have hmm := @run_makeMap Try.prog
  clear hr hsz his
  go_enter Try.func46, Try.ntmps46
  go_wp2
  obtain ⟨w2, hw2⟩ : ∃ w2, w2 = (w.alloc (.map #[] 0)).alloc (.cells #[.pointer (some p0), .bool false] 104) := ⟨_, rfl⟩
  obtain ⟨bm, hbm⟩ : ∃ bm, bm = w.heap.size := ⟨_, rfl⟩
  have HOM : Hid (OM w bm [⟨p0, root, false⟩] [] (fun _ => none) (.slice (some ⟨w.heap.size + 1, 0, none⟩) 1 1) (.slice none 0 0) w2) := Lib.hid (by
    have hb1 := below_alloc w (.map #[] 0)
    have hb2 := below_alloc (w.alloc (.map #[] 0)) (.cells #[.pointer (some p0), .bool false] 104)
    rw [hw2, hbm]
    refine ⟨?_, World.ownsRow_nil _ _ _ _, (PMap.made w penc).below hb2, bthen hb1 hb2, Nat.le_refl _⟩
    have := World.ownsRow_lit (e := 104) (base := w.heap.size) (size := 2) (w.alloc (.map #[] 0)) #[.pointer (some p0), .bool false] 1 (by simp) (by unfold maxLen; omega) rfl
    simp at this
    exact this)
  have HOI := Lib.hid (OI.start (good := good) HR.out)
  have HBM := Lib.hid hbm
  rw [← hw2]
  rw [← hbm] at HOM ⊢
  clear hw2 hbm
  go_loopg [6, 8] (2 * root.size) (fun gg lv sv wr => ∃ (S : List SE) (L : List Addr) (f : Addr → Option Value) (sa la : Option Addr) (sc lc : Nat), gg = wgt S ∧ sv = .slice sa S.length sc ∧ lv = .slice la L.length lc ∧ OI T w good root p0 S L f ∧ OM w bm S L f sv lv wr ∧ L.length + wgt S ≤ 2 * root.size)
  case atStart => exact ⟨[⟨p0, root, false⟩], [], fun _ => none, _, none, 1, 0, by simp [wgt, SE.wgt], rfl, rfl, HOI.out, HOM.out, by simp [wgt, SE.wgt]⟩
  case round =>
    clear HOI HOM
    obtain ⟨S, L, f, sa, la, sc, lc, rfl, rfl, rfl, hoi, hom, hlw⟩ := hrel
    rcases List.eq_nil_or_concat S with rfl | ⟨S', x, rfl⟩
    · have HOM := Lib.hid hom
      have HEND := Lib.hid (hoi.end_all HR.out)
      have HTP := Lib.hid hoi.topo'
      have HLW := Lib.hid hlw
      clear hoi hom hlw
      go_wp2
      go_ret2
      exact ⟨HOM.out.bel, .inl ⟨L, la, lc, rfl, Row.rdG HOM.out.lst, HTP.out, HEND.out.1, HEND.out.2, by have := HLW.out; omega⟩⟩
    · rw [List.concat_eq_append] at *
      obtain ⟨g, rfl, hc0, hc1⟩ := hom.top
      obtain ⟨n, hn⟩ : ∃ n, n = S'.length := ⟨_, rfl⟩
      have hlen : (S' ++ [x]).length = n + 1 := by rw [hn]; simp
      have hn9 : (n : Int) ≤ 2000000000 := by
        have h1 := wgt_len (S' ++ [x])
        have h2 := HSZ.out
        omega
      have HN := Lib.hid hn
      have HOM := Lib.hid hom
      have HOI := Lib.hid hoi
      have HLW := Lib.hid hlw
      have hcap : n ≤ sc := by have := Row.cap hom.stk; omega
      rw [← hn] at hc0 hc1
      rw [hlen]
      clear hlen hn hoi hom hlw
      obtain ⟨p, t, left⟩ := x
      simp only at hc0 hc1
      cases left with
      | true =>
        obtain ⟨w3, hw3⟩ : ∃ w3, w3 = wr.alloc (.cells #[.pointer (some p), .bool true] 104) := ⟨_, rfl⟩
        have hb3 : Below wr.heap.size wr w3 := by rw [hw3]; exact below_alloc _ _
        have x0 : w3.cell? ⟨wr.heap.size, 0, none⟩ = some (.pointer (some p)) := by rw [hw3]; simp
        have x1 : w3.cell? ⟨wr.heap.size, 1, none⟩ = some (.bool true) := by rw [hw3]; simp
        have HOM3 := Lib.hid (HOM.out.pop.below hb3)
        have HOKP : Hid (OkA w3 p) := Lib.hid ((HOI.out.rd ⟨p, t, true⟩ (by simp)).ok.fr (S := fun _ => False) (.of_below (bthen HOM.out.bel hb3)) (fun h => h))
        have HOK := Lib.hid (fun (y : Addr) (v : Value) (hv : f y = some v) => (HOI.out.ok y v hv).fr (S := fun _ => False) (.of_below (bthen HOM.out.bel hb3)) (fun h => h))
        have HOI3 := Lib.hid (HOI.out.close rfl)
        have HW3 := Lib.hid hw3
        have HLL : Hid (L.length + 1 ≤ 2000000000) := Lib.hid (by have h1 := HLW.out; have h2 := wgt_append S' [⟨p, t, true⟩]; simp [wgt, SE.wgt] at h2; have h3 := HSZ.out; omega)
        rw [← HN.out] at HOM3
        clear hb3 hw3
        go_upto_region 8 with fail
        rw [← HW3.out]
        go_wp2_with (first
          | (at_builtin; refine app_row_at (.tmp 34) (.tmp 37) EPtr rfl rfl w.heap.size (.slice la L.length lc) L.length (L.map penc) rfl (HOM4.out.lst.below (below_alloc _ _)) (some ⟨_, 0, none⟩) 1 1 [.pointer (some p)] rfl (RdG.lits _ 1 _ 1 [.pointer (some p)] rfl) (by simp [Value.oneCell']) (by have := HLL.out; omega) (by decide) (by have := HOM4.out.bel.size; simp; omega) ?_; intro a5 c5 w5 hr5 hg5 hat5; have HOM5 := Lib.hid ((HOM4.out.below (below_alloc _ _)).list hr5 hg5); clear hr5 hg5 hat5)
          | (refine PMap.wpUpdate HOM3.out.mp pk HOK.out Try.underlying72 rfl (.tmp 31) (.tmp 33) (.const (.int .i64 2)) rfl rfl p HOKP.out rfl (.int .i64 2) rfl ?_; intro w4 hm4 hg4; have HOM4 := Lib.hid (HOM3.out.map hm4 hg4); have y0 : w4.cell? ⟨wr.heap.size, 0, none⟩ = some (.pointer (some p)) := hg4.cell x0 (fun e => by have h1 := HOM.out.mp.lt; simp at e; omega); clear hm4 hg4))
        go_roundg (wgt S')
        case measure => simp [wgt_append, wgt, SE.wgt]
        case rel => exact ⟨S', L ++ [p], _, some ⟨g, 0, none⟩, a5, sc, c5, rfl, by rw [HN.out], by simp, HOI3.out, HOM5.out, by have h1 := HLW.out; have h2 := wgt_append S' [⟨p, t, true⟩]; simp [wgt, SE.wgt] at h2; simp; omega⟩
      | false =>
        have hrdp := HOI.out.rd ⟨p, t, false⟩ (by simp)
        obtain ⟨pb, po, rfl⟩ : ∃ pb po, p = ⟨pb, po, none⟩ := ⟨_, _, addr_eta hrdp.1⟩
        obtain ⟨w3, hw3⟩ : ∃ w3, w3 = wr.alloc (.cells #[.pointer (some ⟨pb, po, none⟩), .bool false] 104) := ⟨_, rfl⟩
        have hb3 : Below wr.heap.size wr w3 := by rw [hw3]; exact below_alloc _ _
        have x0 : w3.cell? ⟨wr.heap.size, 0, none⟩ = some (.pointer (some ⟨pb, po, none⟩)) := by rw [hw3]; simp
        have x1 : w3.cell? ⟨wr.heap.size, 1, none⟩ = some (.bool false) := by rw [hw3]; simp
        have HOM3 := Lib.hid (HOM.out.pop.below hb3)
        have HRDP := Lib.hid hrdp
        have HOKW : Hid (∀ wx, Below w.heap.size w wx → OkA wx ⟨pb, po, none⟩) := Lib.hid (fun wx hb => hrdp.ok.fr (S := fun _ => False) (.of_below hb) (fun h => h))
        have HOK := Lib.hid (fun (y : Addr) (v : Value) (hv : f y = some v) => (HOI.out.ok y v hv).fr (S := fun _ => False) (.of_below (bthen HOM.out.bel hb3)) (fun h => h))
        have HW3 := Lib.hid hw3
        have HTS : Hid (t.size ≤ root.size ∧ L.length + wgt S' + 2 * t.size ≤ 2 * root.size) := Lib.hid (by have h1 := HLW.out; have h2 := wgt_append S' [⟨⟨pb, po, none⟩, t, false⟩]; simp [wgt, SE.wgt] at h2; omega)
        have HB3 := Lib.hid (bthen HOM.out.bel hb3)
        have HSZ3 : Hid (wr.heap.size < w3.heap.size) := Lib.hid (by rw [hw3]; simp)
        have HGE : Hid (w.heap.size ≤ wr.heap.size) := Lib.hid HOM.out.bel.size
        rw [← HN.out] at HOM3
        clear hb3 hw3 hrdp
        cases hf : f ⟨pb, po, none⟩ with
        | some v =>
          have hv : v = .int .i64 2 := by
            rcases HOI.out.fN _ _ hf with e | e
            · rw [e] at hf; exact absurd hf (HOI.out.not_open rfl)
            · exact e
          subst hv
          have HF := Lib.hid hf
          have HOI3 := Lib.hid (HOI.out.skip rfl hf)
          clear hf
          go_upto_region 10 with fail
          rw [← HW3.out]
          go_wp2_with (refine PMap.wpLook HOM3.out.mp pk HOK.out Try.underlying72 (zeroI _) rfl (.tmp 39) (.tmp 41) rfl rfl ⟨pb, po, none⟩ (HOKW.out _ HB3.out) rfl ?_; rw [HF.out, Option.getD_some])
          go_roundg (wgt S')
          case measure => have := t.size_pos; simp [wgt_append, wgt, SE.wgt]; omega
          case rel => exact ⟨S', L, _, some ⟨g, 0, none⟩, la, sc, lc, rfl, by rw [HN.out], rfl, HOI3.out, HOM3.out, by have h1 := HTS.out; omega⟩
        | none =>
          have HF := Lib.hid hf
          have HCALL := Lib.hid (HIS.out w3 t ⟨pb, po, none⟩ HB3.out HRDP.out HTS.out.1)
          cases hg : good t with
          | false =>
            rw [hg] at HCALL
            have HBAD := Lib.hid (HOI.out.bad hg)
            clear hf hg
            go_upto_region 10 with fail
            rw [← HW3.out]
            go_wp2_with (first
              | (refine HCALL.out.mono ?_; rintro e w3c ⟨rfl, hbc⟩; have HOM3 := Lib.hid (HOM3.out.below hbc); have HOK := Lib.hid (fun (y : Addr) (v : Value) (hv : f y = some v) => (HOK.out y v hv).fr (S := fun _ => False) (.of_below hbc) (fun h => h)); have x0 := below_cell hbc x0; have HB3 := Lib.hid (bthen HB3.out hbc); have HSZ3 := Lib.hid (Nat.lt_of_lt_of_le HSZ3.out hbc.size); clear hbc)
              | (refine PMap.wpLook HOM3.out.mp pk HOK.out Try.underlying72 (zeroI _) rfl (.tmp 39) (.tmp 41) rfl rfl ⟨pb, po, none⟩ (HOKW.out _ HB3.out) rfl ?_; rw [HF.out, Option.getD_none]))
            go_ret2
            exact ⟨HB3.out, .inr ⟨rfl, HBAD.out⟩⟩
          | true =>
            rw [hg] at HCALL
            have HG := Lib.hid hg
            obtain ⟨-, aa, ac, hnd, hac, hra⟩ := HRDP.out.2.node
            have HND := Lib.hid hnd
            have HRA := Lib.hid hra
            have HNODE : Hid (∀ wx, Below w.heap.size w wx → wx.cell? ⟨pb, po + 3, none⟩ = some (.slice aa t.args.length ac)) := Lib.hid (fun wx hb => below_cell hb hnd.cells.2.2.2)
            have HGL : Hid (g < wr.heap.size) := Lib.hid (Row.block_lt HOM.out.stk (g := g) rfl).1
            clear hnd hac hra
            clear hf hg
            go_upto_region 10 with fail
            rw [← HW3.out]
            go_wp2_with (first
              | (refine HCALL.out.mono ?_; rintro e w3c ⟨rfl, hbc⟩; have HOM3 := Lib.hid (HOM3.out.below hbc); have HOK := Lib.hid (fun (y : Addr) (v : Value) (hv : f y = some v) => (HOK.out y v hv).fr (S := fun _ => False) (.of_below hbc) (fun h => h)); have x0 := below_cell hbc x0; have HB3 := Lib.hid (bthen HB3.out hbc); have HSZ3 := Lib.hid (Nat.lt_of_lt_of_le HSZ3.out hbc.size); clear hbc)
              | (at_builtin; refine app_row_at (.tmp 55) (.tmp 59) EStep rfl rfl w.heap.size (.slice (some ⟨g, 0, none⟩) n sc) S'.length (cellsSE S') rfl ((HOM4.out.below (below_alloc _ _)).stk) (some ⟨_, 0, none⟩) 1 1 [.pointer (some ⟨pb, po, none⟩), .bool true] rfl (RdG.lits _ 2 _ 1 [.pointer (some ⟨pb, po, none⟩), .bool true] rfl) (by simp [Value.oneCell']) (by have h1 := HTS.out; have h2 := HSZ.out; have h3 := wgt_len S'; have h4 := HN.out; omega) (by decide) (by have := HOM4.out.bel.size; simp; omega) ?_; intro a5 c5 w5 hr5 hg5 hat5; have HOM5 := Lib.hid ((HOM4.out.below (below_alloc _ _)).push (x := ⟨⟨pb, po, none⟩, t, true⟩) hr5 hg5); have z0 : w5.cell? ⟨wr.heap.size, 0, none⟩ = some (.pointer (some ⟨pb, po, none⟩)) := hg5.cell (below_cell (below_alloc _ _) y0) (fun e => by have h1 := HGL.out; simp [Value.ownBlock] at e; omega); have z3 := HNODE.out w5 HOM5.out.bel; have HAT5 : Hid ((Value.slice a5 (S'.length + 1) c5).ownBlock ≠ some wr.heap.size) := Lib.hid (by
                have h1 := HGL.out
                have h2 := HOM4.out.bel.size
                have h3 := hg4s.out
                rcases hat5 with e | e
                · rw [e]; intro h; simp [Value.ownBlock] at h; omega
                · rw [e]; intro h; simp at h; omega); clear hr5 hg5 hat5)
              | (refine PMap.wpLook HOM3.out.mp pk HOK.out Try.underlying72 (zeroI _) rfl (.tmp 39) (.tmp 41) rfl rfl ⟨pb, po, none⟩ (HOKW.out _ HB3.out) rfl ?_; rw [HF.out, Option.getD_none])
              | (refine PMap.wpUpdate HOM3.out.mp pk HOK.out Try.underlying72 rfl (.tmp 52) (.tmp 54) (.const (.int .i64 1)) rfl rfl ⟨pb, po, none⟩ (HOKW.out _ HB3.out) rfl (.int .i64 1) rfl ?_; intro w4 hm4 hg4; have HOM4 := Lib.hid (HOM3.out.map hm4 hg4); have hg4s : Hid (wr.heap.size < w4.heap.size) := Lib.hid (Nat.lt_of_lt_of_le HSZ3.out hg4.size); have y0 : w4.cell? ⟨wr.heap.size, 0, none⟩ = some (.pointer (some ⟨pb, po, none⟩)) := hg4.cell x0 (fun e => by have h1 := HOM.out.mp.lt; simp at e; omega); clear hm4 hg4))
            have HKB : Hid (∃ kb ko, (t.args.length ≠ 0 → aa = some ⟨kb, ko, none⟩) ∧ ∀ (i : Nat) (u : Ex), t.args[i]? = some u → KidAt w ⟨pb, po, none⟩ i ⟨kb, ko + 4 * i, none⟩) := Lib.hid (by
              rcases HRA.out with h0 | ⟨b', o', h1, h2⟩
              · exact ⟨0, 0, fun h => absurd (by rw [h0]; rfl) h, fun i u hu => by rw [h0] at hu; cases hu⟩
              · subst h1
                exact ⟨b', o', fun _ => rfl, fun i u hu => ⟨_, _, _, b', o', _, ac, HND.out, rfl⟩⟩)
            obtain ⟨kb, ko, hka, hkk⟩ := HKB.out
            have HKA := Lib.hid hka
            have HKK := Lib.hid hkk
            have HOPEN := Lib.hid (HOI.out.open rfl HF.out HG.out (b := kb) (o := ko) hkk)
            obtain ⟨k, hk⟩ : ∃ k, k = t.args.length := ⟨_, rfl⟩
            have HK := Lib.hid hk
            have hk9 : (k : Int) ≤ 1000000000 := by have h1 := HTS.out.1; have h2 := HSZ.out; have h3 := Ex.sizes_len t.args; have h4 := t.size_eq; omega
            have HS9 : Hid (S'.length ≤ 2000000000) := Lib.hid (by have h1 := HTS.out; have h2 := HSZ.out; have h3 := wgt_len S'; omega)
            rw [← hk] at HNODE z3 ⊢
            clear hka hkk hk HKB
            obtain ⟨wo, hwo⟩ : ∃ wo : World, wo = wr := ⟨_, rfl⟩
            subst hwo
            obtain ⟨bx, hbx⟩ : ∃ bx, bx = wo.heap.size := ⟨_, rfl⟩
            have HBX := Lib.hid hbx
            rw [← hbx] at HAT5 z0 ⊢
            clear hbx x0 x1 y0 hc0 hc1
            go_loopw [8, 67] (fun sv jv wx => ∃ (i : Nat) (sa : Option Addr) (sc' : Nat), jv = .int .i64 i ∧ i ≤ k ∧ sv = .slice sa (S'.length + 1 + i) sc' ∧ OM w bm (S' ++ ⟨⟨pb, po, none⟩, t, true⟩ :: kidsFrom kb ko (t.args.take i)) L (fun y => if y = ⟨pb, po, none⟩ then some (.int .i64 1) else f y) sv (.slice la L.length lc) wx ∧ wx.cell? ⟨bx, 0, none⟩ = some (.pointer (some ⟨pb, po, none⟩)) ∧ sv.ownBlock ≠ some bx) (fun _ jv _ => k - (intOf jv).toNat)
            case atStart => exact ⟨0, a5, c5, rfl, by omega, rfl, HOM5.out, z0, HAT5.out⟩
            case round =>
              obtain ⟨i, sa, sc', rfl, hi, rfl, hom, hbox, hne⟩ := hrel
              have HLEN : Hid ((S' ++ ⟨⟨pb, po, none⟩, t, true⟩ :: kidsFrom kb ko (t.args.take i)).length = S'.length + 1 + i) := Lib.hid (by simp [kidsFrom_len, ← HK.out]; omega)
              have HOMI := Lib.hid hom
              have HNE := Lib.hid hne
              have z3 := HNODE.out wr hom.bel
              by_cases hlt : i < k
              · obtain ⟨u, hu⟩ : ∃ u, t.args[i]? = some u := ⟨_, List.getElem?_eq_getElem (by rw [← HK.out]; exact hlt)⟩
                obtain rfl := HKA.out (by rw [← HK.out]; omega)
                have HU := Lib.hid hu
                have HLT := Lib.hid hlt
                have hlti : (i : Int) < (k : Int) := by omega
                have HSTK : Hid (Row wr w.heap.size 104 2 (.slice sa (S'.length + 1 + i) sc') (S'.length + 1 + i) (cellsSE (S' ++ ⟨⟨pb, po, none⟩, t, true⟩ :: kidsFrom kb ko (t.args.take i)))) := Lib.hid (by have h := hom.stk; rw [HLEN.out] at h; exact h)
                have HBXL : Hid (bx < wr.heap.size) := Lib.hid (World.block_lt_of_cell? _ _ hbox)
                have HGEW : Hid (w.heap.size ≤ wr.heap.size) := Lib.hid hom.bel.size
                clear hu hlt hom hne hi
                go_wp2_with (at_builtin; refine app_row_at (.tmp 70) (.tmp 79) EStep rfl rfl w.heap.size (.slice sa (S'.length + 1 + i) sc') (S'.length + 1 + i) (cellsSE (S' ++ ⟨⟨pb, po, none⟩, t, true⟩ :: kidsFrom kb ko (t.args.take i))) rfl (Row.below HSTK.out (below_alloc _ _)) (some ⟨_, 0, none⟩) 1 1 [.pointer (some ⟨kb, ko + i * 4, none⟩), .bool false] rfl (RdG.lits _ 2 _ 1 [.pointer (some ⟨kb, ko + i * 4, none⟩), .bool false] rfl) (by simp [Value.oneCell']) (by have h1 := HS9.out; omega) (by decide) (by have := HGEW.out; simp; omega) ?_; intro a6 c6 w6 hr6 hg6 hat6; rw [← HLEN.out] at hr6; have HOM6 := Lib.hid ((HOMI.out.below (below_alloc _ _)).push (x := ⟨⟨kb, ko + i * 4, none⟩, u, false⟩) hr6 hg6); have z6 : w6.cell? ⟨bx, 0, none⟩ = some (.pointer (some ⟨pb, po, none⟩)) := hg6.cell (below_cell (below_alloc _ _) hbox) (fun e => HNE.out e.symm); have HAT6 : Hid ((Value.slice a6 (S'.length + 1 + i + 1) c6).ownBlock ≠ some bx) := Lib.hid (by
                  have h1 := HBXL.out
                  rcases hat6 with e | e
                  · rw [e]; exact HNE.out
                  · rw [e]; intro h; simp at h; omega); clear hr6 hg6 hat6)
                go_roundw
                case rel => exact ⟨i + 1, a6, c6, by go_num, HLT.out, rfl, by
                  have h := HOM6.out
                  rw [List.append_assoc, List.cons_append, show (⟨⟨kb, ko + i * 4, none⟩, u, false⟩ : SE) = ⟨⟨kb, ko + 4 * (t.args.take i).length, none⟩, u, false⟩ by simp [← HK.out, Nat.min_eq_left (Nat.le_of_lt HLT.out), Nat.mul_comm], ← kidsFrom_snoc, ← take_snoc HU.out] at h
                  rw [HLEN.out] at h
                  exact h, z6, HAT6.out⟩
                case measure => have := HLT.out; simp [intOf]; omega
              · obtain rfl : k = i := by omega
                have HALL : Hid (t.args.take k = t.args) := Lib.hid (List.take_of_length_le (by rw [HK.out]; exact Nat.le_refl _))
                rw [HALL.out] at HOMI HLEN
                clear hom hne hlt hi hbox z3
                go_wp2
                go_roundg (wgt (S' ++ ⟨⟨pb, po, none⟩, t, true⟩ :: kidsFrom kb ko t.args))
                case measure => have := t.size_eq; simp [wgt_append, wgt, SE.wgt, kidsFrom_wgt]; omega
                case rel => exact ⟨_, L, _, sa, la, sc', lc, rfl, by rw [HLEN.out], rfl, HOPEN.out, HOMI.out, by have h1 := HTS.out; have := t.size_eq; simp [wgt_append, wgt, SE.wgt, kidsFrom_wgt]; omega⟩

end Go.Proofs.Ytpabngicbfcdkaa
