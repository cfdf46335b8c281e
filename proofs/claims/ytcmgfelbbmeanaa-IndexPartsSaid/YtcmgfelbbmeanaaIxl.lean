
/-
  Layer 20: codes put behind codes; IndexParts, walked over the program.
-/
import Derived.Test.YtcmgfelbbmeanaaIxa
import Derived.Test.YtcmgfelbbmeanaaPt
import Derived.Test.YtcmgfelbbmeanaaMend
namespace Go.Proofs.Ytcmgfelbbmeanaa.Tms
open Go Go.RowKit Go.Proofs.Ytcmgfelbbmeanaa.Reg Go.Proofs.Ytcmgfelbbmeanaa.Rws Go.Proofs.Ytcmgfelbbmeanaa.Maps Go.Proofs.Ytcmgfelbbmeanaa.Cod Go.Instr
set_option linter.unusedVariables false
set_option linter.unusedSimpArgs false

theorem each_pick {α : Type} {K : Rws.Kind α} {w : World} {P : Nat → Prop} : ∀ (m : List α) (f : Nat → List Value), (∀ j (h : j < m.length), K.R w P (f j) m[j]) → Each K w P ((List.range m.length).map f) m
  | [], f, _ => trivial
  | a :: m, f, hf => by
    have ih := each_pick m (fun j => f (j + 1)) fun j hj => by
      have := hf (j + 1) (by simp; omega)
      simpa using this
    rw [List.length_cons, List.range_succ_eq_map, List.map_cons, List.map_map]
    exact ⟨hf 0 (by simp), ih⟩
/-- append of all of a slice of codes that were there -/
theorem wpList_putCos {T : TypeId} {Q : Program} {w0 w : World} {ops : Array Oper} {rest : List Oper} {o : Oper} {a : Act} {E : Exit → Act → World → Prop} (hgd : o.guard = none) (s x : Operand) (t : TypeId)
    (ho : o.op = .call { callee := .builtin .append, args := #[s, x], argTypes := #[t, t] }) (ht : Q.underlying t = some (.slice T)) {z : Value} {bytes : Nat} (hi : (Q.info? T).map (fun i => (i.zero, i.size, i.bytes)) = some (some z, 5, bytes)) (hz : z.cells.size = 5)
    (v : Value) (l m : List Cod) (q : Option Addr) (c : Nat) (hs : a.eval s = v) (hown : Own (cdKind T) w w0.heap.size (fun _ => True) v l) (hx : a.eval x = .slice q m.length c)
    (hm : CosSl w0 (.slice q m.length c) m) (hb : Below w0.heap.size w0 w) (h63 : l.length + m.length ≤ maxLen) (hlen : (l.length + m.length) * bytes ≤ 140737488355328)
    (h : ∀ v' w', Own (cdKind T) w' w0.heap.size (fun _ => True) v' (l ++ m) → Below w0.heap.size w w' → wpList Q ops E rest (a.put o.dst v') w') : wpList Q ops E (o :: rest) a w := by
  have hm0 := hm
  obtain ⟨a', cap, e, hc1, hc2, hel⟩ := hm0
  simp only [Value.slice.injEq, true_and] at e
  obtain ⟨rfl, rfl⟩ := e
  cases m with
  | cons x0 m =>
    obtain ⟨b, off, vs0, e1, hbl, -⟩ := hel 0 (by simp)
    subst e1
    have each : ∀ j, ∃ cs : List Value, ∀ (h : j < (x0 :: m).length), (cdKind T).R w (fun b => True ∧ v.ownBlock ≠ some b) cs (x0 :: m)[j] ∧ ∀ k, k < 5 → w.cell? ⟨b, off + j * 5 + k, none⟩ = cs[k]? := by
      intro j
      by_cases hj : j < (x0 :: m).length
      · obtain ⟨b', off', vs, e1, hbl', hins, y0, y1, y2, y3, y4⟩ := hel j hj
        simp only [Option.some.injEq, Addr.mk.injEq, and_true] at e1
        obtain ⟨rfl, rfl⟩ := e1
        obtain ⟨sa, sc, rfl⟩ := hins.form
        have hcc := fun o => World.cell?_of_block (w := w0) (w' := w) (a := ⟨b, o, none⟩) (hb.block b hbl)
        refine ⟨[.string (x0 :: m)[j].name, .int .i64 (x0 :: m)[j].args, .int .i64 (x0 :: m)[j].slots, .int .i64 (x0 :: m)[j].body, .slice sa (x0 :: m)[j].l.length sc], fun _ => ⟨⟨sa, _, sc, rfl, hins.below hb, fun hne b' e => ⟨trivial, fun e2 => ?_⟩⟩, fun k hk => ?_⟩⟩
        · have h1 := insBlk hins hne b' e
          have h2 := (hown.low b' e2).1
          omega
        · rcases (show k = 0 ∨ k = 1 ∨ k = 2 ∨ k = 3 ∨ k = 4 by omega) with rfl | rfl | rfl | rfl | rfl
          · exact (hcc _).trans y0
          · exact (hcc _).trans y1
          · exact (hcc _).trans y2
          · exact (hcc _).trans y3
          · exact (hcc _).trans y4
      · exact ⟨[], fun h => absurd h hj⟩
    let f : Nat → List Value := fun j => Classical.choose (each j)
    have hf := fun j => Classical.choose_spec (each j)
    have hE := each_pick (K := cdKind T) (w := w) (P := fun b => True ∧ v.ownBlock ≠ some b) (x0 :: m) f fun j hj => (hf j hj).1
    refine wpList_putN (K := cdKind T) hgd s x t ho ht hi hz w0.heap.size (fun _ => True) v l _ (x0 :: m) ⟨b, off, none⟩ c hs hown hx (fun j u hu => ?_) (by simp) hE h63 hlen hb.size (fun v' w' h1 h2 _ _ => h v' w' h1 h2)
    have hfl := hE.flat
    have hjl : j < (x0 :: m).length * 5 := by
      have := (List.getElem?_eq_some_iff.1 hu).1
      have h5 : (cdKind T).sz = 5 := rfl
      rw [hfl, h5] at this
      exact this
    have hq : j / 5 < (x0 :: m).length := by omega
    have hxs : ((List.range (x0 :: m).length).map f)[j / 5]? = some (f (j / 5)) := by
      rw [List.getElem?_map, List.getElem?_range hq]; rfl
    have hat := hE.flatAt (j / 5) _ hxs (j % 5) (by show j % 5 < 5; omega)
    rw [show j / 5 * (cdKind T).sz + j % 5 = j by show j / 5 * 5 + j % 5 = j; omega, hu] at hat
    have hcell := (hf (j / 5) hq).2 (j % 5) (by omega)
    rw [Addr.add_lit, show off + j = off + j / 5 * 5 + j % 5 by omega, hcell]
    exact hat.symm
  | nil =>
    obtain ⟨i0, hi, hz0, hz1, hz2⟩ := info_parts hi
    have hown' := hown
    obtain ⟨xss, ⟨g1, g2⟩, g3⟩ := hown'
    obtain ⟨ba, cap, rfl, hle⟩ : ∃ ba cap, v = .slice ba l.length cap ∧ l.length ≤ cap := by
      rcases g2 with ⟨rfl, hn⟩ | ⟨g, cap, cur, rfl, -, -, hc, -⟩
      · exact ⟨none, 0, by rw [hn], by omega⟩
      · exact ⟨_, cap, rfl, hc⟩
    have hsrc : Src Q i0.size t (.slice q 0 c) 0 [] w := by
      cases q with
      | none => exact Src.ofNil w ht c
      | some ad => exact Src.ofSlice w ht ad 0 c [] (by simp) (by simp) (by simp)
    have hr := run_append_nothing (P := Q) w t t o.type T i0 ht hi ba l.length cap hle (.slice q 0 c) hsrc
    refine wpList_plain hgd fun K' hK => ?_
    unfold Oper.wp execOp
    simp only [List.length_nil] at hx
    simp only [ho, resolve, invoke, builtin, Sem.run_bind, Sem.run_pure, Result.andThen_ok, List.map_toArray, List.map_cons, List.map_nil, hs, hx, hr]
    exact hK _ _ (h _ _ (by simpa using hown) (Below.refl _ _))
theorem cosl_form {w : World} {v : Value} {Cs : List Cod} (h : CosSl w v Cs) : ∃ a c, v = .slice a Cs.length c := let ⟨a, c, e, _⟩ := h; ⟨a, c, e⟩
/-- what both are asked -/
theorem pick_two (L M : List (Option Kx)) (k : Int) (q : Option Kx) : pickL (L ++ M) k q = pickL L k q ++ (pickL M k q).map (· + (L.length : Int)) := by
  unfold pickL
  split
  · rw [posF_app, ← posF_shift]
  · rw [posF_app, ← posF_shift]
def SmXRel (Cs : List Cod) (w0 : World) (q : Option Addr) (c : Nat) (w : World) (vi : Value) (wr : World) : Prop := ∃ i : Nat, i ≤ Cs.length ∧ vi = .int .i64 i ∧ (∀ j (h : j < Cs.length), j < i → Cs[j].l.length ≤ 500) ∧ Below w.heap.size w wr
theorem pick_len {L : List (Option Kx)} {k : Int} {q : Option Kx} : (pickL L k q).length ≤ L.length := by
  unfold pickL
  split
  · exact posF_len _ _ _
  · exact posF_len _ _ _
theorem IntSl.impX {w w' : World} {P P' : Nat → Prop} {v : Value} {L : List Int} (h : IntSl w P v L) (hs : w.heap.size ≤ w'.heap.size) (hP : ∀ b, P b → b < w.heap.size → P' b) (hw : ∀ b, P b → b < w.heap.size → w'.heap[b]? = w.heap[b]?) : IntSl w' P' v L := by
  obtain ⟨a, cap, e, h1, h2, h3⟩ := h
  refine ⟨a, cap, e, h1, h2, fun i hi => ?_⟩
  obtain ⟨b, off, e1, hp, hl, hc⟩ := h3 i hi
  exact ⟨b, off, e1, hP b hp hl, Nat.lt_of_lt_of_le hl hs, (World.cell?_of_block (w := w) (w' := w') (a := ⟨b, off + i, none⟩) (hw b hp hl)).trans hc⟩
def WnRel (A B : List Int) (n : Int) (v24 : Value) (w : World) (vi v13 : Value) (wr : World) : Prop := ∃ i : Nat, i ≤ B.length ∧ vi = .int .i64 i ∧ Own jKind wr w.heap.size (fun _ => False) v13 (A ++ (B.take i).map (· + n)) ∧ IntSl wr (fun b => v13.ownBlock ≠ some b) v24 B ∧ Below w.heap.size w wr
theorem pick_low {L : List (Option Kx)} {k : Int} {q : Option Kx} : ∀ x ∈ pickL L k q, 0 ≤ x ∧ x < (L.length : Int) := by
  intro x hx
  unfold pickL at hx
  split at hx
  · have := posF_ge _ _ _ _ hx
    omega
  · have := posF_ge _ _ _ _ hx
    omega
theorem all_len {L M : List Cod} (h : ∀ j (h : j < (L ++ M).length), (L ++ M)[j].l.length ≤ 500) : (∀ c ∈ L, c.l.length ≤ 1000000) ∧ (∀ c ∈ M, c.l.length ≤ 1000000) ∧ ∀ c ∈ L ++ M, c.l.length ≤ 1000000 := by
  have h3 : ∀ c ∈ L ++ M, c.l.length ≤ 1000000 := fun c hc => by
    obtain ⟨j, hj, rfl⟩ := List.mem_iff_getElem.1 hc
    have := h j hj
    omega
  exact ⟨fun c hc => h3 c (List.mem_append_left _ hc), fun c hc => h3 c (List.mem_append_right _ hc), h3⟩
theorem below_rowX {w w' : World} {g : Nat} {o : Obj} (h : Below w.heap.size w w') (hr : w.heap[g]? = some o) : w'.heap[g]? = some o := (h.block g (Array.getElem?_eq_some_iff.1 hr).1).trans hr
set_option maxRecDepth 100000 in
set_option maxHeartbeats 4000000 in
theorem law_iparts (L M : List Cod) (ask : List Pt) (v1 v2 v3 : Value) (w : World) (h1 : CosSl w v1 L) (h2 : CosSl w v2 M) (h3 : PtSl w v3 ask) : Calls Try.prog 4 #[v1, v2, v3] w (Says true w) := by
  obtain ⟨a1, c1, rfl⟩ := cosl_form h1
  obtain ⟨a2, c2, rfl⟩ := cosl_form h2
  obtain ⟨a3, c3, rfl, -, -⟩ := h3.form
  have H1 := Lib.hid h1
  have H2 := Lib.hid h2
  have H3 := Lib.hid h3
  clear h1 h2 h3
  obtain ⟨X, hX⟩ : ∃ X, X = L ++ M := ⟨_, rfl⟩
  have HX := Lib.hid hX
  clear hX
  by_cases g1 : 30 < L.length
  · have d1 : decide (30 < (L.length : Int)) = true := by simp; omega
    go_enter Try.func4, Try.ntmps4
    go_wp2_with fail
    refine (alive20 _).mono ?_
    rintro e1 w1 ⟨rfl, hb1⟩
    have HB := Lib.hid hb1
    clear hb1
    go_wp2
    go_ret
    exact ⟨rfl, HB.out⟩
  have d1 : decide (30 < (L.length : Int)) = false := by simp; omega
  by_cases g2 : 30 < M.length
  · have d2 : decide (30 < (M.length : Int)) = true := by simp; omega
    go_enter Try.func4, Try.ntmps4
    go_wp2_with fail
    refine (alive20 _).mono ?_
    rintro e1 w1 ⟨rfl, hb1⟩
    have HB := Lib.hid hb1
    clear hb1
    go_wp2
    go_ret
    exact ⟨rfl, HB.out⟩
  have d2 : decide (30 < (M.length : Int)) = false := by simp; omega
  go_enter Try.func4, Try.ntmps4
  go_wp2_with fail
  refine (alive20 _).mono ?_
  rintro e1 w1 ⟨rfl, hb1⟩
  have HB1 := Lib.hid hb1
  have HG := Lib.hid (ref_great ask _ _ (H3.out.below hb1))
  clear hb1
  by_cases g3 : 60 < ask.length
  · have d3 : decide (60 < (ask.length : Int)) = true := by simp; omega
    go_wp2_with fail
    refine HG.out.mono ?_
    rintro e2 w2 ⟨rfl, rfl⟩
    go_wp2
    go_ret
    exact ⟨rfl, HB1.out⟩
  have d3 : decide (60 < (ask.length : Int)) = false := by simp; omega
  go_wp2_with fail
  refine HG.out.mono ?_
  rintro e2 w2 ⟨rfl, rfl⟩
  have HBE := Lib.hid (HB1.out.trans (((Below.refl w1.heap.size w1).alloc (Nat.le_refl _) (.cells #[] 28 (0, 0))).mono HB1.out.size))
  have HOE := Lib.hid (own_empty (K := cdKind 28) (P := fun _ => True) (heap_alloc_new w1 (.cells #[] 28 (0, 0))) HB1.out.size)
  clear HB1 HG
  go_wp2_with (first
    | (with_reducible show wpList _ _ _ (⟨some 32, _, _, _, _, _⟩ :: _) _ _
       go_must (
         refine wpList_putCos (w0 := w) rfl (.tmp 30) (.tmp 31) _ rfl Try.underlying22 info_rd rfl _ [] L a1 c1 rfl HOE.out rfl H1.out HBE.out (by unfold maxLen; simp; omega) (by simp; omega) ?_
         intro v7 w7 ho7 hb7
         obtain ⟨q7, c7, e7⟩ := own_formX ho7
         rw [List.nil_append] at ho7 e7
         subst e7
         have HO7 := Lib.hid ho7
         have HB7 := Lib.hid (HBE.out.trans hb7)
         clear ho7 hb7 HOE HBE))
    | (with_reducible show wpList _ _ _ (⟨some 34, _, _, _, _, _⟩ :: _) _ _
       go_must (
         refine wpList_putCos (w0 := w) rfl (.tmp 32) (.tmp 33) _ rfl Try.underlying22 info_rd rfl _ L M a2 c2 rfl HO7.out rfl H2.out HB7.out (by unfold maxLen; omega) (by omega) ?_
         intro v8 w8 ho8 hb8
         rw [← HX.out] at ho8
         obtain ⟨q8, c8, e8⟩ := own_formX ho8
         subst e8
         have HO8 := Lib.hid (cosl_of_own ho8)
         have HB8 := Lib.hid (HB7.out.trans hb8)
         clear ho8 hb8 HO7 HB7)))
  have hX60 : X.length ≤ 60 := by rw [HX.out, List.length_append]; omega
  have hst : SmXRel X w8 q8 c8 w8 (.int .i64 ((0 : Nat) : Int)) w8 := ⟨0, by omega, rfl, fun j _ h => by omega, Below.refl _ _⟩
  have HST := Lib.hid hst
  clear hst
  go_loopw [36] (fun v36 wr => SmXRel X w8 q8 c8 w8 v36 wr) (fun v36 _ => X.length - (intOf v36).toNat)
  case atStart => exact HST.out
  case round =>
    clear HST
    obtain ⟨i, hi, rfl, hq, hbel⟩ := hrel
    have HQ := Lib.hid hq
    have HB := Lib.hid hbel
    clear hq hbel
    by_cases hil : i < X.length
    · have b1 : decide ((i : Int) < (X.length : Int)) = true := by simp; omega
      obtain ⟨a', cap', e, hc1, hc2, hel⟩ := id HO8.out
      simp only [Value.slice.injEq, true_and] at e
      obtain ⟨b, off, vs, e1, hbl, hins, x0, x1, x2, x3, x4⟩ := hel i hil
      have e2 := e.1.trans e1
      subst e2
      obtain ⟨C, hC⟩ : ∃ C, C = X[i] := ⟨_, rfl⟩
      rw [← hC] at hins x0 x1 x2 x3
      have hc := fun o => HB.out.cell (p := ⟨b, o, none⟩) hbl
      replace x0 := (hc _).trans x0
      replace x1 := (hc _).trans x1
      replace x2 := (hc _).trans x2
      replace x3 := (hc _).trans x3
      replace x4 := (hc _).trans x4
      obtain ⟨sa, scap, rfl⟩ := hins.form
      have hb5 : Below wr.heap.size wr (wr.alloc (.cells #[.string C.name, .int .i64 C.args, .int .i64 C.slots, .int .i64 C.body, .slice sa C.l.length scap] 28 (0, 0))) := (Below.refl wr.heap.size wr).alloc (Nat.le_refl _) _
      have hr5 := heap_alloc_new wr (.cells #[.string C.name, .int .i64 C.args, .int .i64 C.slots, .int .i64 C.body, .slice sa C.l.length scap] 28 (0, 0))
      have HB5 := Lib.hid (HB.out.trans (hb5.mono HB.out.size))
      have HC := Lib.hid hC
      obtain ⟨y0, y1, y2, y3, y4⟩ := row5n hr5
      clear e e1 hel hins hc hb5 hr5 HB hC hc1 hc2
      by_cases hx : 500 < C.l.length
      · have b2 : decide (500 < (C.l.length : Int)) = true := by simp; omega
        clear hx HQ
        go_wp2
        go_ret
        exact ⟨rfl, HB8.out.trans (HB5.out.mono HB8.out.size)⟩
      · have b2 : decide (500 < (C.l.length : Int)) = false := by simp; omega
        have HRL := Lib.hid (show SmXRel X w8 (some ⟨b, off, none⟩) c8 w8 (.int .i64 ((i + 1 : Nat) : Int)) _ from ⟨i + 1, by omega, rfl, fun j g hj => by
          by_cases e : j = i
          · subst e; rw [← HC.out]; omega
          · exact HQ.out j g (by omega), HB5.out⟩)
        clear hx HQ HC
        go_wp2
        go_roundw
        case measure => simp [intOf]; omega
        case rel => exact HRL.out
    · have b1 : decide ((i : Int) < (X.length : Int)) = false := by simp; omega
      have hall : ∀ j (h : j < (L ++ M).length), (L ++ M)[j].l.length ≤ 500 := fun j h => by
        have e := HX.out
        subst e
        exact HQ.out j h (by omega)
      have HA := Lib.hid (all_len hall)
      have HB9 := Lib.hid (HB8.out.trans (HB.out.mono HB8.out.size))
      have HG2 := Lib.hid (ref_good ask _ _ (by omega) (H3.out.below HB9.out))
      clear hall HQ HB8 HO8
      go_wp2_with fail
      refine HG2.out.mono ?_
      rintro e11 w11 ⟨v11, rfl, hi11, hb11⟩
      obtain ⟨T, hT⟩ : ∃ T, T = goodT ask := ⟨_, rfl⟩
      rw [← hT] at hi11
      obtain ⟨ta, tc, rfl⟩ := hi11.form
      have hba : Below w11.heap.size w11 (w11.alloc (.cells #[.int .i64 T.k, .int .i64 T.n, .string T.s, .slice ta T.args.length tc] 31 (0, 0))) := (Below.refl w11.heap.size w11).alloc (Nat.le_refl _) _
      have HR12 := Lib.hid (heap_alloc_new w11 (.cells #[.int .i64 T.k, .int .i64 T.n, .string T.s, .slice ta T.args.length tc] 31 (0, 0)))
      have hb12 := hb11.trans (hba.mono hb11.size)
      have HB12 := Lib.hid (HB9.out.trans (hb12.mono HB9.out.size))
      clear hi11 hb11 hba hb12 HB9 HG2 hT HB
      go_wp2_with fail
      refine (go_codes L _ _ (H1.out.below HB12.out) HA.out.1 (by omega)).mono ?_
      rintro e13 w13 ⟨v13, rfl, hc13, hb13⟩
      have HR13 := Lib.hid (below_rowX hb13 HR12.out)
      have HC13 := Lib.hid hc13
      have HB13 := Lib.hid (HB12.out.trans (hb13.mono HB12.out.size))
      clear hc13 hb13 HR12 HB12
      go_wp2_with fail
      refine (go_New L _ _ HC13.out HA.out.1 (by omega)).mono ?_
      rintro e14 w14 ⟨rfl, MA, RA, hix, hb14⟩
      have HXA := Lib.hid hix
      have HR14 := Lib.hid (below_rowX hb14 HR13.out)
      have HB14 := Lib.hid (HB13.out.trans (hb14.mono HB13.out.size))
      clear hix hb14 HR13 HB13 HC13
      go_wp2_with fail
      refine (go_codes M _ _ (H2.out.below HB14.out) HA.out.2.1 (by omega)).mono ?_
      rintro e15 w15 ⟨v15, rfl, hc15, hb15⟩
      have HC15 := Lib.hid hc15
      have HXA15 := Lib.hid (HXA.out.below hb15)
      have HR15 := Lib.hid (below_rowX hb15 HR14.out)
      have HB15 := Lib.hid (HB14.out.trans (hb15.mono HB14.out.size))
      clear hc15 hb15 HR14 HB14 HXA
      go_wp2_with fail
      refine (go_New M _ _ HC15.out HA.out.2.1 (by omega)).mono ?_
      rintro e16 w16 ⟨rfl, MB, RB, hix, hb16⟩
      have HXB16 := Lib.hid hix
      have HXA16 := Lib.hid (HXA15.out.below hb16)
      have HR16 := Lib.hid (below_rowX hb16 HR15.out)
      have hb16' := HB15.out.trans (hb16.mono HB15.out.size)
      have hba : Below w16.heap.size w16 (w16.alloc (.cells #[] 28 (0, 0))) := (Below.refl w16.heap.size w16).alloc (Nat.le_refl _) _
      have HBE := Lib.hid hba
      have HB16 := Lib.hid hb16'
      have HOE := Lib.hid (own_empty (K := cdKind 28) (P := fun _ => True) (heap_alloc_new w16 (.cells #[] 28 (0, 0))) (Nat.le_refl w16.heap.size))
      clear hix hb16 HR15 HB15 HC15 HXA15 hb16' hba
      go_wp2_with (first
        | (with_reducible show wpList _ _ _ (⟨some 55, _, _, _, _, _⟩ :: _) _ _
           go_must (
             refine wpList_putCos (w0 := w16) rfl (.tmp 53) (.tmp 54) _ rfl Try.underlying22 info_rd rfl _ [] L a1 c1 rfl HOE.out rfl (H1.out.below HB16.out) HBE.out (by unfold maxLen; simp; omega) (by simp; omega) ?_
             intro v7 w7 ho7 hb7
             obtain ⟨q7, c7, e7⟩ := own_formX ho7
             rw [List.nil_append] at ho7 e7
             subst e7
             have HO7 := Lib.hid ho7
             have HB7 := Lib.hid (HBE.out.trans hb7)
             clear ho7 hb7 HOE HBE))
        | (with_reducible show wpList _ _ _ (⟨some 57, _, _, _, _, _⟩ :: _) _ _
           go_must (
             refine wpList_putCos (w0 := w16) rfl (.tmp 55) (.tmp 56) _ rfl Try.underlying22 info_rd rfl _ L M a2 c2 rfl HO7.out rfl (H2.out.below HB16.out) HB7.out (by unfold maxLen; omega) (by omega) ?_
             intro v8 w18 ho8 hb8
             rw [← HX.out] at ho8
             obtain ⟨q18, c18, e8⟩ := own_formX ho8
             subst e8
             have HO18 := Lib.hid (cosl_of_own ho8)
             have HB18 := Lib.hid (HB7.out.trans hb8)
             clear ho8 hb8 HO7 HB7)))
      have HB19 := Lib.hid (HB16.out.trans (HB18.out.mono HB16.out.size))
      have HXA18 := Lib.hid (HXA16.out.below HB18.out)
      have HXB18 := Lib.hid (HXB16.out.below HB18.out)
      have HR18 := Lib.hid (below_rowX HB18.out HR16.out)
      clear HB18 HB16 HXA16 HXB16 HR16
      go_wp2_with fail
      refine (go_codes X _ _ HO18.out (by rw [HX.out]; exact HA.out.2.2) (by omega)).mono ?_
      rintro e19 w19 ⟨v19, rfl, hc19, hb19⟩
      have HC19 := Lib.hid hc19
      have HXA19 := Lib.hid (HXA18.out.below hb19)
      have HXB19 := Lib.hid (HXB18.out.below hb19)
      have HR19 := Lib.hid (below_rowX hb19 HR18.out)
      have HB20 := Lib.hid (HB19.out.trans (hb19.mono HB19.out.size))
      clear hc19 hb19 HR18 HB19 HXA18 HXB18 HO18
      go_wp2_with fail
      refine (go_New X _ _ HC19.out (by rw [HX.out]; exact HA.out.2.2) (by omega)).mono ?_
      rintro e21 w21 ⟨rfl, MX, RX, hix, hb21⟩
      have HXX := Lib.hid hix
      have HXA := Lib.hid (HXA19.out.below hb21)
      have HXB := Lib.hid (HXB19.out.below hb21)
      have HR := Lib.hid (below_rowX hb21 HR19.out)
      have HB21 := Lib.hid (HB20.out.trans (hb21.mono HB20.out.size))
      clear hix hb21 HR19 HB20 HC19 HXA19 HXB19
      obtain ⟨y0, y1, y2, y3⟩ := row4 HR.out
      go_wp2_with fail
      refine (go_Pick (by rw [List.length_map]; exact HXA.out) (by rw [List.length_map]; omega) T.k T.n T.s ta T.args.length tc T.args.length).mono ?_
      rintro e22 w22 ⟨v22, rfl, ho22, hb22⟩
      have HR22 := Lib.hid (below_rowX hb22 HR.out)
      have HXB22 := Lib.hid (HXB.out.below hb22)
      have HB22 := Lib.hid hb22
      have HO22 := Lib.hid ho22
      clear hb22 ho22 y0 y1 y2 y3
      obtain ⟨y0, y1, y2, y3⟩ := row4 HR22.out
      obtain ⟨PA, hPA⟩ : ∃ PA, PA = pickL (L.map codeK) T.k (termK T.k T.n T.s T.args.length) := ⟨_, rfl⟩
      rw [← hPA] at HO22
      have HPA := Lib.hid hPA
      clear hPA
      obtain ⟨q22, c22, e22⟩ := own_formX HO22.out
      subst e22
      go_wp2_with fail
      refine (go_Pick (by rw [List.length_map]; exact HXB22.out) (by rw [List.length_map]; omega) T.k T.n T.s ta T.args.length tc T.args.length).mono ?_
      rintro e24 w24 ⟨v24, rfl, ho24, hb24⟩
      obtain ⟨PB, hPB⟩ : ∃ PB, PB = pickL (M.map codeK) T.k (termK T.k T.n T.s T.args.length) := ⟨_, rfl⟩
      rw [← hPB] at ho24
      have hlow : ∀ x ∈ PB, 0 ≤ x ∧ x < 30 := fun x hx => by
        rw [hPB] at hx
        have := pick_low x hx
        rw [List.length_map] at this
        omega
      have HLOW := Lib.hid hlow
      have HPB := Lib.hid hPB
      have hlA : PA.length ≤ 30 := by
        rw [HPA.out]
        have := pick_len (L := L.map codeK) (k := T.k) (q := termK T.k T.n T.s T.args.length)
        rw [List.length_map] at this
        omega
      have hlB : PB.length ≤ 30 := by
        rw [hPB]
        have := pick_len (L := M.map codeK) (k := T.k) (q := termK T.k T.n T.s T.args.length)
        rw [List.length_map] at this
        omega
      have hst2 : WnRel PA PB L.length v24 w21 (.int .i64 ((0 : Nat) : Int)) (.slice q22 PA.length c22) w24 := ⟨0, by omega, rfl, by simpa using HO22.out.below hb24, (own_intsJ ho24).impX (Nat.le_refl _) (fun b hb _ e => by have := (HO22.out.low b e).2; omega) (fun _ _ _ => rfl), HB22.out.trans (hb24.mono HB22.out.size)⟩
      have HST2 := Lib.hid hst2
      obtain ⟨q24, c24, e24⟩ := own_formX ho24
      subst e24
      clear hPB hlow hst2 hb24 ho24 y0 y1 y2 y3 HR22 HXB22 HB22 HO22
      go_wp2
      go_loopw [73, 13] (fun v73 v13 wr => WnRel PA PB L.length (.slice q24 PB.length c24) w21 v73 v13 wr) (fun v73 _ _ => PB.length - (intOf v73).toNat)
      case atStart => exact HST2.out
      case round =>
        clear HST2
        obtain ⟨i2, hi2, rfl, ho, hs, hbel⟩ := hrel
        obtain ⟨q13, c13, e13⟩ := own_formX ho
        have hln : (PA ++ (PB.take i2).map (· + (L.length : Int))).length = PA.length + i2 := by rw [List.length_append, List.length_map, List.length_take]; omega
        rw [hln] at e13
        subst e13
        have HO := Lib.hid ho
        have HS := Lib.hid hs
        have HBEL := Lib.hid hbel
        have HLN := Lib.hid hln
        clear ho hs hbel hln
        by_cases hil2 : i2 < PB.length
        · have b3 : decide ((i2 : Int) < (PB.length : Int)) = true := by simp; omega
          obtain ⟨b2, o2, rfl, x1, hP1, hP2⟩ := HS.out.head i2 hil2
          obtain ⟨y, hy⟩ : ∃ y, y = PB[i2] := ⟨_, rfl⟩
          have hyl := HLOW.out _ (List.getElem_mem hil2)
          rw [← hy] at x1 hyl
          have htk : (PB.take (i2 + 1)).map (· + (L.length : Int)) = (PB.take i2).map (· + (L.length : Int)) ++ [y + L.length] := by rw [List.take_succ_eq_append_getElem hil2, List.map_append, hy]; rfl
          have HTK := Lib.hid htk
          obtain ⟨hy0, hy1⟩ := hyl
          clear hy htk hP1 hP2
          have hba : Below wr.heap.size wr (wr.alloc (.cells #[.int .i64 (y + (L.length : Int))] 3 (0, 0))) := (Below.refl wr.heap.size wr).alloc (Nat.le_refl _) _
          have HO2 := Lib.hid (HO.out.below hba)
          have HS2 := Lib.hid (HS.out.below hba)
          have HN2 := Lib.hid (heap_alloc_new wr (.cells #[.int .i64 (y + (L.length : Int))] 3 (0, 0)))
          have hB2 := HBEL.out.trans (hba.mono HBEL.out.size)
          have HB2 := Lib.hid hB2
          have HZ2 := Lib.hid hB2.size
          clear hba hB2 HO HS HBEL
          go_wp2_with (with_reducible show wpList _ _ _ (⟨some 83, _, _, _, _, _⟩ :: _) _ _
                       go_must (
                         refine wpList_put (K := jKind) rfl (.tmp 77) (.tmp 82) _ rfl Try.underlying37 info_j rfl w21.heap.size (fun _ => False) _ (PA ++ (PB.take i2).map (· + (L.length : Int))) [.int .i64 (y + (L.length : Int))] (y + (L.length : Int)) _ _ _ _ rfl HO2.out rfl HN2.out rfl (by rw [HLN.out]; unfold maxLen; omega) (by rw [HLN.out]; omega) HZ2.out ?_
                         intro v9 w9 ho9 hb9 hg9 hv9
                         rw [List.append_assoc, ← HTK.out] at ho9
                         obtain ⟨q9, c9, e9⟩ := own_formX ho9
                         have HRL := Lib.hid (show WnRel PA PB L.length (.slice (some ⟨b2, o2, none⟩) PB.length c24) w21 (.int .i64 ((i2 + 1 : Nat) : Int)) v9 w9 from ⟨i2 + 1, by omega, rfl, ho9, HS2.out.impX hg9.size (fun b hb hbl e => (hv9 b e).elim hb fun h => by omega) (fun b hb hbl => hg9.block b hbl fun e => hb e.symm), HB2.out.trans hb9⟩)
                         clear ho9 hb9 hg9 hv9 e9 HO2 HS2 HN2 HB2 HZ2 HTK))
          go_roundw
          case measure => simp [intOf]; omega
          case rel => exact HRL.out
        · have b3 : decide ((i2 : Int) < (PB.length : Int)) = false := by simp; omega
          have e2 : i2 = PB.length := by omega
          subst e2
          have hpx : pickL (X.map codeK) T.k (termK T.k T.n T.s T.args.length) = PA ++ (PB.take PB.length).map (· + (L.length : Int)) := by
            rw [HX.out, HPA.out, HPB.out, List.take_length, List.map_append, pick_two, List.length_map]
          have HPX := Lib.hid hpx
          obtain ⟨PW, hPW⟩ : ∃ PW, PW = PA ++ (PB.take PB.length).map (· + (L.length : Int)) := ⟨_, rfl⟩
          have hwl : PW.length ≤ 60 := by rw [hPW, HLN.out]; omega
          have HO9 := Lib.hid (show Own jKind wr w21.heap.size (fun _ => False) (.slice q13 (PA.length + PB.length) c13) PW from by rw [hPW]; exact HO.out)
          have HR9 := Lib.hid (below_rowX HBEL.out HR.out)
          have HXX9 := Lib.hid (HXX.out.below HBEL.out)
          have HXA9 := Lib.hid (HXA.out.below HBEL.out)
          have HXB9 := Lib.hid (HXB.out.below HBEL.out)
          have HB9 := Lib.hid (HB21.out.trans (HBEL.out.mono HB21.out.size))
          rw [← hPW] at hpx
          have hK := keysO_two (L.map codeK) (M.map codeK)
          rw [← List.map_append, ← HX.out] at hK
          have hKl := keysO_len (L.map codeK)
          rw [List.length_map] at hKl
          have HPZ := Lib.hid hpx
          obtain ⟨kX, hkX⟩ : ∃ kX, kX = (keysO (X.map codeK)).length := ⟨_, rfl⟩
          obtain ⟨kL, hkL⟩ : ∃ kL, kL = (keysO (L.map codeK)).length := ⟨_, rfl⟩
          obtain ⟨kM, hkM⟩ : ∃ kM, kM = (keysO (M.map codeK)).length := ⟨_, rfl⟩
          have hKm := keysO_len (M.map codeK)
          rw [List.length_map] at hKm
          rw [← hkX, ← hkL, ← hkM] at hK
          rw [← hkL] at hKl
          rw [← hkM] at hKm
          have HKX := Lib.hid hkX
          have HKL := Lib.hid hkL
          have HKM := Lib.hid hkM
          clear hpx hPW HPX HO HS HR HXX HXA HXB HBEL HB21 hkX hkL hkM
          obtain ⟨y0, y1, y2, y3⟩ := row4 HR9.out
          go_wp2_with fail
          refine (go_Pick (by rw [List.length_map]; exact HXX9.out) (by rw [List.length_map]; omega) T.k T.n T.s ta T.args.length tc T.args.length).mono ?_
          rintro e30 w30 ⟨v30, rfl, ho30, hb30⟩
          rw [HPZ.out] at ho30
          have hi30 := own_intsJ ho30
          have HI30 := Lib.hid hi30
          have HO30 := Lib.hid (own_intsJ (HO9.out.below hb30))
          have HXX30 := Lib.hid (HXX9.out.below hb30)
          have HXA30 := Lib.hid (HXA9.out.below hb30)
          have HXB30 := Lib.hid (HXB9.out.below hb30)
          have HB30 := Lib.hid (HB9.out.trans (hb30.mono HB9.out.size))
          obtain ⟨q30, c30, e30⟩ := own_formX ho30
          subst e30
          clear ho30 hi30 hb30 HXX9 HXA9 HXB9 HB9 HO9 y0 y1 y2 y3 HR9
          go_wp2_with fail
          refine (go_ints PW PW _ _ _ _ _ HI30.out HO30.out (by omega) (by omega)).mono ?_
          rintro e31 w31 ⟨rfl, hb31⟩
          rw [show decide (PW = PW) = true from decide_eq_true rfl]
          have HXX31 := Lib.hid (HXX30.out.below hb31)
          have HXA31 := Lib.hid (HXA30.out.below hb31)
          have HXB31 := Lib.hid (HXB30.out.below hb31)
          have HB31 := Lib.hid (HB30.out.trans (hb31.mono HB30.out.size))
          clear hb31 HXX30 HXA30 HXB30 HB30 HI30 HO30
          go_wp2_with fail
          refine (go_Keys HXX31.out).mono ?_
          rintro e40 w40 ⟨rfl, rfl⟩
          rw [← HKX.out]
          go_wp2_with fail
          refine (go_Keys HXA31.out).mono ?_
          rintro e40 w40 ⟨rfl, rfl⟩
          rw [← HKL.out]
          go_wp2_with fail
          refine (go_Keys HXB31.out).mono ?_
          rintro e40 w40 ⟨rfl, rfl⟩
          rw [← HKM.out]
          go_wp2_with fail
          refine (go_Keys HXX31.out).mono ?_
          rintro e40 w40 ⟨rfl, rfl⟩
          rw [← HKX.out]
          go_wp2_with fail
          refine (go_Keys HXA31.out).mono ?_
          rintro e40 w40 ⟨rfl, rfl⟩
          rw [← HKL.out]
          go_wp2_with fail
          refine (go_Keys HXB31.out).mono ?_
          rintro e40 w40 ⟨rfl, rfl⟩
          rw [← HKM.out]
          go_wp2_with fail
          refine (go_Keys HXA31.out).mono ?_
          rintro e40 w40 ⟨rfl, rfl⟩
          rw [← HKL.out]
          go_wp2
          go_ret
          exact ⟨rfl, HB31.out⟩
end Go.Proofs.Ytcmgfelbbmeanaa.Tms
