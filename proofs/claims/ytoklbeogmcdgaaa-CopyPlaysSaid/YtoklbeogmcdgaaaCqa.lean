
/-
  copy.of of the program, walked with each of its function literals, for any cells (printed by gen_coq.py).
  Copy's function literal, walked, whatever Put answers; copy.Copy from any store into any store, the same one too.
  copy.Alike, walked, for any cells.
-/
import Derived.Test.YtoklbeogmcdgaaaPlv
import Derived.Test.YtoklbeogmcdgaaaNumP
import Derived.Test.YtoklbeogmcdgaaaNum
import Derived.Test.YtoklbeogmcdgaaaCmp
namespace Go.Proofs.Ytoklbeogmcdgaaa.Tms
open Go Go.RowKit Go.Proofs.Ytoklbeogmcdgaaa.Reg Go.Proofs.Ytoklbeogmcdgaaa.Rws Go.Proofs.Ytoklbeogmcdgaaa.Maps
set_option linter.unusedVariables false
set_option linter.unusedSimpArgs false

noncomputable def glT (S : Sto) (x : Int) : Tm := (getL S x).1
noncomputable def glE (S : Sto) (x : Int) : Int := (getL S x).2
/-- the first error of what is got -/
noncomputable def glsE (S : Sto) : List Int → Int
  | [] => 0
  | x :: l => if glE S x ≠ 0 then glE S x else glsE S l
theorem glsE_ok {S : Sto} : ∀ (l : List Int), (∀ x ∈ l, glE S x = 0) → glsE S l = 0
  | [], _ => rfl
  | x :: l, h => by
    unfold glsE
    rw [if_neg (by rw [h x (List.mem_cons_self ..)]; simp)]
    exact glsE_ok l fun y hy => h y (List.mem_cons_of_mem _ hy)
theorem glsE_at {S : Sto} : ∀ (l : List Int) (i : Nat) (hi : i < l.length), (∀ x ∈ l.take i, glE S x = 0) → glE S l[i] ≠ 0 → glsE S l = glE S l[i]
  | x :: l, 0, hi, h, he => by unfold glsE; exact if_pos he
  | x :: l, i + 1, hi, h, he => by
    unfold glsE
    rw [if_neg (by rw [h x (by simp)]; simp)]
    exact glsE_at l i (by simpa using hi) (fun y hy => h y (by simp [hy])) (by simpa using he)
theorem ints_pickQ {w : World} {P : Nat → Prop} {q : Option Addr} {n c : Nat} {L : List Int} (h : IntSl w P (.slice q n c) L) (i : Nat) (hi : i < L.length) : ∃ b off, q = some ⟨b, off, none⟩ ∧ w.cell? ⟨b, off + i, none⟩ = some (.int .i64 L[i]) := by
  obtain ⟨a', c', e, -, -, h3⟩ := h
  obtain ⟨b, off, e1, -, -, hc⟩ := h3 i hi
  simp only [Value.slice.injEq] at e
  exact ⟨b, off, by rw [e.1]; exact e1, hc⟩
theorem ints_roomQ {w : World} {P : Nat → Prop} {q : Option Addr} {n c : Nat} {L : List Int} (h : IntSl w P (.slice q n c) L) : n ≤ c ∧ c ≤ maxLen := by
  obtain ⟨a', c', e, h1, h2, -⟩ := h
  simp only [Value.slice.injEq] at e
  obtain ⟨-, rfl, rfl⟩ := e
  exact ⟨h1, h2⟩
/-- so many are got -/
structure OqAt (w : World) (S : Sto) (cs : List Int) (i : Nat) (lv : Value) (wr : World) : Prop where
  le : i ≤ cs.length
  bel : Below w.heap.size w wr
  own : Own tmKind wr w.heap.size (fun b => w.heap.size ≤ b) lv ((cs.take i).map (glT S))
  okE : ∀ x ∈ cs.take i, glE S x = 0
theorem OqAt.start {w : World} {S : Sto} {cs : List Int} : OqAt w S cs 0 (.slice none 0 0) w :=
  ⟨Nat.zero_le _, Below.refl _ _, Own.nil _ _ _, fun x hx => by simp at hx⟩
theorem OqAt.form {w wr : World} {S : Sto} {cs : List Int} {lv : Value} {i : Nat} (h : OqAt w S cs i lv wr) : ∃ q c, lv = .slice q i c := by
  obtain ⟨q, c, e⟩ := own_form h.own
  rw [List.length_map, List.length_take, Nat.min_eq_left h.le] at e
  exact ⟨q, c, e⟩
/-- the next one is got -/
structure OqGot (w : World) (S : Sto) (cs : List Int) (i : Nat) (x : Int) (lv : Value) (a : Option Addr) (c : Nat) (wr : World) : Prop extends OqAt w S cs i lv wr where
  el : tmKind.R wr (fun b => w.heap.size ≤ b ∧ lv.ownBlock ≠ some b) [.int .i64 (glT S x).k, .int .i64 (glT S x).n, .string (glT S x).s, .slice a (glT S x).args.length c] (glT S x)
theorem OqAt.got {w wr w' : World} {S : Sto} {cs : List Int} {lv : Value} {i : Nat} {x : Int} {a : Option Addr} {c : Nat} (h : OqAt w S cs i lv wr) (hb : Below wr.heap.size wr w') (hi1 : IsTm w' (fun b => wr.heap.size ≤ b) (.agg #[.int .i64 (glT S x).k, .int .i64 (glT S x).n, .string (glT S x).s, .slice a (glT S x).args.length c]) (glT S x)) : OqGot w S cs i x lv a c w' where
  le := h.le
  bel := h.bel.trans (hb.mono h.bel.size)
  own := h.own.below hb
  okE := h.okE
  el := tmKind.mono (fun b hb => ⟨Nat.le_trans h.bel.size hb, fun e => by have := (h.own.low b e).2; have hb' : wr.heap.size ≤ b := hb; omega⟩) (fun _ _ _ => rfl) hi1.cells
theorem OqGot.below {w wr w' : World} {S : Sto} {cs : List Int} {lv : Value} {i : Nat} {x : Int} {a : Option Addr} {c : Nat} (h : OqGot w S cs i x lv a c wr) (hb : Below wr.heap.size wr w') : OqGot w S cs i x lv a c w' where
  le := h.le
  bel := h.bel.trans (hb.mono h.bel.size)
  own := h.own.below hb
  okE := h.okE
  el := tmKind.mono (fun b hb => hb.1) (fun b h1 h2 => hb.block b h2) (tmKind.lt h.el)
theorem OqGot.put {w wr w' : World} {S : Sto} {cs : List Int} {lv v' : Value} {i : Nat} {x : Int} {a : Option Addr} {c : Nat} (h : OqGot w S cs i x lv a c wr) (hi : i < cs.length) (hx : x = cs[i]) (he : glE S x = 0) (ho : Own tmKind w' w.heap.size (fun b => w.heap.size ≤ b) v' ((cs.take i).map (glT S) ++ [glT S x])) (hg : wr.grownBy w' lv.ownBlock) : OqAt w S cs (i + 1) v' w' := by
  have hlo := h.own.low
  refine ⟨by omega, h.bel.grown hg h.bel.size fun b e => (hlo b e).1, ?_, ?_⟩
  · rw [List.take_succ_eq_append_getElem hi, List.map_append, List.map_singleton, ← hx]
    exact ho
  · intro y hy
    rw [List.take_succ_eq_append_getElem hi, List.mem_append, List.mem_singleton] at hy
    rcases hy with hy | rfl
    · exact h.okE y hy
    · rw [← hx]
      exact he
theorem OqAt.bad {w wr : World} {S : Sto} {cs : List Int} {lv : Value} {i : Nat} {x : Int} (h : OqAt w S cs i lv wr) (hi : i < cs.length) (hx : x = cs[i]) (he : glE S x ≠ 0) : glsE S cs = glE S x := by
  subst hx
  exact glsE_at cs i hi h.okE he
theorem OqAt.ok {w wr : World} {S : Sto} {cs : List Int} {lv : Value} (h : OqAt w S cs cs.length lv wr) : glsE S cs = 0 := by
  have := h.okE
  rw [List.take_length] at this
  exact glsE_ok cs this
theorem OqAt.full {w wr : World} {S : Sto} {cs : List Int} {lv : Value} (h : OqAt w S cs cs.length lv wr) : IsSl wr (fun b => w.heap.size ≤ b) lv (cs.map (glT S)) := by
  have ho := h.own
  rw [List.take_length] at ho
  exact (own_reads ho).low.imp (fun b hb => by rcases hb.1 with h | h <;> exact h) fun _ _ _ => rfl
set_option maxRecDepth 100000 in
set_option maxHeartbeats 4000000 in
/-- copy.of with prolix/copy.Copy$1 (printed by gen_coq.py) -/
theorem cq_of1 {w : World} {p : Nat} {S : Sto} {D : Nat → Prop} (h : StoAt w D p S) (hI : Inv S) (cs : List Int) (hn : cs.length ≤ 1000) (sv : Value) {P : Nat → Prop} (hs : IntSl w P sv cs) (c0_ c1_ : Value) (er : Int) (Q : World → Prop)
    (hbad : glsE S cs ≠ 0 → er = glsE S cs ∧ ∀ W, Below w.heap.size w W → Q W)
    (hgood : glsE S cs = 0 → ∀ q c W, Below w.heap.size w W → IsSl W (fun b => w.heap.size ≤ b) (.slice q cs.length c) (cs.map (glT S)) → Calls Try.prog 82 #[.slice q cs.length c, c0_, c1_] W fun e w' => e = .returned (.int .i64 er) ∧ Q w') :
    Calls Try.prog 81 #[.pointer (some ⟨p, 0, none⟩), sv, .func (.func 82) #[] #[c0_, c1_]] w fun e w' => e = .returned (.int .i64 er) ∧ Q w' := by
  obtain ⟨q, cc, rfl⟩ := hs.form
  have hrm := ints_roomQ hs
  have H := Lib.hid h
  have HI := Lib.hid hI
  have HS := Lib.hid hs
  have HBAD := Lib.hid hbad
  have HGOOD := Lib.hid hgood
  have HST := Lib.hid (OqAt.start (w := w) (S := S) (cs := cs))
  clear h hI hs hbad hgood
  go_enter Try.func81, Try.ntmps81
  go_wp2
  go_loopw [7, 16] (fun v7 v16 wr => ∃ i, v16 = .int .i64 ((i : Nat) : Int) ∧ OqAt w S cs i v7 wr) (fun _ v16 _ => cs.length - (intOf v16).toNat)
  case atStart => exact ⟨0, rfl, HST.out⟩
  case round =>
    obtain ⟨i, rfl, hat⟩ := hrel
    clear HST
    obtain ⟨q7, c7, rfl⟩ := hat.form
    have hlo := hat.own.low
    have hbs := hat.bel.size
    have hile := hat.le
    have HAT := Lib.hid hat
    clear hat
    by_cases hi : i < cs.length
    · have b1 : decide ((i : Int) < (cs.length : Int)) = true := by simp; omega
      obtain ⟨bb, off, e1, hc⟩ := ints_pickQ (HS.out.below HAT.out.bel) i hi
      obtain rfl := e1
      obtain ⟨x, hx⟩ : ∃ x, x = cs[i] := ⟨_, rfl⟩
      rw [← hx] at hc
      have HX := Lib.hid hx
      clear hx
      go_wp2_with fail
      refine (sto_GetL wr (H.out.below HAT.out.bel) HI.out x).mono ?_
      rintro e1 w1 ⟨v1, rfl, i1, b1_⟩
      obtain ⟨a1, c1, rfl⟩ : ∃ a1 c1, v1 = .agg #[.int .i64 (glT S x).k, .int .i64 (glT S x).n, .string (glT S x).s, .slice a1 (glT S x).args.length c1] := by
        obtain ⟨a1, c1, e⟩ := i1.form
        exact ⟨a1, c1, e⟩
      have hbA := below_new w1 (.cells #[.int .i64 (glT S x).k, .int .i64 (glT S x).n, .string (glT S x).s, .slice a1 (glT S x).args.length c1] 33 (0, 0))
      have hrA := heap_alloc_new w1 (.cells #[.int .i64 (glT S x).k, .int .i64 (glT S x).n, .string (glT S x).s, .slice a1 (glT S x).args.length c1] 33 (0, 0))
      have HT1 := Lib.hid (HAT.out.got (x := x) b1_ i1)
      obtain ⟨er1, her1⟩ : ∃ e, e = glE S x := ⟨_, rfl⟩
      have hgl : (getL S x).2 = er1 := her1.symm
      rw [hgl]
      clear i1 hc b1_ hgl
      by_cases he : er1 = 0
      · subst he
        have HE := Lib.hid her1.symm
        clear her1
        have HT2 := Lib.hid (HT1.out.below hbA)
        obtain ⟨u0, u1, u2, u3⟩ := row4 hrA
        clear HT1 hbA hrA
        go_upto_region 10 with fail
        generalize w1.alloc (.cells #[.int .i64 (glT S x).k, .int .i64 (glT S x).n, .string (glT S x).s, .slice a1 (glT S x).args.length c1] 33 (0, 0)) = w2 at *
        have hbB := below_new w2 (.cells #[.int .i64 (glT S x).k, .int .i64 (glT S x).n, .string (glT S x).s, .slice a1 (glT S x).args.length c1] 33 (0, 0))
        have HRB := Lib.hid (heap_alloc_new w2 (.cells #[.int .i64 (glT S x).k, .int .i64 (glT S x).n, .string (glT S x).s, .slice a1 (glT S x).args.length c1] 33 (0, 0)))
        have HT3 := Lib.hid (HT2.out.below hbB)
        have hlt : ((cs.take i).map (glT S)).length = i := by rw [List.length_map, List.length_take]; omega
        have HLT := Lib.hid hlt
        clear hbB HT2 hlt
        go_wp2_with (with_reducible show wpList _ _ _ (⟨some 32, _, _, _, _, _⟩ :: _) _ _
                     refine wpList_put (K := tmKind) rfl (.tmp 29) (.tmp 31) _ rfl Try.underlying31 info_tm rfl w.heap.size (fun b => w.heap.size ≤ b) (.slice q7 i c7) ((cs.take i).map (glT S)) [.int .i64 (glT S x).k, .int .i64 (glT S x).n, .string (glT S x).s, .slice a1 (glT S x).args.length c1] (glT S x) _ _ _ _ rfl HT3.out.own rfl HRB.out HT3.out.el (by rw [HLT.out]; unfold maxLen; omega) (by rw [HLT.out]; omega) HT3.out.bel.size ?_
                     intro v4 w4 ho4 hb4 hg4 hv4
                     have HN4 := Lib.hid (HT3.out.put hi HX.out HE.out ho4 hg4)
                     clear ho4 hb4 hg4 hv4 u0 u1 u2 u3)
        go_roundw
        case measure => simp [intOf]; omega
        case rel => exact ⟨i + 1, rfl, HN4.out⟩
      · have e2 : (er1 != 0) = true := by simpa using he
        have hge := HAT.out.bad hi HX.out (by rw [← her1]; exact he)
        rw [← her1] at hge
        obtain ⟨rfl, hQ⟩ := HBAD.out (by rw [hge]; exact he)
        have hT2 := HT1.out.below hbA
        have HQ := Lib.hid (hQ _ hT2.bel)
        have HGE := Lib.hid hge
        have HER := Lib.hid her1
        clear her1
        obtain ⟨u0, u1, u2, u3⟩ := row4 hrA
        clear hT2 hbA hrA HT1 hQ hge
        go_wp2
        go_ret
        rw [HGE.out]
        exact ⟨rfl, HQ.out⟩
    · have b1 : decide ((i : Int) < (cs.length : Int)) = false := by simp; omega
      have ei : i = cs.length := by omega
      subst ei
      have hfin := HAT.out.full
      have hok := HAT.out.ok
      have HC := Lib.hid (HGOOD.out hok q7 c7 _ HAT.out.bel hfin)
      clear hfin hok
      go_wp2_with fail
      refine HC.out.mono ?_
      rintro e5 w5 ⟨rfl, hQ⟩
      have HQ := Lib.hid hQ
      clear hQ
      go_wp2
      go_ret
      exact ⟨rfl, HQ.out⟩
set_option maxRecDepth 100000 in
set_option maxHeartbeats 4000000 in
/-- copy.of with prolix/copy.Alike$1 (printed by gen_coq.py) -/
theorem cq_of2 {w : World} {p : Nat} {S : Sto} {D : Nat → Prop} (h : StoAt w D p S) (hI : Inv S) (cs : List Int) (hn : cs.length ≤ 1000) (sv : Value) {P : Nat → Prop} (hs : IntSl w P sv cs) (c0_ : Value) (er : Int) (Q : World → Prop)
    (hbad : glsE S cs ≠ 0 → er = glsE S cs ∧ ∀ W, Below w.heap.size w W → Q W)
    (hgood : glsE S cs = 0 → ∀ q c W, Below w.heap.size w W → IsSl W (fun b => w.heap.size ≤ b) (.slice q cs.length c) (cs.map (glT S)) → Calls Try.prog 83 #[.slice q cs.length c, c0_] W fun e w' => e = .returned (.int .i64 er) ∧ Q w') :
    Calls Try.prog 81 #[.pointer (some ⟨p, 0, none⟩), sv, .func (.func 83) #[] #[c0_]] w fun e w' => e = .returned (.int .i64 er) ∧ Q w' := by
  obtain ⟨q, cc, rfl⟩ := hs.form
  have hrm := ints_roomQ hs
  have H := Lib.hid h
  have HI := Lib.hid hI
  have HS := Lib.hid hs
  have HBAD := Lib.hid hbad
  have HGOOD := Lib.hid hgood
  have HST := Lib.hid (OqAt.start (w := w) (S := S) (cs := cs))
  clear h hI hs hbad hgood
  go_enter Try.func81, Try.ntmps81
  go_wp2
  go_loopw [7, 16] (fun v7 v16 wr => ∃ i, v16 = .int .i64 ((i : Nat) : Int) ∧ OqAt w S cs i v7 wr) (fun _ v16 _ => cs.length - (intOf v16).toNat)
  case atStart => exact ⟨0, rfl, HST.out⟩
  case round =>
    obtain ⟨i, rfl, hat⟩ := hrel
    clear HST
    obtain ⟨q7, c7, rfl⟩ := hat.form
    have hlo := hat.own.low
    have hbs := hat.bel.size
    have hile := hat.le
    have HAT := Lib.hid hat
    clear hat
    by_cases hi : i < cs.length
    · have b1 : decide ((i : Int) < (cs.length : Int)) = true := by simp; omega
      obtain ⟨bb, off, e1, hc⟩ := ints_pickQ (HS.out.below HAT.out.bel) i hi
      obtain rfl := e1
      obtain ⟨x, hx⟩ : ∃ x, x = cs[i] := ⟨_, rfl⟩
      rw [← hx] at hc
      have HX := Lib.hid hx
      clear hx
      go_wp2_with fail
      refine (sto_GetL wr (H.out.below HAT.out.bel) HI.out x).mono ?_
      rintro e1 w1 ⟨v1, rfl, i1, b1_⟩
      obtain ⟨a1, c1, rfl⟩ : ∃ a1 c1, v1 = .agg #[.int .i64 (glT S x).k, .int .i64 (glT S x).n, .string (glT S x).s, .slice a1 (glT S x).args.length c1] := by
        obtain ⟨a1, c1, e⟩ := i1.form
        exact ⟨a1, c1, e⟩
      have hbA := below_new w1 (.cells #[.int .i64 (glT S x).k, .int .i64 (glT S x).n, .string (glT S x).s, .slice a1 (glT S x).args.length c1] 33 (0, 0))
      have hrA := heap_alloc_new w1 (.cells #[.int .i64 (glT S x).k, .int .i64 (glT S x).n, .string (glT S x).s, .slice a1 (glT S x).args.length c1] 33 (0, 0))
      have HT1 := Lib.hid (HAT.out.got (x := x) b1_ i1)
      obtain ⟨er1, her1⟩ : ∃ e, e = glE S x := ⟨_, rfl⟩
      have hgl : (getL S x).2 = er1 := her1.symm
      rw [hgl]
      clear i1 hc b1_ hgl
      by_cases he : er1 = 0
      · subst he
        have HE := Lib.hid her1.symm
        clear her1
        have HT2 := Lib.hid (HT1.out.below hbA)
        obtain ⟨u0, u1, u2, u3⟩ := row4 hrA
        clear HT1 hbA hrA
        go_upto_region 10 with fail
        generalize w1.alloc (.cells #[.int .i64 (glT S x).k, .int .i64 (glT S x).n, .string (glT S x).s, .slice a1 (glT S x).args.length c1] 33 (0, 0)) = w2 at *
        have hbB := below_new w2 (.cells #[.int .i64 (glT S x).k, .int .i64 (glT S x).n, .string (glT S x).s, .slice a1 (glT S x).args.length c1] 33 (0, 0))
        have HRB := Lib.hid (heap_alloc_new w2 (.cells #[.int .i64 (glT S x).k, .int .i64 (glT S x).n, .string (glT S x).s, .slice a1 (glT S x).args.length c1] 33 (0, 0)))
        have HT3 := Lib.hid (HT2.out.below hbB)
        have hlt : ((cs.take i).map (glT S)).length = i := by rw [List.length_map, List.length_take]; omega
        have HLT := Lib.hid hlt
        clear hbB HT2 hlt
        go_wp2_with (with_reducible show wpList _ _ _ (⟨some 32, _, _, _, _, _⟩ :: _) _ _
                     refine wpList_put (K := tmKind) rfl (.tmp 29) (.tmp 31) _ rfl Try.underlying31 info_tm rfl w.heap.size (fun b => w.heap.size ≤ b) (.slice q7 i c7) ((cs.take i).map (glT S)) [.int .i64 (glT S x).k, .int .i64 (glT S x).n, .string (glT S x).s, .slice a1 (glT S x).args.length c1] (glT S x) _ _ _ _ rfl HT3.out.own rfl HRB.out HT3.out.el (by rw [HLT.out]; unfold maxLen; omega) (by rw [HLT.out]; omega) HT3.out.bel.size ?_
                     intro v4 w4 ho4 hb4 hg4 hv4
                     have HN4 := Lib.hid (HT3.out.put hi HX.out HE.out ho4 hg4)
                     clear ho4 hb4 hg4 hv4 u0 u1 u2 u3)
        go_roundw
        case measure => simp [intOf]; omega
        case rel => exact ⟨i + 1, rfl, HN4.out⟩
      · have e2 : (er1 != 0) = true := by simpa using he
        have hge := HAT.out.bad hi HX.out (by rw [← her1]; exact he)
        rw [← her1] at hge
        obtain ⟨rfl, hQ⟩ := HBAD.out (by rw [hge]; exact he)
        have hT2 := HT1.out.below hbA
        have HQ := Lib.hid (hQ _ hT2.bel)
        have HGE := Lib.hid hge
        have HER := Lib.hid her1
        clear her1
        obtain ⟨u0, u1, u2, u3⟩ := row4 hrA
        clear hT2 hbA hrA HT1 hQ hge
        go_wp2
        go_ret
        rw [HGE.out]
        exact ⟨rfl, HQ.out⟩
    · have b1 : decide ((i : Int) < (cs.length : Int)) = false := by simp; omega
      have ei : i = cs.length := by omega
      subst ei
      have hfin := HAT.out.full
      have hok := HAT.out.ok
      have HC := Lib.hid (HGOOD.out hok q7 c7 _ HAT.out.bel hfin)
      clear hfin hok
      go_wp2_with fail
      refine HC.out.mono ?_
      rintro e5 w5 ⟨rfl, hQ⟩
      have HQ := Lib.hid hQ
      clear hQ
      go_wp2
      go_ret
      exact ⟨rfl, HQ.out⟩
set_option maxRecDepth 100000 in
set_option maxHeartbeats 4000000 in
/-- copy.of with prolix/copy.Ground$1 (printed by gen_coq.py) -/
theorem cq_of3 {w : World} {p : Nat} {S : Sto} {D : Nat → Prop} (h : StoAt w D p S) (hI : Inv S) (cs : List Int) (hn : cs.length ≤ 1000) (sv : Value) {P : Nat → Prop} (hs : IntSl w P sv cs) (c0_ : Value) (er : Int) (Q : World → Prop)
    (hbad : glsE S cs ≠ 0 → er = glsE S cs ∧ ∀ W, Below w.heap.size w W → Q W)
    (hgood : glsE S cs = 0 → ∀ q c W, Below w.heap.size w W → IsSl W (fun b => w.heap.size ≤ b) (.slice q cs.length c) (cs.map (glT S)) → Calls Try.prog 96 #[.slice q cs.length c, c0_] W fun e w' => e = .returned (.int .i64 er) ∧ Q w') :
    Calls Try.prog 81 #[.pointer (some ⟨p, 0, none⟩), sv, .func (.func 96) #[] #[c0_]] w fun e w' => e = .returned (.int .i64 er) ∧ Q w' := by
  obtain ⟨q, cc, rfl⟩ := hs.form
  have hrm := ints_roomQ hs
  have H := Lib.hid h
  have HI := Lib.hid hI
  have HS := Lib.hid hs
  have HBAD := Lib.hid hbad
  have HGOOD := Lib.hid hgood
  have HST := Lib.hid (OqAt.start (w := w) (S := S) (cs := cs))
  clear h hI hs hbad hgood
  go_enter Try.func81, Try.ntmps81
  go_wp2
  go_loopw [7, 16] (fun v7 v16 wr => ∃ i, v16 = .int .i64 ((i : Nat) : Int) ∧ OqAt w S cs i v7 wr) (fun _ v16 _ => cs.length - (intOf v16).toNat)
  case atStart => exact ⟨0, rfl, HST.out⟩
  case round =>
    obtain ⟨i, rfl, hat⟩ := hrel
    clear HST
    obtain ⟨q7, c7, rfl⟩ := hat.form
    have hlo := hat.own.low
    have hbs := hat.bel.size
    have hile := hat.le
    have HAT := Lib.hid hat
    clear hat
    by_cases hi : i < cs.length
    · have b1 : decide ((i : Int) < (cs.length : Int)) = true := by simp; omega
      obtain ⟨bb, off, e1, hc⟩ := ints_pickQ (HS.out.below HAT.out.bel) i hi
      obtain rfl := e1
      obtain ⟨x, hx⟩ : ∃ x, x = cs[i] := ⟨_, rfl⟩
      rw [← hx] at hc
      have HX := Lib.hid hx
      clear hx
      go_wp2_with fail
      refine (sto_GetL wr (H.out.below HAT.out.bel) HI.out x).mono ?_
      rintro e1 w1 ⟨v1, rfl, i1, b1_⟩
      obtain ⟨a1, c1, rfl⟩ : ∃ a1 c1, v1 = .agg #[.int .i64 (glT S x).k, .int .i64 (glT S x).n, .string (glT S x).s, .slice a1 (glT S x).args.length c1] := by
        obtain ⟨a1, c1, e⟩ := i1.form
        exact ⟨a1, c1, e⟩
      have hbA := below_new w1 (.cells #[.int .i64 (glT S x).k, .int .i64 (glT S x).n, .string (glT S x).s, .slice a1 (glT S x).args.length c1] 33 (0, 0))
      have hrA := heap_alloc_new w1 (.cells #[.int .i64 (glT S x).k, .int .i64 (glT S x).n, .string (glT S x).s, .slice a1 (glT S x).args.length c1] 33 (0, 0))
      have HT1 := Lib.hid (HAT.out.got (x := x) b1_ i1)
      obtain ⟨er1, her1⟩ : ∃ e, e = glE S x := ⟨_, rfl⟩
      have hgl : (getL S x).2 = er1 := her1.symm
      rw [hgl]
      clear i1 hc b1_ hgl
      by_cases he : er1 = 0
      · subst he
        have HE := Lib.hid her1.symm
        clear her1
        have HT2 := Lib.hid (HT1.out.below hbA)
        obtain ⟨u0, u1, u2, u3⟩ := row4 hrA
        clear HT1 hbA hrA
        go_upto_region 10 with fail
        generalize w1.alloc (.cells #[.int .i64 (glT S x).k, .int .i64 (glT S x).n, .string (glT S x).s, .slice a1 (glT S x).args.length c1] 33 (0, 0)) = w2 at *
        have hbB := below_new w2 (.cells #[.int .i64 (glT S x).k, .int .i64 (glT S x).n, .string (glT S x).s, .slice a1 (glT S x).args.length c1] 33 (0, 0))
        have HRB := Lib.hid (heap_alloc_new w2 (.cells #[.int .i64 (glT S x).k, .int .i64 (glT S x).n, .string (glT S x).s, .slice a1 (glT S x).args.length c1] 33 (0, 0)))
        have HT3 := Lib.hid (HT2.out.below hbB)
        have hlt : ((cs.take i).map (glT S)).length = i := by rw [List.length_map, List.length_take]; omega
        have HLT := Lib.hid hlt
        clear hbB HT2 hlt
        go_wp2_with (with_reducible show wpList _ _ _ (⟨some 32, _, _, _, _, _⟩ :: _) _ _
                     refine wpList_put (K := tmKind) rfl (.tmp 29) (.tmp 31) _ rfl Try.underlying31 info_tm rfl w.heap.size (fun b => w.heap.size ≤ b) (.slice q7 i c7) ((cs.take i).map (glT S)) [.int .i64 (glT S x).k, .int .i64 (glT S x).n, .string (glT S x).s, .slice a1 (glT S x).args.length c1] (glT S x) _ _ _ _ rfl HT3.out.own rfl HRB.out HT3.out.el (by rw [HLT.out]; unfold maxLen; omega) (by rw [HLT.out]; omega) HT3.out.bel.size ?_
                     intro v4 w4 ho4 hb4 hg4 hv4
                     have HN4 := Lib.hid (HT3.out.put hi HX.out HE.out ho4 hg4)
                     clear ho4 hb4 hg4 hv4 u0 u1 u2 u3)
        go_roundw
        case measure => simp [intOf]; omega
        case rel => exact ⟨i + 1, rfl, HN4.out⟩
      · have e2 : (er1 != 0) = true := by simpa using he
        have hge := HAT.out.bad hi HX.out (by rw [← her1]; exact he)
        rw [← her1] at hge
        obtain ⟨rfl, hQ⟩ := HBAD.out (by rw [hge]; exact he)
        have hT2 := HT1.out.below hbA
        have HQ := Lib.hid (hQ _ hT2.bel)
        have HGE := Lib.hid hge
        have HER := Lib.hid her1
        clear her1
        obtain ⟨u0, u1, u2, u3⟩ := row4 hrA
        clear hT2 hbA hrA HT1 hQ hge
        go_wp2
        go_ret
        rw [HGE.out]
        exact ⟨rfl, HQ.out⟩
    · have b1 : decide ((i : Int) < (cs.length : Int)) = false := by simp; omega
      have ei : i = cs.length := by omega
      subst ei
      have hfin := HAT.out.full
      have hok := HAT.out.ok
      have HC := Lib.hid (HGOOD.out hok q7 c7 _ HAT.out.bel hfin)
      clear hfin hok
      go_wp2_with fail
      refine HC.out.mono ?_
      rintro e5 w5 ⟨rfl, hQ⟩
      have HQ := Lib.hid hQ
      clear hQ
      go_wp2
      go_ret
      exact ⟨rfl, HQ.out⟩
end Go.Proofs.Ytoklbeogmcdgaaa.Tms
namespace Go.Proofs.Ytoklbeogmcdgaaa.Tms
open Go Go.RowKit Go.Proofs.Ytoklbeogmcdgaaa.Reg Go.Proofs.Ytoklbeogmcdgaaa.Rws Go.Proofs.Ytoklbeogmcdgaaa.Maps
set_option linter.unusedVariables false
set_option linter.unusedSimpArgs false

/-- all but one row of the law's own stays -/
structure StepQ (D : Nat → Prop) (w : World) (D' : Nat → Prop) (w' : World) (X : Nat → Prop) : Prop where
  size : w.heap.size ≤ w'.heap.size
  blk : ∀ b, Free D w b → ¬ X b → Free D' w' b ∧ w'.heap[b]? = w.heap[b]?
set_option maxRecDepth 100000 in
set_option maxHeartbeats 4000000 in
theorem cq_put {w0 w : World} {p : Nat} {S : Sto} {D : Nat → Prop} (h : Law8 w0 p S D w) (hI : Inv S) {T : Tm} (hsz : T.size ≤ 20000) (r1 r2 : Int) (hr1 : (putA S [] (numT T)).1 = r1) (hr2 : (putA S [] (numT T)).2 = r2) (q : Option Addr) (c bx cl : Nat) (n0 : Int)
    (hT : IsSl w (fun b => ¬ D b) (.slice q 1 c) [T]) (hbx : RowF D w bx (.cells #[.pointer (some ⟨p, 0, none⟩)] 25 (0, 0))) (hcl : RowF D w cl (.cells #[.int .i64 n0] 3 (0, 0))) (h0 : w0.heap.size ≤ cl) :
    Calls Try.prog 82 #[.slice q 1 c, .pointer (some ⟨bx, 0, none⟩), .pointer (some ⟨cl, 0, none⟩)] w fun e w' => e = .returned (.int .i64 r2) ∧ ∃ D', Law8 w0 p (putW S [] (numT T)) D' w' ∧ StepQ D w D' w' (fun b => b = cl) ∧ RowF D' w' cl (.cells #[.int .i64 r1] 3 (0, 0)) := by
  have H := Lib.hid h
  have HI := Lib.hid hI
  have HR1 := Lib.hid hr1
  have HR2 := Lib.hid hr2
  have HT := Lib.hid hT
  have HBX := Lib.hid hbx
  have HCL := Lib.hid hcl
  clear h hI hr1 hr2 hT hbx hcl
  go_enter Try.func82, Try.ntmps82
  go_wp2
  refine wp_region_rest (by kernel_rfl) ?_
  have hd := H.out.below (Below.refl w.heap.size w).drew
  have HW := Lib.hid hd.1
  have HTW := Lib.hid (HT.out.below (Below.refl w.heap.size w).drew)
  have HBW := Lib.hid (HBX.out.step hd.2.1)
  have HCW := Lib.hid (HCL.out.step hd.2.1)
  have HSW := Lib.hid hd.2.1
  clear hd H HT HBX HCL
  generalize w.drew = W0 at *
  obtain ⟨b, off, rfl, hPb, hat⟩ := HTW.out.at 0 (by simp)
  obtain ⟨a1, c1, x0, x1, x2, x3, hi, hlt⟩ := hat.read
  simp only [Nat.zero_mul, Nat.add_zero, List.getElem_cons_zero] at x0 x1 x2 x3 hi
  have y0 : W0.cell? ⟨bx, 0, none⟩ = some (.pointer (some ⟨p, 0, none⟩)) := cell_of_row _ _ 0 _ _ _ HBW.out.2
  have HIT := Lib.hid hi
  have hc1 : (1 : Int) ≤ maxLen := by unfold maxLen; decide
  clear hat hi
  refine rest_chain 0 5 [(false, [0, 1, 2, 3]), (true, [4])] [(false, [_, _, _, _]), (true, [_])] rfl (by kernel_rfl) (by kernel_rfl) rfl (by kernel_rfl) (by kernel_rfl) (.inr (by kernel_rfl)) ?_
  refine chain_soft ?_
  intro E hE
  go_wp2
  clear x0 x1 x2 x3 y0
  refine chain_one ?_
  intro E hE
  go_wp2_with (refine (tm_Number T _ _ _ (by omega) HIT.out).mono ?_; rintro e2 w2 ⟨v2, rfl, hi2, hb2⟩; have HI2 := Lib.hid hi2; have HB2 := Lib.hid hb2; clear hi2 hb2)
  refine ⟨HB2.out, ?_⟩
  refine chain_nil ?_
  refine rest_lineL 5 6 [_] rfl (by kernel_rfl) (by decide) (by decide) (by kernel_rfl) ?_
  have h2 := HW.out.below HB2.out
  have HL2 := Lib.hid h2.1
  have HB2' := Lib.hid (HBW.out.step h2.2.1)
  have HC2 := Lib.hid (HCW.out.step h2.2.1)
  have HS2 := Lib.hid (HSW.out.trans h2.2.1)
  have hdl := HW.out.dl
  clear h2 HW HBW HCW HSW
  go_wp2_with fail
  refine (law_Put0 HL2.out HI.out HI2.out (fun b hb e => by have := hdl b e; rcases hb with hb | hb; exact hb; omega) (by rw [numT_size]; exact hsz)).mono ?_
  rintro e3 w3 ⟨rfl, D3, l3, s3⟩
  rw [HR1.out, HR2.out]
  have HL3 := Lib.hid l3
  have HS3 := Lib.hid (HS2.out.trans s3)
  have HC3 := Lib.hid (HC2.out.step s3)
  clear l3 s3 HL2 HS2 HC2 HB2' HI2 HIT HTW HB2
  dsimp only
  go_wp2
  refine then_rest ?_
  refine rest_chainP (fun u => u = w3) 6 10 (.soft 6 (.soft 7 (.soft 8 (.soft 9 .nil)))) (.soft _ (.soft _ (.soft _ (.soft _ .nil)))) ⟨rfl, ⟨rfl, ⟨rfl, ⟨rfl, trivial⟩⟩⟩⟩ (by kernel_rfl) (by kernel_rfl) (by kernel_rfl) (by kernel_rfl) (.inr (by kernel_rfl)) rfl ?_
  refine chainP_soft (a1 := ?ma1) (by kernel_rfl) (by kernel_rfl) ?mh1 ?mr1
  case mh1 =>
    intro u hu E hE
    subst hu
    go_wp2
    rfl
  refine chainP_soft (a1 := ?ma2) (by kernel_rfl) (by kernel_rfl) ?mh2 ?mr2
  case mh2 =>
    intro u hu E hE
    subst hu
    go_wp2
    rfl
  refine chainP_soft (a1 := ?ma3) (by kernel_rfl) (by kernel_rfl) ?mh3 ?mr3
  case mh3 =>
    intro u hu E hE
    subst hu
    go_wp2
    rfl
  refine chainP_soft (a1 := ?ma4) (by kernel_rfl) (by kernel_rfl) ?mh4 ?mr4
  case mh4 =>
    intro u hu E hE
    subst hu
    go_wp2
    rfl
  refine chainP_nil ?_
  refine rest_lineL 10 11 [_] rfl (by kernel_rfl) (by decide) (by decide) (by kernel_rfl) ?_
  have z0 := cell_of_row w3 cl 0 _ _ _ HC3.out.2
  have z1 := frozen_of_row w3 cl 0 _ _ HC3.out.2
  have hzc : (w3.setCell ⟨cl, 0, none⟩ (.int .i64 r1)).heap.size = w3.heap.size := by simp [World.setCell]
  have hoth : ∀ b, b ≠ cl → (w3.setCell ⟨cl, 0, none⟩ (.int .i64 r1)).heap[b]? = w3.heap[b]? := fun b hb => Below.heap_setCell _ _ _ _ hb
  have hown := heap_setCell_same w3 cl 0 _ _ (.int .i64 r1) HC3.out.2
  have hlaw : Law8 w0 p (putW S [] (numT T)) D3 (w3.setCell ⟨cl, 0, none⟩ (.int .i64 r1)) :=
    ⟨HL3.out.sto.keep (by omega) fun b hlt hb => hoth b fun e => HC3.out.1.1 (e ▸ hb), HL3.out.own, HL3.out.bel.setCell h0 _⟩
  have HOWN := Lib.hid (show RowF D3 (w3.setCell ⟨cl, 0, none⟩ (.int .i64 r1)) cl (.cells #[.int .i64 r1] 3 (0, 0)) from ⟨⟨HC3.out.1.1, by have := HC3.out.1.2; omega⟩, by simpa using hown⟩)
  have HSX := Lib.hid (show StepQ D w D3 (w3.setCell ⟨cl, 0, none⟩ (.int .i64 r1)) (fun b => b = cl) from ⟨by have := HS3.out.size; omega, fun b hb hx => ⟨⟨(HS3.out.blk b hb).1.1, by have := (HS3.out.blk b hb).1.2; omega⟩, (hoth b hx).trans (HS3.out.blk b hb).2⟩⟩)
  have HLW := Lib.hid hlaw
  clear hzc hoth hown hlaw
  go_wp2
  refine then_rest (rest_end (by decide) ?_)
  go_wp2
  go_ret
  exact ⟨rfl, D3, HLW.out, HSX.out, HOWN.out⟩

/-- what Copy answers -/
noncomputable def cpA (S T : Sto) (x : Int) : Int × Int := if glE S x ≠ 0 then (0, glE S x) else putA T [] (numT (glT S x))
noncomputable def cpW (S T : Sto) (x : Int) : Sto := if glE S x ≠ 0 then T else putW T [] (numT (glT S x))
theorem putA_zero (S : Sto) (M : List (Int × Int)) (t : Tm) (h : (putA S M t).2 ≠ 0) : (putA S M t).1 = 0 := by
  unfold putA at h ⊢
  split
  · rfl
  · split
    · rfl
    · split
      · rfl
      · simp_all
theorem glT_size (S : Sto) (x : Int) : (glT S x).size ≤ 20000 := by
  unfold glT getL
  split
  · exact getT_size _ _
  · decide
set_option maxRecDepth 100000 in
set_option maxHeartbeats 4000000 in
theorem cq_Copy {w0 w : World} {p1 p2 : Nat} {S1 S2 : Sto} {D1 D2 : Nat → Prop} (h1 : StoAt w D1 p1 S1) (hI1 : Inv S1) (h2 : Law8 w0 p2 S2 D2 w) (hI2 : Inv S2) (x : Int) :
    Calls Try.prog 43 #[.pointer (some ⟨p1, 0, none⟩), .int .i64 x, .pointer (some ⟨p2, 0, none⟩)] w fun e w' => e = .returned (.tuple #[.int .i64 (cpA S1 S2 x).1, .int .i64 (cpA S1 S2 x).2]) ∧ LawDid w0 p2 D2 w (cpW S1 S2 x) w' := by
  have H1 := Lib.hid h1
  have H2 := Lib.hid h2
  obtain ⟨A1, A2, hA⟩ : ∃ A1 A2, cpA S1 S2 x = (A1, A2) := ⟨_, _, rfl⟩
  obtain ⟨S3, hS3⟩ : ∃ S3, cpW S1 S2 x = S3 := ⟨_, rfl⟩
  rw [hA, hS3]
  dsimp only
  have HAA := Lib.hid hA
  have HSS := Lib.hid hS3
  clear hA hS3
  have HI1 := Lib.hid hI1
  have HI2 := Lib.hid hI2
  have hrA := heap_alloc_new w (.cells #[.pointer (some ⟨p2, 0, none⟩)] 25 (0, 0))
  have hbA := below_new w (.cells #[.pointer (some ⟨p2, 0, none⟩)] 25 (0, 0))
  have HRA := Lib.hid hrA
  have HBA := Lib.hid hbA
  clear h1 h2 hI1 hI2 hrA hbA
  go_enter Try.func43, Try.ntmps43
  go_upto_region 1 with fail
  have hzA : (w.alloc (.cells #[.pointer (some ⟨p2, 0, none⟩)] 25 (0, 0))).heap.size = w.heap.size + 1 := by simp
  obtain ⟨w1, hw1⟩ : ∃ w1, w1 = w.alloc (.cells #[.pointer (some ⟨p2, 0, none⟩)] 25 (0, 0)) := ⟨_, rfl⟩
  rw [← hw1] at HRA HBA hzA ⊢
  clear hw1
  have y0 : w1.cell? ⟨w.heap.size, 0, none⟩ = some (.pointer (some ⟨p2, 0, none⟩)) := cell_of_row _ _ 0 _ _ _ HRA.out
  go_upto_region 4 with fail
  have HRB := Lib.hid (heap_alloc_new w1 (.cells #[.int .i64 0] 3 (0, 0)))
  have HBB := Lib.hid (below_new w1 (.cells #[.int .i64 0] 3 (0, 0)))
  have hzB : (w1.alloc (.cells #[.int .i64 0] 3 (0, 0))).heap.size = w.heap.size + 2 := by simp; omega
  rw [hzA] at HRB
  obtain ⟨w2, hw2⟩ : ∃ w2, w2 = w1.alloc (.cells #[.int .i64 0] 3 (0, 0)) := ⟨_, rfl⟩
  rw [← hw2] at HRB HBB hzB ⊢
  have HRC := Lib.hid (heap_alloc_new w2 (.cells #[.int .i64 x] 3 (0, 0)))
  have HBC := Lib.hid (below_new w2 (.cells #[.int .i64 x] 3 (0, 0)))
  have HSL := Lib.hid (one_int w2 w2.heap.size (Nat.le_refl _) x 3)
  have hzC : (w2.alloc (.cells #[.int .i64 x] 3 (0, 0))).heap.size = w.heap.size + 3 := by simp; omega
  rw [hzB] at HRC HSL
  clear hw2 y0
  go_wp2_with fail
  obtain ⟨w3, hw3⟩ : ∃ w3, w3 = w2.alloc (.cells #[.int .i64 x] 3 (0, 0)) := ⟨_, rfl⟩
  rw [← hw3] at HRC HBC HSL hzC ⊢
  clear hw3
  have hb3 : Below w.heap.size w w3 := (HBA.out.trans (HBB.out.mono (by omega))).trans (HBC.out.mono (by omega))
  have h3 := H2.out.below hb3
  have hr0 : w3.heap[w.heap.size]? = some (.cells #[.pointer (some ⟨p2, 0, none⟩)] 25 (0, 0)) := (HBC.out.block _ (by omega)).trans ((HBB.out.block _ (by omega)).trans HRA.out)
  have hr1 : w3.heap[w.heap.size + 1]? = some (.cells #[.int .i64 0] 3 (0, 0)) := (HBC.out.block _ (by omega)).trans HRB.out
  have hd2 := H2.out.dl
  have hw0 := H2.out.bel.size
  have hE : glsE S1 [x] = glE S1 x := by unfold glsE; split; rfl; rename_i hh; simp [glsE] at hh ⊢; exact hh.symm
  have hq := cq_of1 (H1.out.below hb3) HI1.out [x] (by simp) _ HSL.out (.pointer (some ⟨w.heap.size, 0, none⟩)) (.pointer (some ⟨w.heap.size + 1, 0, none⟩)) A2
    (fun W => ∃ D2' v, Law8 w0 p2 S3 D2' W ∧ w3.heap.size ≤ W.heap.size ∧ (∀ b, Free D2 w3 b → b ≠ w.heap.size + 1 → Free D2' W b ∧ W.heap[b]? = w3.heap[b]?) ∧ RowF D2' W (w.heap.size + 1) (.cells #[.int .i64 v] 3 (0, 0)) ∧ (A2 = 0 → v = A1))
    (fun hne => by
      rw [hE] at hne ⊢
      have e1 : cpA S1 S2 x = (0, glE S1 x) := if_pos hne
      have e2 : cpW S1 S2 x = S2 := if_pos hne
      rw [HAA.out] at e1
      rw [HSS.out] at e2
      obtain ⟨rfl, rfl⟩ : A1 = 0 ∧ A2 = glE S1 x := by simpa using e1
      subst e2
      refine ⟨rfl, fun W hW => ⟨D2, 0, (h3.1.below hW).1, hW.size, fun b hb _ => (h3.1.below hW).2.1.blk b hb, ⟨⟨fun e => by have := hd2 _ e; omega, by have := hW.size; omega⟩, (hW.block _ (by omega)).trans hr1⟩, fun _ => rfl⟩⟩)
    (fun hz q c W hW slW => by
      rw [hE] at hz
      have e1 : cpA S1 S2 x = putA S2 [] (numT (glT S1 x)) := if_neg (by rw [hz]; simp)
      have e2 : cpW S1 S2 x = putW S2 [] (numT (glT S1 x)) := if_neg (by rw [hz]; simp)
      rw [HAA.out] at e1
      rw [HSS.out] at e2
      rw [e2]
      have h4 := h3.1.below hW
      have f0 : RowF D2 W w.heap.size (.cells #[.pointer (some ⟨p2, 0, none⟩)] 25 (0, 0)) := ⟨⟨fun e => by have := hd2 _ e; omega, by have := hW.size; omega⟩, (hW.block _ (by omega)).trans hr0⟩
      have f1 : RowF D2 W (w.heap.size + 1) (.cells #[.int .i64 0] 3 (0, 0)) := ⟨⟨fun e => by have := hd2 _ e; omega, by have := hW.size; omega⟩, (hW.block _ (by omega)).trans hr1⟩
      refine (cq_put h4.1 HI2.out (glT_size S1 x) A1 A2 (by rw [← e1]) (by rw [← e1]) q c w.heap.size (w.heap.size + 1) 0 (slW.imp (fun b hb e => by have := hd2 b e; have hb' : w3.heap.size ≤ b := hb; omega) fun _ _ _ => rfl) f0 f1 (by omega)).mono ?_
      rintro e w' ⟨rfl, D2', l', s', r'⟩
      refine ⟨rfl, D2', _, l', Nat.le_trans hW.size s'.size, fun b hb hne => ?_, r', fun _ => rfl⟩
      have a1 := h4.2.1.blk b hb
      have a2 := s'.blk b a1.1 hne
      exact ⟨a2.1, a2.2.trans a1.2⟩)
  refine hq.mono ?_
  rintro e4 w4 ⟨rfl, D2', v, h4, hz4, hk4, hr4, hv⟩
  have z4 : w4.cell? ⟨w.heap.size + 1, 0, none⟩ = some (.int .i64 v) := cell_of_row _ _ 0 _ _ _ hr4.2
  have hfin : LawDid w0 p2 D2 w S3 w4 := ⟨D2', h4, by omega, fun b hb => by
    have hlt := hb.2
    have a1 := hk4 b ⟨hb.1, by omega⟩ (by omega)
    exact ⟨a1.1, a1.2.trans (hb3.block b hlt)⟩⟩
  have HF := Lib.hid hfin
  have hzz : A2 ≠ 0 → A1 = 0 := fun hn => by
    have e := HAA.out
    unfold cpA at e
    split at e
    · simp at e; exact e.1.symm
    · have := putA_zero S2 [] (numT (glT S1 x)) (by rw [e]; exact hn)
      rw [e] at this; exact this
  clear hq hfin hk4 hr4 h4 hr0 hr1 hb3 h3
  by_cases hA : A2 = 0
  · obtain rfl := hv hA
    subst hA
    clear hzz hv
    go_wp2
    go_ret2
    exact ⟨rfl, HF.out⟩
  · have e2 : (A2 != 0) = true := by simpa using hA
    obtain rfl := hzz hA
    clear hzz hv
    go_wp2
    go_ret2
    exact ⟨rfl, HF.out⟩
end Go.Proofs.Ytoklbeogmcdgaaa.Tms
namespace Go.Proofs.Ytoklbeogmcdgaaa.Tms
open Go Go.RowKit Go.Proofs.Ytoklbeogmcdgaaa.Reg Go.Proofs.Ytoklbeogmcdgaaa.Rws Go.Proofs.Ytoklbeogmcdgaaa.Maps
set_option linter.unusedVariables false
set_option linter.unusedSimpArgs false

set_option maxRecDepth 100000 in
set_option maxHeartbeats 4000000 in
theorem cq_alike {w : World} {P : Nat → Prop} {T U : Tm} (hsT : T.size ≤ 20000) (hsU : U.size ≤ 20000) (q : Option Addr) (c cl : Nat) (x0 : Bool)
    (hT : IsSl w P (.slice q 2 c) [T, U]) (hcl : w.heap[cl]? = some (.cells #[.bool x0] 4 (0, 0))) :
    Calls Try.prog 83 #[.slice q 2 c, .pointer (some ⟨cl, 0, none⟩)] w fun e w' => e = .returned (.int .i64 0) ∧ Below cl w w' ∧ w'.heap[cl]? = some (.cells #[.bool (cmpT (numT T) (numT U) == 0)] 4 (0, 0)) := by
  have HT := Lib.hid hT
  have HCL := Lib.hid hcl
  have hcz : cl < w.heap.size := (Array.getElem?_eq_some_iff.1 hcl).1
  clear hT hcl
  go_enter Try.func83, Try.ntmps83
  go_wp2
  refine wp_region_rest (by kernel_rfl) ?_
  have hd := (Below.refl w.heap.size w).drew
  have HTW := Lib.hid (HT.out.below hd)
  have HCW := Lib.hid ((hd.block _ hcz).trans HCL.out)
  have HBW := Lib.hid hd
  have hzw := hd.size
  clear hd HT HCL
  generalize w.drew = W0 at *
  obtain ⟨b, off, rfl, hPb, hat⟩ := HTW.out.at 0 (by simp)
  obtain ⟨b', off', e', hPb', hat'⟩ := HTW.out.at 1 (by simp)
  obtain ⟨rfl, rfl⟩ : b = b' ∧ off = off' := by simpa using e'
  obtain ⟨a1, c1, x0, x1, x2, x3, hi, hlt⟩ := hat.read
  obtain ⟨a2, c2, y0, y1, y2, y3, hj, hlt'⟩ := hat'.read
  simp only [Nat.zero_mul, Nat.one_mul, Nat.add_zero, List.getElem_cons_zero, List.getElem_cons_succ] at x0 x1 x2 x3 hi y0 y1 y2 y3 hj
  have HIT := Lib.hid hi
  have HIU := Lib.hid hj
  have HA2 := Lib.hid hat'
  clear hat hi hj hat' e'
  have hc2 : (2 : Int) ≤ maxLen := by unfold maxLen; decide
  refine rest_chain 0 7 [(false, [0, 1, 2, 4, 5, 6]), (true, [3])] [(false, [_, _, _, _, _, _]), (true, [_])] rfl (by kernel_rfl) (by kernel_rfl) rfl (by kernel_rfl) (by kernel_rfl) (.inr (by kernel_rfl)) ?_
  refine chain_soft ?_
  intro E hE
  go_wp2
  clear x0 x1 x2 x3 y0 y1 y2 y3
  refine chain_one ?_
  intro E hE
  go_wp2_with (refine (tm_Number T _ _ _ (by omega) HIT.out).mono ?_; rintro e2 w2 ⟨v2, rfl, hi2, hb2⟩; have HI2 := Lib.hid hi2; have HB2 := Lib.hid hb2; clear hi2 hb2)
  refine ⟨HB2.out, ?_⟩
  refine chain_nil ?_
  refine rest_lineL 7 11 [_, _, _, _] rfl (by kernel_rfl) (by decide) (by decide) (by kernel_rfl) ?_
  go_wp2_with fail
  refine (tm_Number U _ _ _ (by omega) (HIU.out.below HB2.out)).mono ?_
  rintro e3 w3 ⟨v3, rfl, hi3, hb3⟩
  have HI3 := Lib.hid hi3
  have HB3 := Lib.hid (HB2.out.trans (hb3.mono HB2.out.size))
  have HJ3 := Lib.hid (HI2.out.below hb3)
  clear hi3 hb3 HI2 HB2
  go_wp2_with fail
  refine (tm_Compare (numT T) (numT U) _ _ _ _ _ (by rw [numT_size]; omega) (by rw [numT_size]; omega) HJ3.out HI3.out).mono ?_
  rintro e4 w4 ⟨rfl, hb4⟩
  have hb := HB3.out.trans (hb4.mono HB3.out.size)
  have HC4 := Lib.hid ((hb.block _ (by omega)).trans HCW.out)
  have HB4 := Lib.hid (HBW.out.trans (hb.mono hzw))
  clear hb4 hb HB3 HJ3 HI3 HIT HIU HA2 HTW HBW HCW
  have z0 := cell_of_row w4 cl 0 _ _ _ HC4.out
  have z1 := frozen_of_row w4 cl 0 _ _ HC4.out
  obtain ⟨r, hr⟩ : ∃ r, r = (cmpT (numT T) (numT U) == 0) := ⟨_, rfl⟩
  have hown := heap_setCell_same w4 cl 0 _ _ (.bool r) HC4.out
  have HOWN := Lib.hid (show (w4.setCell ⟨cl, 0, none⟩ (.bool r)).heap[cl]? = some (.cells #[.bool r] 4 (0, 0)) by simpa using hown)
  have hbm : Below cl w w4 := HB4.out.mono (by omega)
  have HSX := Lib.hid (show Below cl w (w4.setCell ⟨cl, 0, none⟩ (.bool r)) from hbm.setCell (Nat.le_refl _) _)
  clear hbm
  rw [hr] at HOWN HSX
  clear hown hr r
  go_wp2
  refine then_rest (rest_end (by decide) ?_)
  go_wp2
  go_ret
  exact ⟨rfl, HSX.out, HOWN.out⟩
/-- two numbers, as a slice that the call makes -/
theorem two_intsQ (w : World) (m n : Int) (T : TypeId) : IntSl (w.alloc (.cells #[.int .i64 m, .int .i64 n] T (0, 0))) (fun b => w.heap.size ≤ b) (.slice (some ⟨w.heap.size, 0, none⟩) 2 2) [m, n] := by
  have hr := heap_alloc_new w (.cells #[.int .i64 m, .int .i64 n] T (0, 0))
  refine ⟨_, _, rfl, by simp, by decide, fun i hi => ⟨_, _, rfl, Nat.le_refl _, by simp, ?_⟩⟩
  match i, hi with
  | 0, _ => exact cell_of_row _ _ 0 _ _ _ hr
  | 1, _ => exact cell_of_row _ _ 1 _ _ _ hr
/-- what Alike answers -/
noncomputable def alA (S : Sto) (a b : Int) : Bool × Int := if glsE S [a, b] ≠ 0 then (false, glsE S [a, b]) else (cmpT (numT (glT S a)) (numT (glT S b)) == 0, 0)
set_option maxRecDepth 100000 in
set_option maxHeartbeats 4000000 in
theorem cq_Alike {w : World} {p : Nat} {S : Sto} {D : Nat → Prop} (h : StoAt w D p S) (hI : Inv S) (a b : Int) :
    Calls Try.prog 44 #[.pointer (some ⟨p, 0, none⟩), .int .i64 a, .int .i64 b] w fun e w' => e = .returned (.tuple #[.bool (alA S a b).1, .int .i64 (alA S a b).2]) ∧ Below w.heap.size w w' := by
  have H := Lib.hid h
  obtain ⟨A1, A2, hA⟩ : ∃ A1 A2, alA S a b = (A1, A2) := ⟨_, _, rfl⟩
  rw [hA]
  dsimp only
  have HAA := Lib.hid hA
  clear hA
  have HI := Lib.hid hI
  have HA := Lib.hid (heap_alloc_new w (.cells #[.bool false] 4 (0, 0)))
  have HBA := Lib.hid (below_new w (.cells #[.bool false] 4 (0, 0)))
  have hzA : (w.alloc (.cells #[.bool false] 4 (0, 0))).heap.size = w.heap.size + 1 := by simp
  clear h hI
  go_enter Try.func44, Try.ntmps44
  go_upto_region 2 with fail
  obtain ⟨w1, hw1⟩ : ∃ w1, w1 = w.alloc (.cells #[.bool false] 4 (0, 0)) := ⟨_, rfl⟩
  rw [← hw1] at HA HBA hzA ⊢
  clear hw1
  have HBC := Lib.hid (below_new w1 (.cells #[.int .i64 a, .int .i64 b] 3 (0, 0)))
  have HSL := Lib.hid (two_intsQ w1 a b 3)
  have hzC : (w1.alloc (.cells #[.int .i64 a, .int .i64 b] 3 (0, 0))).heap.size = w.heap.size + 2 := by simp; omega
  rw [hzA] at HSL
  go_wp2_with fail
  obtain ⟨w3, hw3⟩ : ∃ w3, w3 = w1.alloc (.cells #[.int .i64 a, .int .i64 b] 3 (0, 0)) := ⟨_, rfl⟩
  rw [← hw3] at HBC HSL hzC ⊢
  clear hw3
  have hb3 : Below w.heap.size w w3 := HBA.out.trans (HBC.out.mono (by omega))
  have hr1 : w3.heap[w.heap.size]? = some (.cells #[.bool false] 4 (0, 0)) := (HBC.out.block _ (by omega)).trans HA.out
  have hq := cq_of2 (H.out.below hb3) HI.out [a, b] (by simp) _ HSL.out (.pointer (some ⟨w.heap.size, 0, none⟩)) A2
    (fun W => Below w.heap.size w W ∧ W.heap[w.heap.size]? = some (.cells #[.bool A1] 4 (0, 0)))
    (fun hne => by
      have e1 : alA S a b = (false, glsE S [a, b]) := if_pos hne
      rw [HAA.out] at e1
      obtain ⟨rfl, rfl⟩ : A1 = _ ∧ A2 = _ := Prod.mk.inj e1
      exact ⟨rfl, fun W hW => ⟨hb3.trans (hW.mono (by omega)), (hW.block _ (by omega)).trans hr1⟩⟩)
    (fun hz q c W hW slW => by
      have e1 : alA S a b = (cmpT (numT (glT S a)) (numT (glT S b)) == 0, 0) := if_neg (by rw [hz]; simp)
      rw [HAA.out] at e1
      obtain ⟨rfl, rfl⟩ : A1 = _ ∧ A2 = _ := Prod.mk.inj e1
      refine (cq_alike (glT_size S a) (glT_size S b) q c w.heap.size false slW ((hW.block _ (by omega)).trans hr1)).mono ?_
      rintro e w' ⟨rfl, b', r'⟩
      exact ⟨rfl, (hb3.trans (hW.mono (by omega))).trans b', r'⟩)
  refine hq.mono ?_
  rintro e4 w4 ⟨rfl, h4, hr4⟩
  have z4 : w4.cell? ⟨w.heap.size, 0, none⟩ = some (.bool A1) := cell_of_row _ _ 0 _ _ _ hr4
  have HF := Lib.hid h4
  clear hq h4 hr4 hr1 hb3
  go_wp2
  go_ret2
  exact ⟨rfl, HF.out⟩
set_option maxRecDepth 100000 in
set_option maxHeartbeats 4000000 in
theorem cq_ground {w : World} {P : Nat → Prop} {T : Tm} (hsT : T.size ≤ 20000) (q : Option Addr) (c cl : Nat) (x0 : Bool)
    (hT : IsSl w P (.slice q 1 c) [T]) (hcl : w.heap[cl]? = some (.cells #[.bool x0] 4 (0, 0))) :
    Calls Try.prog 96 #[.slice q 1 c, .pointer (some ⟨cl, 0, none⟩)] w fun e w' => e = .returned (.int .i64 0) ∧ Below cl w w' ∧ w'.heap[cl]? = some (.cells #[.bool ((varsT T).length == 0)] 4 (0, 0)) := by
  have HT := Lib.hid hT
  have HCL := Lib.hid hcl
  have hcz : cl < w.heap.size := (Array.getElem?_eq_some_iff.1 hcl).1
  clear hT hcl
  obtain ⟨b, off, rfl, hPb, hat⟩ := HT.out.at 0 (by simp)
  obtain ⟨a1, c1, x0, x1, x2, x3, hi, hlt⟩ := hat.read
  simp only [Nat.zero_mul, Nat.add_zero, List.getElem_cons_zero] at x0 x1 x2 x3 hi
  have HIT := Lib.hid hi
  clear hat hi
  have hc2 : (1 : Int) ≤ maxLen := by unfold maxLen; decide
  go_enter Try.func96, Try.ntmps96
  go_wp2_with fail
  refine (tm_Vars T _ _ _ (by omega) HIT.out).mono ?_
  rintro e2 w2 ⟨v2, rfl, hi2, hb2⟩
  obtain ⟨q2, c2, rfl⟩ := hi2.form
  have HC2 := Lib.hid ((hb2.block _ hcz).trans HCL.out)
  have HB2 := Lib.hid hb2
  have hcz2 : cl < w2.heap.size := Nat.lt_of_lt_of_le hcz hb2.size
  clear hi2 hb2 HIT HT HCL x0 x1 x2 x3
  have z0 := cell_of_row w2 cl 0 _ _ _ HC2.out
  have z1 := frozen_of_row w2 cl 0 _ _ HC2.out
  obtain ⟨n, hn⟩ : ∃ n, n = (varsT T).length := ⟨_, rfl⟩
  obtain ⟨r, hr⟩ : ∃ r, r = (n == 0) := ⟨_, rfl⟩
  have hown := heap_setCell_same w2 cl 0 _ _ (.bool r) HC2.out
  have HOWN := Lib.hid (show (w2.setCell ⟨cl, 0, none⟩ (.bool r)).heap[cl]? = some (.cells #[.bool r] 4 (0, 0)) by simpa using hown)
  have hbm : Below cl w w2 := HB2.out.mono (by omega)
  have HSX := Lib.hid (show Below cl w (w2.setCell ⟨cl, 0, none⟩ (.bool r)) from hbm.setCell (Nat.le_refl _) _)
  clear hbm
  rw [← hn]
  have b1 : (((n : Nat) : Int) == 0) = r := by rw [hr]; cases n <;> rfl
  have HR := Lib.hid (show r = ((varsT T).length == 0) by rw [hr, hn])
  clear hown hr hn
  go_wp2
  go_ret
  exact ⟨rfl, HSX.out, by rw [← HR.out]; exact HOWN.out⟩
/-- what Ground answers -/
noncomputable def grA (S : Sto) (a : Int) : Bool × Int := if glE S a ≠ 0 then (false, glE S a) else ((varsT (glT S a)).length == 0, 0)
set_option maxRecDepth 100000 in
set_option maxHeartbeats 4000000 in
theorem cq_Ground {w : World} {p : Nat} {S : Sto} {D : Nat → Prop} (h : StoAt w D p S) (hI : Inv S) (a : Int) :
    Calls Try.prog 55 #[.pointer (some ⟨p, 0, none⟩), .int .i64 a] w fun e w' => e = .returned (.tuple #[.bool (grA S a).1, .int .i64 (grA S a).2]) ∧ Below w.heap.size w w' := by
  have H := Lib.hid h
  obtain ⟨A1, A2, hA⟩ : ∃ A1 A2, grA S a = (A1, A2) := ⟨_, _, rfl⟩
  rw [hA]
  dsimp only
  have HAA := Lib.hid hA
  clear hA
  have HI := Lib.hid hI
  have HA := Lib.hid (heap_alloc_new w (.cells #[.bool false] 4 (0, 0)))
  have HBA := Lib.hid (below_new w (.cells #[.bool false] 4 (0, 0)))
  have hzA : (w.alloc (.cells #[.bool false] 4 (0, 0))).heap.size = w.heap.size + 1 := by simp
  clear h hI
  go_enter Try.func55, Try.ntmps55
  go_upto_region 2 with fail
  obtain ⟨w1, hw1⟩ : ∃ w1, w1 = w.alloc (.cells #[.bool false] 4 (0, 0)) := ⟨_, rfl⟩
  rw [← hw1] at HA HBA hzA ⊢
  clear hw1
  have HBC := Lib.hid (below_new w1 (.cells #[.int .i64 a] 3 (0, 0)))
  have HSL := Lib.hid (one_int w1 w1.heap.size (Nat.le_refl _) a 3)
  have hzC : (w1.alloc (.cells #[.int .i64 a] 3 (0, 0))).heap.size = w.heap.size + 2 := by simp; omega
  rw [hzA] at HSL
  go_wp2_with fail
  obtain ⟨w3, hw3⟩ : ∃ w3, w3 = w1.alloc (.cells #[.int .i64 a] 3 (0, 0)) := ⟨_, rfl⟩
  rw [← hw3] at HBC HSL hzC ⊢
  clear hw3
  have hb3 : Below w.heap.size w w3 := HBA.out.trans (HBC.out.mono (by omega))
  have hr1 : w3.heap[w.heap.size]? = some (.cells #[.bool false] 4 (0, 0)) := (HBC.out.block _ (by omega)).trans HA.out
  have hE : glsE S [a] = glE S a := by unfold glsE; split; rfl; rename_i hh; simp [glsE] at hh ⊢; exact hh.symm
  have hq := cq_of3 (H.out.below hb3) HI.out [a] (by simp) _ HSL.out (.pointer (some ⟨w.heap.size, 0, none⟩)) A2
    (fun W => Below w.heap.size w W ∧ W.heap[w.heap.size]? = some (.cells #[.bool A1] 4 (0, 0)))
    (fun hne => by
      rw [hE] at hne ⊢
      have e1 : grA S a = (false, glE S a) := if_pos hne
      rw [HAA.out] at e1
      obtain ⟨rfl, rfl⟩ : A1 = _ ∧ A2 = _ := Prod.mk.inj e1
      exact ⟨rfl, fun W hW => ⟨hb3.trans (hW.mono (by omega)), (hW.block _ (by omega)).trans hr1⟩⟩)
    (fun hz q c W hW slW => by
      rw [hE] at hz
      have e1 : grA S a = ((varsT (glT S a)).length == 0, 0) := if_neg (by rw [hz]; simp)
      rw [HAA.out] at e1
      obtain ⟨rfl, rfl⟩ : A1 = _ ∧ A2 = _ := Prod.mk.inj e1
      refine (cq_ground (glT_size S a) q c w.heap.size false slW ((hW.block _ (by omega)).trans hr1)).mono ?_
      rintro e w' ⟨rfl, b', r'⟩
      exact ⟨rfl, (hb3.trans (hW.mono (by omega))).trans b', r'⟩)
  refine hq.mono ?_
  rintro e4 w4 ⟨rfl, h4, hr4⟩
  have z4 : w4.cell? ⟨w.heap.size, 0, none⟩ = some (.bool A1) := cell_of_row _ _ 0 _ _ _ hr4
  have HF := Lib.hid h4
  clear hq h4 hr4 hr1 hb3 hE
  go_wp2
  go_ret2
  exact ⟨rfl, HF.out⟩
end Go.Proofs.Ytoklbeogmcdgaaa.Tms
