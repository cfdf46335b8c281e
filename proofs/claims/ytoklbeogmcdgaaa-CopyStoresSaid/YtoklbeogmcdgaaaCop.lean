
/-
  copy.of of the program, walked with each of its function literals (printed by gen_cop.py).
-/
import Derived.Test.YtoklbeogmcdgaaaGte
import Derived.Test.YtoklbeogmcdgaaaGfl
namespace Go.Proofs.Ytoklbeogmcdgaaa.Tms
open Go Go.RowKit Go.Proofs.Ytoklbeogmcdgaaa.Reg Go.Proofs.Ytoklbeogmcdgaaa.Rws Go.Proofs.Ytoklbeogmcdgaaa.Maps
set_option linter.unusedVariables false
set_option linter.unusedSimpArgs false

theorem ints_pick {w : World} {P : Nat → Prop} {q : Option Addr} {n c : Nat} {L : List Int} (h : IntSl w P (.slice q n c) L) (i : Nat) (hi : i < L.length) : ∃ b off, q = some ⟨b, off, none⟩ ∧ w.cell? ⟨b, off + i, none⟩ = some (.int .i64 L[i]) := by
  obtain ⟨a', c', e, -, -, h3⟩ := h
  obtain ⟨b, off, e1, -, -, hc⟩ := h3 i hi
  simp only [Value.slice.injEq] at e
  exact ⟨b, off, by rw [e.1]; exact e1, hc⟩
theorem ints_room {w : World} {P : Nat → Prop} {q : Option Addr} {n c : Nat} {L : List Int} (h : IntSl w P (.slice q n c) L) : n ≤ c ∧ c ≤ maxLen := by
  obtain ⟨a', c', e, h1, h2, -⟩ := h
  simp only [Value.slice.injEq] at e
  obtain ⟨-, rfl, rfl⟩ := e
  exact ⟨h1, h2⟩
/-- the first error of what is got -/
noncomputable def getsE (S : Sto) : List Nat → Int
  | [] => 0
  | x :: l => if getE S x ≠ 0 then getE S x else getsE S l
theorem getsE_ok {S : Sto} : ∀ (l : List Nat), (∀ x ∈ l, getE S x = 0) → getsE S l = 0
  | [], _ => rfl
  | x :: l, h => by
    unfold getsE
    rw [if_neg (by rw [h x (List.mem_cons_self ..)]; simp)]
    exact getsE_ok l fun y hy => h y (List.mem_cons_of_mem _ hy)
theorem getsE_at {S : Sto} : ∀ (l : List Nat) (i : Nat) (hi : i < l.length), (∀ x ∈ l.take i, getE S x = 0) → getE S l[i] ≠ 0 → getsE S l = getE S l[i]
  | x :: l, 0, hi, h, he => by unfold getsE; exact if_pos he
  | x :: l, i + 1, hi, h, he => by
    unfold getsE
    rw [if_neg (by rw [h x (by simp)]; simp)]
    exact getsE_at l i (by simpa using hi) (fun y hy => h y (by simp [hy])) (by simpa using he)
/-- so many are got -/
structure OfAt (w0 w : World) (p : Nat) (S : Sto) (D : Nat → Prop) (cs : List Nat) (sv : Value) (i : Nat) (lv : Value) (wr : World) : Prop where
  le : i ≤ cs.length
  law : Law8 w0 p S D wr
  stp : Step D w D wr
  own : Own tmKind wr w.heap.size (fun b => w.heap.size ≤ b) lv ((cs.take i).map (getT S))
  sl0 : IntSl w (Free D w) sv (cs.map fun (x : Nat) => (x : Int))
  okE : ∀ x ∈ cs.take i, getE S x = 0
  dlt : ∀ b, D b → b < w.heap.size
  ent : w0.heap.size ≤ w.heap.size
theorem OfAt.start {w0 w : World} {p : Nat} {S : Sto} {D : Nat → Prop} {cs : List Nat} {sv : Value} (h : Law8 w0 p S D w) (hs : IntSl w (Free D w) sv (cs.map fun (x : Nat) => (x : Int))) : OfAt w0 w p S D cs sv 0 (.slice none 0 0) w :=
  ⟨Nat.zero_le _, h, Step.refl _ _, Own.nil _ _ _, hs, fun x hx => by simp at hx, h.dl, h.bel.size⟩
theorem OfAt.form {w0 w wr : World} {p : Nat} {S : Sto} {D : Nat → Prop} {cs : List Nat} {sv lv : Value} {i : Nat} (h : OfAt w0 w p S D cs sv i lv wr) : ∃ q c, lv = .slice q i c := by
  obtain ⟨q, c, e⟩ := own_form h.own
  rw [List.length_map, List.length_take, Nat.min_eq_left h.le] at e
  exact ⟨q, c, e⟩
theorem OfAt.low {w0 w wr : World} {p : Nat} {S : Sto} {D : Nat → Prop} {cs : List Nat} {sv lv : Value} {i : Nat} (h : OfAt w0 w p S D cs sv i lv wr) : ∀ b, lv.ownBlock = some b → w.heap.size ≤ b ∧ b < wr.heap.size := h.own.low
theorem OfAt.base {w0 w wr : World} {p : Nat} {S : Sto} {D : Nat → Prop} {cs : List Nat} {sv lv : Value} {i : Nat} (h : OfAt w0 w p S D cs sv i lv wr) : w.heap.size ≤ wr.heap.size := h.stp.size
/-- the next one is got -/
structure OfGot (w0 w : World) (p : Nat) (S : Sto) (D : Nat → Prop) (cs : List Nat) (sv : Value) (i : Nat) (x : Nat) (lv : Value) (a : Option Addr) (c : Nat) (wr : World) : Prop extends OfAt w0 w p S D cs sv i lv wr where
  el : tmKind.R wr (fun b => w.heap.size ≤ b ∧ lv.ownBlock ≠ some b) [.int .i64 (getT S x).k, .int .i64 (getT S x).n, .string (getT S x).s, .slice a (getT S x).args.length c] (getT S x)
theorem OfAt.got {w0 w wr w' : World} {p : Nat} {S : Sto} {D : Nat → Prop} {cs : List Nat} {sv lv : Value} {i x : Nat} {a : Option Addr} {c : Nat} (h : OfAt w0 w p S D cs sv i lv wr) (hi : i < cs.length) (hx : x = cs[i]) (l : Law8 w0 p S D w') (s : Step D wr D w') (hi1 : IsTm w' (fun b => Free D w' b ∧ wr.heap.size ≤ b) (.agg #[.int .i64 (getT S x).k, .int .i64 (getT S x).n, .string (getT S x).s, .slice a (getT S x).args.length c]) (getT S x)) : OfGot w0 w p S D cs sv i x lv a c w' where
  le := h.le
  law := l
  stp := h.stp.trans s
  own := h.own.keep s.size fun b hb he => (s.blk b ⟨fun e => by
    have := h.dlt b e
    rcases he with he | he
    · have he' : w.heap.size ≤ b := he
      omega
    · have := (h.own.low b he).1
      omega, hb⟩).2
  sl0 := h.sl0
  okE := h.okE
  dlt := h.dlt
  ent := h.ent
  el := tmKind.mono (fun b hb => ⟨Nat.le_trans h.base hb.2, fun e => by have := (h.own.low b e).2; have := hb.2; omega⟩) (fun _ _ _ => rfl) hi1.cells
theorem OfGot.below {w0 w wr w' : World} {p : Nat} {S : Sto} {D : Nat → Prop} {cs : List Nat} {sv lv : Value} {i x : Nat} {a : Option Addr} {c : Nat} (h : OfGot w0 w p S D cs sv i x lv a c wr) (hb : Below wr.heap.size wr w') : OfGot w0 w p S D cs sv i x lv a c w' where
  le := h.le
  law := (h.law.below hb).1
  stp := h.stp.trans (h.law.below hb).2.1
  own := h.own.below hb
  sl0 := h.sl0
  okE := h.okE
  dlt := h.dlt
  ent := h.ent
  el := tmKind.mono (fun b hb => hb.1) (fun b h1 h2 => hb.block b h2) (tmKind.lt h.el)
theorem OfGot.put {w0 w wr w' : World} {p : Nat} {S : Sto} {D : Nat → Prop} {cs : List Nat} {sv lv v' : Value} {i x : Nat} {a : Option Addr} {c : Nat} (h : OfGot w0 w p S D cs sv i x lv a c wr) (hi : i < cs.length) (hx : x = cs[i]) (he : getE S x = 0) (ho : Own tmKind w' w.heap.size (fun b => w.heap.size ≤ b) v' ((cs.take i).map (getT S) ++ [getT S x])) (hg : wr.grownBy w' lv.ownBlock) : OfAt w0 w p S D cs sv (i + 1) v' w' := by
  have hlo := h.own.low
  refine ⟨by omega, ⟨h.law.sto.keep hg.size fun b hlt hb => hg.block b hlt fun e => ?_, h.law.own, h.law.bel.grown hg h.law.bel.size fun b e => ?_⟩, ⟨Nat.le_trans h.stp.size hg.size, fun b hb => ⟨⟨hb.1, Nat.lt_of_lt_of_le hb.2 (Nat.le_trans h.stp.size hg.size)⟩, (hg.block b (Nat.lt_of_lt_of_le hb.2 h.stp.size) fun e => ?_).trans (h.stp.blk b hb).2⟩⟩, ?_, h.sl0, ?_, h.dlt, h.ent⟩
  · have := h.dlt b hb
    have := (hlo b e.symm).1
    omega
  · exact Nat.le_trans h.ent (hlo b e).1
  · have := (hlo b e.symm).1
    have := hb.2
    omega
  · rw [List.take_succ_eq_append_getElem hi, List.map_append, List.map_singleton, ← hx]
    exact ho
  · intro y hy
    rw [List.take_succ_eq_append_getElem hi, List.mem_append, List.mem_singleton] at hy
    rcases hy with hy | rfl
    · exact h.okE y hy
    · rw [← hx]
      exact he
theorem OfAt.sl {w0 w wr : World} {p : Nat} {S : Sto} {D : Nat → Prop} {cs : List Nat} {sv lv : Value} {i : Nat} (h : OfAt w0 w p S D cs sv i lv wr) : IntSl wr (Free D w) sv (cs.map fun (x : Nat) => (x : Int)) := h.sl0.move (fun _ h _ => h) fun b hb _ => (h.stp.blk b hb).2
theorem OfAt.bad {w0 w wr : World} {p : Nat} {S : Sto} {D : Nat → Prop} {cs : List Nat} {sv lv : Value} {i x : Nat} (h : OfAt w0 w p S D cs sv i lv wr) (hi : i < cs.length) (hx : x = cs[i]) (he : getE S x ≠ 0) : getsE S cs = getE S x := by
  subst hx
  exact getsE_at cs i hi h.okE he
theorem OfAt.ok {w0 w wr : World} {p : Nat} {S : Sto} {D : Nat → Prop} {cs : List Nat} {sv lv : Value} (h : OfAt w0 w p S D cs sv cs.length lv wr) : getsE S cs = 0 := by
  have := h.okE
  rw [List.take_length] at this
  exact getsE_ok cs this
theorem OfAt.full {w0 w wr : World} {p : Nat} {S : Sto} {D : Nat → Prop} {cs : List Nat} {sv lv : Value} (h : OfAt w0 w p S D cs sv cs.length lv wr) : IsSl wr (fun b => Free D wr b ∧ w.heap.size ≤ b) lv (cs.map (getT S)) := by
  have ho := h.own
  rw [List.take_length] at ho
  exact (own_reads ho).low.imp (fun b hb => by
    have h1 : w.heap.size ≤ b := by rcases hb.1 with h | h <;> exact h
    exact ⟨⟨fun e => by have := h.dlt b e; omega, hb.2⟩, h1⟩) fun _ _ _ => rfl
set_option maxRecDepth 100000 in
set_option maxHeartbeats 4000000 in
/-- copy.of with prolix/copy.Copy$1 (printed by gen_cop.py) -/
theorem cp_of1 {w0 w : World} {p : Nat} {S : Sto} {D : Nat → Prop} (h : Law8 w0 p S D w) (hI : Inv S) (cs : List Nat) (hcs : ∀ x ∈ cs, x < S.cells.length) (hn : cs.length ≤ 1000) (sv : Value) (hs : IntSl w (Free D w) sv (cs.map fun (x : Nat) => (x : Int))) (c0_ c1_ : Value) (er : Int) (Q : World → Prop)
    (hbad : getsE S cs ≠ 0 → er = getsE S cs ∧ ∀ W, Law8 w0 p S D W → Step D w D W → Q W)
    (hgood : getsE S cs = 0 → ∀ q c W, Law8 w0 p S D W → Step D w D W → IsSl W (fun b => Free D W b ∧ w.heap.size ≤ b) (.slice q cs.length c) (cs.map (getT S)) → Calls Try.prog 82 #[.slice q cs.length c, c0_, c1_] W fun e w' => e = .returned (.int .i64 er) ∧ Q w') :
    Calls Try.prog 81 #[.pointer (some ⟨p, 0, none⟩), sv, .func (.func 82) #[] #[c0_, c1_]] w fun e w' => e = .returned (.int .i64 er) ∧ Q w' := by
  obtain ⟨q, cc, rfl⟩ := hs.form
  rw [List.length_map]  at hs ⊢
  have hrm := ints_room hs
  have H := Lib.hid h
  have HI := Lib.hid hI
  have HCS := Lib.hid hcs
  have HBAD := Lib.hid hbad
  have HGOOD := Lib.hid hgood
  have HST := Lib.hid (OfAt.start h hs)
  clear h hI hs hcs hbad hgood
  go_enter Try.func81, Try.ntmps81
  go_wp2
  go_loopw [7, 16] (fun v7 v16 wr => ∃ i, v16 = .int .i64 ((i : Nat) : Int) ∧ OfAt w0 w p S D cs (.slice q cs.length cc) i v7 wr) (fun _ v16 _ => cs.length - (intOf v16).toNat)
  case atStart => exact ⟨0, rfl, HST.out⟩
  case round =>
    obtain ⟨i, rfl, hat⟩ := hrel
    clear HST
    obtain ⟨q7, c7, rfl⟩ := hat.form
    have hlo := hat.low
    have hbs := hat.base
    have hile := hat.le
    have HAT := Lib.hid hat
    clear hat
    by_cases hi : i < cs.length
    · have b1 : decide ((i : Int) < (cs.length : Int)) = true := by simp; omega
      obtain ⟨bb, off, e1, hc⟩ := ints_pick HAT.out.sl i (by rw [List.length_map]; exact hi)
      obtain rfl := e1
      rw [List.getElem_map] at hc
      obtain ⟨x, hx⟩ : ∃ x, x = cs[i] := ⟨_, rfl⟩
      rw [← hx] at hc
      have hxl : x < S.cells.length := HCS.out x (by rw [hx]; exact List.getElem_mem hi)
      have HX := Lib.hid hx
      clear hx
      go_wp2_with fail
      refine (law_GetE HAT.out.law HI.out x hxl).mono ?_
      rintro e1 w1 ⟨a1, c1, rfl, l1, s1, i1⟩
      obtain ⟨v1, hv1⟩ : ∃ v1, v1 = aggT (getT S x) a1 c1 := ⟨_, rfl⟩
      have e1' : aggT (getT S x) a1 c1 = .agg #[.int .i64 (getT S x).k, .int .i64 (getT S x).n, .string (getT S x).s, .slice a1 (getT S x).args.length c1] := rfl
      rw [e1'] at i1 ⊢
      clear hv1 e1' v1
      have hbA := below_new w1 (.cells #[.int .i64 (getT S x).k, .int .i64 (getT S x).n, .string (getT S x).s, .slice a1 (getT S x).args.length c1] 33 (0, 0))
      have hrA := heap_alloc_new w1 (.cells #[.int .i64 (getT S x).k, .int .i64 (getT S x).n, .string (getT S x).s, .slice a1 (getT S x).args.length c1] 33 (0, 0))
      have HT1 := Lib.hid (HAT.out.got hi HX.out l1 s1 i1)
      clear l1 s1 i1 hc
      by_cases he : getE S x = 0
      · rw [he]
        have HE := Lib.hid he
        clear he
        have HT2 := Lib.hid (HT1.out.below hbA)
        obtain ⟨u0, u1, u2, u3⟩ := row4 hrA
        clear HT1 hbA hrA
        go_upto_region 10 with fail
        generalize w1.alloc (.cells #[.int .i64 (getT S x).k, .int .i64 (getT S x).n, .string (getT S x).s, .slice a1 (getT S x).args.length c1] 33 (0, 0)) = w2 at *
        have hbB := below_new w2 (.cells #[.int .i64 (getT S x).k, .int .i64 (getT S x).n, .string (getT S x).s, .slice a1 (getT S x).args.length c1] 33 (0, 0))
        have HRB := Lib.hid (heap_alloc_new w2 (.cells #[.int .i64 (getT S x).k, .int .i64 (getT S x).n, .string (getT S x).s, .slice a1 (getT S x).args.length c1] 33 (0, 0)))
        have HT3 := Lib.hid (HT2.out.below hbB)
        have hlt : ((cs.take i).map (getT S)).length = i := by rw [List.length_map, List.length_take]; omega
        have HLT := Lib.hid hlt
        clear hbB HT2 hlt
        go_wp2_with (with_reducible show wpList _ _ _ (⟨some 32, _, _, _, _, _⟩ :: _) _ _
                     refine wpList_put (K := tmKind) rfl (.tmp 29) (.tmp 31) _ rfl Try.underlying31 info_tm rfl w.heap.size (fun b => w.heap.size ≤ b) (.slice q7 i c7) ((cs.take i).map (getT S)) [.int .i64 (getT S x).k, .int .i64 (getT S x).n, .string (getT S x).s, .slice a1 (getT S x).args.length c1] (getT S x) _ _ _ _ rfl HT3.out.own rfl HRB.out HT3.out.el (by rw [HLT.out]; unfold maxLen; omega) (by rw [HLT.out]; omega) HT3.out.base ?_
                     intro v4 w4 ho4 hb4 hg4 hv4
                     have HN4 := Lib.hid (HT3.out.put hi HX.out HE.out ho4 hg4)
                     clear ho4 hb4 hg4 hv4 u0 u1 u2 u3)
        go_roundw
        case measure => simp [intOf]; omega
        case rel => exact ⟨i + 1, rfl, HN4.out⟩
      · have e2 : (getE S x != 0) = true := by simpa using he
        have hge := HAT.out.bad hi HX.out he
        obtain ⟨rfl, hQ⟩ := HBAD.out (by rw [hge]; exact he)
        have hT2 := HT1.out.below hbA
        have HQ := Lib.hid (hQ _ hT2.law hT2.stp)
        have HGE := Lib.hid hge
        obtain ⟨u0, u1, u2, u3⟩ := row4 hrA
        clear hT2 hbA hrA HT1 hQ hge
        go_wp2
        rw [HGE.out] at HBAD HGOOD ⊢
        go_ret
        exact ⟨rfl, HQ.out⟩
    · have b1 : decide ((i : Int) < (cs.length : Int)) = false := by simp; omega
      have ei : i = cs.length := by omega
      subst ei
      have hfin := HAT.out.full
      have hok := HAT.out.ok
      have HC := Lib.hid (HGOOD.out hok q7 c7 _ HAT.out.law HAT.out.stp hfin)
      clear hfin hok
      go_wp2_with fail
      refine HC.out.mono ?_
      rintro e5 w5 ⟨rfl, hQ⟩
      have HQ := Lib.hid hQ
      clear hQ
      go_wp2
      go_ret
      exact ⟨rfl, HQ.out⟩
set_option maxRecDepth 100000 in
set_option maxHeartbeats 4000000 in
/-- copy.of with prolix/copy.Alike$1 (printed by gen_cop.py) -/
theorem cp_of2 {w0 w : World} {p : Nat} {S : Sto} {D : Nat → Prop} (h : Law8 w0 p S D w) (hI : Inv S) (cs : List Nat) (hcs : ∀ x ∈ cs, x < S.cells.length) (hn : cs.length ≤ 1000) (sv : Value) (hs : IntSl w (Free D w) sv (cs.map fun (x : Nat) => (x : Int))) (c0_ : Value) (er : Int) (Q : World → Prop)
    (hbad : getsE S cs ≠ 0 → er = getsE S cs ∧ ∀ W, Law8 w0 p S D W → Step D w D W → Q W)
    (hgood : getsE S cs = 0 → ∀ q c W, Law8 w0 p S D W → Step D w D W → IsSl W (fun b => Free D W b ∧ w.heap.size ≤ b) (.slice q cs.length c) (cs.map (getT S)) → Calls Try.prog 83 #[.slice q cs.length c, c0_] W fun e w' => e = .returned (.int .i64 er) ∧ Q w') :
    Calls Try.prog 81 #[.pointer (some ⟨p, 0, none⟩), sv, .func (.func 83) #[] #[c0_]] w fun e w' => e = .returned (.int .i64 er) ∧ Q w' := by
  obtain ⟨q, cc, rfl⟩ := hs.form
  rw [List.length_map]  at hs ⊢
  have hrm := ints_room hs
  have H := Lib.hid h
  have HI := Lib.hid hI
  have HCS := Lib.hid hcs
  have HBAD := Lib.hid hbad
  have HGOOD := Lib.hid hgood
  have HST := Lib.hid (OfAt.start h hs)
  clear h hI hs hcs hbad hgood
  go_enter Try.func81, Try.ntmps81
  go_wp2
  go_loopw [7, 16] (fun v7 v16 wr => ∃ i, v16 = .int .i64 ((i : Nat) : Int) ∧ OfAt w0 w p S D cs (.slice q cs.length cc) i v7 wr) (fun _ v16 _ => cs.length - (intOf v16).toNat)
  case atStart => exact ⟨0, rfl, HST.out⟩
  case round =>
    obtain ⟨i, rfl, hat⟩ := hrel
    clear HST
    obtain ⟨q7, c7, rfl⟩ := hat.form
    have hlo := hat.low
    have hbs := hat.base
    have hile := hat.le
    have HAT := Lib.hid hat
    clear hat
    by_cases hi : i < cs.length
    · have b1 : decide ((i : Int) < (cs.length : Int)) = true := by simp; omega
      obtain ⟨bb, off, e1, hc⟩ := ints_pick HAT.out.sl i (by rw [List.length_map]; exact hi)
      obtain rfl := e1
      rw [List.getElem_map] at hc
      obtain ⟨x, hx⟩ : ∃ x, x = cs[i] := ⟨_, rfl⟩
      rw [← hx] at hc
      have hxl : x < S.cells.length := HCS.out x (by rw [hx]; exact List.getElem_mem hi)
      have HX := Lib.hid hx
      clear hx
      go_wp2_with fail
      refine (law_GetE HAT.out.law HI.out x hxl).mono ?_
      rintro e1 w1 ⟨a1, c1, rfl, l1, s1, i1⟩
      obtain ⟨v1, hv1⟩ : ∃ v1, v1 = aggT (getT S x) a1 c1 := ⟨_, rfl⟩
      have e1' : aggT (getT S x) a1 c1 = .agg #[.int .i64 (getT S x).k, .int .i64 (getT S x).n, .string (getT S x).s, .slice a1 (getT S x).args.length c1] := rfl
      rw [e1'] at i1 ⊢
      clear hv1 e1' v1
      have hbA := below_new w1 (.cells #[.int .i64 (getT S x).k, .int .i64 (getT S x).n, .string (getT S x).s, .slice a1 (getT S x).args.length c1] 33 (0, 0))
      have hrA := heap_alloc_new w1 (.cells #[.int .i64 (getT S x).k, .int .i64 (getT S x).n, .string (getT S x).s, .slice a1 (getT S x).args.length c1] 33 (0, 0))
      have HT1 := Lib.hid (HAT.out.got hi HX.out l1 s1 i1)
      clear l1 s1 i1 hc
      by_cases he : getE S x = 0
      · rw [he]
        have HE := Lib.hid he
        clear he
        have HT2 := Lib.hid (HT1.out.below hbA)
        obtain ⟨u0, u1, u2, u3⟩ := row4 hrA
        clear HT1 hbA hrA
        go_upto_region 10 with fail
        generalize w1.alloc (.cells #[.int .i64 (getT S x).k, .int .i64 (getT S x).n, .string (getT S x).s, .slice a1 (getT S x).args.length c1] 33 (0, 0)) = w2 at *
        have hbB := below_new w2 (.cells #[.int .i64 (getT S x).k, .int .i64 (getT S x).n, .string (getT S x).s, .slice a1 (getT S x).args.length c1] 33 (0, 0))
        have HRB := Lib.hid (heap_alloc_new w2 (.cells #[.int .i64 (getT S x).k, .int .i64 (getT S x).n, .string (getT S x).s, .slice a1 (getT S x).args.length c1] 33 (0, 0)))
        have HT3 := Lib.hid (HT2.out.below hbB)
        have hlt : ((cs.take i).map (getT S)).length = i := by rw [List.length_map, List.length_take]; omega
        have HLT := Lib.hid hlt
        clear hbB HT2 hlt
        go_wp2_with (with_reducible show wpList _ _ _ (⟨some 32, _, _, _, _, _⟩ :: _) _ _
                     refine wpList_put (K := tmKind) rfl (.tmp 29) (.tmp 31) _ rfl Try.underlying31 info_tm rfl w.heap.size (fun b => w.heap.size ≤ b) (.slice q7 i c7) ((cs.take i).map (getT S)) [.int .i64 (getT S x).k, .int .i64 (getT S x).n, .string (getT S x).s, .slice a1 (getT S x).args.length c1] (getT S x) _ _ _ _ rfl HT3.out.own rfl HRB.out HT3.out.el (by rw [HLT.out]; unfold maxLen; omega) (by rw [HLT.out]; omega) HT3.out.base ?_
                     intro v4 w4 ho4 hb4 hg4 hv4
                     have HN4 := Lib.hid (HT3.out.put hi HX.out HE.out ho4 hg4)
                     clear ho4 hb4 hg4 hv4 u0 u1 u2 u3)
        go_roundw
        case measure => simp [intOf]; omega
        case rel => exact ⟨i + 1, rfl, HN4.out⟩
      · have e2 : (getE S x != 0) = true := by simpa using he
        have hge := HAT.out.bad hi HX.out he
        obtain ⟨rfl, hQ⟩ := HBAD.out (by rw [hge]; exact he)
        have hT2 := HT1.out.below hbA
        have HQ := Lib.hid (hQ _ hT2.law hT2.stp)
        have HGE := Lib.hid hge
        obtain ⟨u0, u1, u2, u3⟩ := row4 hrA
        clear hT2 hbA hrA HT1 hQ hge
        go_wp2
        rw [HGE.out] at HBAD HGOOD ⊢
        go_ret
        exact ⟨rfl, HQ.out⟩
    · have b1 : decide ((i : Int) < (cs.length : Int)) = false := by simp; omega
      have ei : i = cs.length := by omega
      subst ei
      have hfin := HAT.out.full
      have hok := HAT.out.ok
      have HC := Lib.hid (HGOOD.out hok q7 c7 _ HAT.out.law HAT.out.stp hfin)
      clear hfin hok
      go_wp2_with fail
      refine HC.out.mono ?_
      rintro e5 w5 ⟨rfl, hQ⟩
      have HQ := Lib.hid hQ
      clear hQ
      go_wp2
      go_ret
      exact ⟨rfl, HQ.out⟩
set_option maxRecDepth 100000 in
set_option maxHeartbeats 4000000 in
/-- copy.of with prolix/copy.Ground$1 (printed by gen_cop.py) -/
theorem cp_of3 {w0 w : World} {p : Nat} {S : Sto} {D : Nat → Prop} (h : Law8 w0 p S D w) (hI : Inv S) (cs : List Nat) (hcs : ∀ x ∈ cs, x < S.cells.length) (hn : cs.length ≤ 1000) (sv : Value) (hs : IntSl w (Free D w) sv (cs.map fun (x : Nat) => (x : Int))) (c0_ : Value) (er : Int) (Q : World → Prop)
    (hbad : getsE S cs ≠ 0 → er = getsE S cs ∧ ∀ W, Law8 w0 p S D W → Step D w D W → Q W)
    (hgood : getsE S cs = 0 → ∀ q c W, Law8 w0 p S D W → Step D w D W → IsSl W (fun b => Free D W b ∧ w.heap.size ≤ b) (.slice q cs.length c) (cs.map (getT S)) → Calls Try.prog 96 #[.slice q cs.length c, c0_] W fun e w' => e = .returned (.int .i64 er) ∧ Q w') :
    Calls Try.prog 81 #[.pointer (some ⟨p, 0, none⟩), sv, .func (.func 96) #[] #[c0_]] w fun e w' => e = .returned (.int .i64 er) ∧ Q w' := by
  obtain ⟨q, cc, rfl⟩ := hs.form
  rw [List.length_map]  at hs ⊢
  have hrm := ints_room hs
  have H := Lib.hid h
  have HI := Lib.hid hI
  have HCS := Lib.hid hcs
  have HBAD := Lib.hid hbad
  have HGOOD := Lib.hid hgood
  have HST := Lib.hid (OfAt.start h hs)
  clear h hI hs hcs hbad hgood
  go_enter Try.func81, Try.ntmps81
  go_wp2
  go_loopw [7, 16] (fun v7 v16 wr => ∃ i, v16 = .int .i64 ((i : Nat) : Int) ∧ OfAt w0 w p S D cs (.slice q cs.length cc) i v7 wr) (fun _ v16 _ => cs.length - (intOf v16).toNat)
  case atStart => exact ⟨0, rfl, HST.out⟩
  case round =>
    obtain ⟨i, rfl, hat⟩ := hrel
    clear HST
    obtain ⟨q7, c7, rfl⟩ := hat.form
    have hlo := hat.low
    have hbs := hat.base
    have hile := hat.le
    have HAT := Lib.hid hat
    clear hat
    by_cases hi : i < cs.length
    · have b1 : decide ((i : Int) < (cs.length : Int)) = true := by simp; omega
      obtain ⟨bb, off, e1, hc⟩ := ints_pick HAT.out.sl i (by rw [List.length_map]; exact hi)
      obtain rfl := e1
      rw [List.getElem_map] at hc
      obtain ⟨x, hx⟩ : ∃ x, x = cs[i] := ⟨_, rfl⟩
      rw [← hx] at hc
      have hxl : x < S.cells.length := HCS.out x (by rw [hx]; exact List.getElem_mem hi)
      have HX := Lib.hid hx
      clear hx
      go_wp2_with fail
      refine (law_GetE HAT.out.law HI.out x hxl).mono ?_
      rintro e1 w1 ⟨a1, c1, rfl, l1, s1, i1⟩
      obtain ⟨v1, hv1⟩ : ∃ v1, v1 = aggT (getT S x) a1 c1 := ⟨_, rfl⟩
      have e1' : aggT (getT S x) a1 c1 = .agg #[.int .i64 (getT S x).k, .int .i64 (getT S x).n, .string (getT S x).s, .slice a1 (getT S x).args.length c1] := rfl
      rw [e1'] at i1 ⊢
      clear hv1 e1' v1
      have hbA := below_new w1 (.cells #[.int .i64 (getT S x).k, .int .i64 (getT S x).n, .string (getT S x).s, .slice a1 (getT S x).args.length c1] 33 (0, 0))
      have hrA := heap_alloc_new w1 (.cells #[.int .i64 (getT S x).k, .int .i64 (getT S x).n, .string (getT S x).s, .slice a1 (getT S x).args.length c1] 33 (0, 0))
      have HT1 := Lib.hid (HAT.out.got hi HX.out l1 s1 i1)
      clear l1 s1 i1 hc
      by_cases he : getE S x = 0
      · rw [he]
        have HE := Lib.hid he
        clear he
        have HT2 := Lib.hid (HT1.out.below hbA)
        obtain ⟨u0, u1, u2, u3⟩ := row4 hrA
        clear HT1 hbA hrA
        go_upto_region 10 with fail
        generalize w1.alloc (.cells #[.int .i64 (getT S x).k, .int .i64 (getT S x).n, .string (getT S x).s, .slice a1 (getT S x).args.length c1] 33 (0, 0)) = w2 at *
        have hbB := below_new w2 (.cells #[.int .i64 (getT S x).k, .int .i64 (getT S x).n, .string (getT S x).s, .slice a1 (getT S x).args.length c1] 33 (0, 0))
        have HRB := Lib.hid (heap_alloc_new w2 (.cells #[.int .i64 (getT S x).k, .int .i64 (getT S x).n, .string (getT S x).s, .slice a1 (getT S x).args.length c1] 33 (0, 0)))
        have HT3 := Lib.hid (HT2.out.below hbB)
        have hlt : ((cs.take i).map (getT S)).length = i := by rw [List.length_map, List.length_take]; omega
        have HLT := Lib.hid hlt
        clear hbB HT2 hlt
        go_wp2_with (with_reducible show wpList _ _ _ (⟨some 32, _, _, _, _, _⟩ :: _) _ _
                     refine wpList_put (K := tmKind) rfl (.tmp 29) (.tmp 31) _ rfl Try.underlying31 info_tm rfl w.heap.size (fun b => w.heap.size ≤ b) (.slice q7 i c7) ((cs.take i).map (getT S)) [.int .i64 (getT S x).k, .int .i64 (getT S x).n, .string (getT S x).s, .slice a1 (getT S x).args.length c1] (getT S x) _ _ _ _ rfl HT3.out.own rfl HRB.out HT3.out.el (by rw [HLT.out]; unfold maxLen; omega) (by rw [HLT.out]; omega) HT3.out.base ?_
                     intro v4 w4 ho4 hb4 hg4 hv4
                     have HN4 := Lib.hid (HT3.out.put hi HX.out HE.out ho4 hg4)
                     clear ho4 hb4 hg4 hv4 u0 u1 u2 u3)
        go_roundw
        case measure => simp [intOf]; omega
        case rel => exact ⟨i + 1, rfl, HN4.out⟩
      · have e2 : (getE S x != 0) = true := by simpa using he
        have hge := HAT.out.bad hi HX.out he
        obtain ⟨rfl, hQ⟩ := HBAD.out (by rw [hge]; exact he)
        have hT2 := HT1.out.below hbA
        have HQ := Lib.hid (hQ _ hT2.law hT2.stp)
        have HGE := Lib.hid hge
        obtain ⟨u0, u1, u2, u3⟩ := row4 hrA
        clear hT2 hbA hrA HT1 hQ hge
        go_wp2
        rw [HGE.out] at HBAD HGOOD ⊢
        go_ret
        exact ⟨rfl, HQ.out⟩
    · have b1 : decide ((i : Int) < (cs.length : Int)) = false := by simp; omega
      have ei : i = cs.length := by omega
      subst ei
      have hfin := HAT.out.full
      have hok := HAT.out.ok
      have HC := Lib.hid (HGOOD.out hok q7 c7 _ HAT.out.law HAT.out.stp hfin)
      clear hfin hok
      go_wp2_with fail
      refine HC.out.mono ?_
      rintro e5 w5 ⟨rfl, hQ⟩
      have HQ := Lib.hid hQ
      clear hQ
      go_wp2
      go_ret
      exact ⟨rfl, HQ.out⟩
end Go.Proofs.Ytoklbeogmcdgaaa.Tms
