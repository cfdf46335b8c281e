
/-
  Layer 16: chars, codes, code of a call, walked.
-/
import Derived.Test.YtkhchmgdaolojaaDoorTxi
import Derived.Test.YtkhchmgdaolojaaDoorByt
namespace Go.Proofs.YtkhchmgdaolojaaDoor.Tms
open Go Go.RowKit Go.Proofs.YtkhchmgdaolojaaDoor.Reg Go.Proofs.YtkhchmgdaolojaaDoor.Rws Go.Proofs.YtkhchmgdaolojaaDoor.Maps Go.Instr
set_option linter.unusedVariables false
set_option linter.unusedSimpArgs false

/-- number_codes -/
def numberD (a b : Tm) : Dd := if a.k = 2 then .is 1 (listT (charsT true (Lib.itoa a.n)) nilT) else if a.k ≠ 1 then .wr (formalE 13 (⟨#[105, 110, 116, 101, 103, 101, 114]⟩ : ByteArray) a) else match textT true b with
  | (some x, _) => .wr x
  | (none, l) => if (numberT l).2 = true then .is 0 (intT (numberT l).1) else .wr (compT (⟨#[115, 121, 110, 116, 97, 120, 95, 101, 114, 114, 111, 114]⟩ : ByteArray) [atomT (⟨#[105, 108, 108, 101, 103, 97, 108, 95, 110, 117, 109, 98, 101, 114]⟩ : ByteArray)])
theorem atom_in {w : World} {P : Nat → Prop} {g : Nat} {T : TypeId} {fz : Nat × Nat} (s : ByteArray) (h : w.heap[g]? = some (.cells #[.int .i64 3, .int .i64 0, .string s, .slice none 0 0] T fz)) (hP : P g) : IsSl w P (.slice (some ⟨g, 0, none⟩) 1 1) [atomT s] := by
  refine IsSl.mk' (ts := [atomT s]) fun i hi => ?_
  have h0 : i = 0 := by simp at hi; omega
  subst h0
  exact ⟨g, 0, rfl, hP, TmAt.mk' (a := none) (cap := 0) (cell_of_row w g _ _ _ _ h) (cell_of_row w g _ _ _ _ h) (cell_of_row w g _ _ _ _ h) (cell_of_row w g _ _ _ _ h) (IsSl.nil _ _ none 0)⟩
set_option maxRecDepth 100000 in
set_option maxHeartbeats 4000000 in
theorem tx_number (x y : Tm) (P : Nat → Prop) (w : World) (a : Option Addr) (c : Nat) (h : IsSl w P (.slice a 2 c) [x, y]) (hM : x.size ≤ 1000000) (hM' : y.size ≤ 1000000) (hf : Num.Fit x.n) (hf' : Num.Fit y.n) (hs1 : x.s.size ≤ 100000) (hs2 : y.s.size ≤ 100000) (ht : Num.Tab w) : Calls Tryd.prog 28 #[.agg #[.slice a 2 c]] w (TellsM (numberD x y) P w) := by
  have HTB := Lib.hid ht
  clear ht
  obtain ⟨w1, w2, w3, w4⟩ := two w (.cells #[.slice a 2 c] 59 (0, 0)) (.cells #[.bool false, .slice none 0 0, .slice none 0 0, .int .i64 0, .int .i64 0, .string ⟨#[]⟩, .slice none 0 0] 35 (0, 0))
  have x0 := cell_of_row _ _ 0 _ _ _ w1
  have HR := Lib.hid w2
  have HC := Lib.hid w1
  have HB := Lib.hid w4
  have HZ := Lib.hid w3
  have H := Lib.hid (h.lt2.below w4)
  obtain ⟨b, off, e1, -⟩ := H.out.at 0 (by simp)
  subst e1
  clear h w1 w2 w3 w4
  have HF := Lib.hid (And.intro hf hf')
  clear hf hf'
  go_enter Tryd.func28, Tryd.ntmps28
  go_upto_region 1 with fail
  generalize ((w.alloc (.cells #[.slice (some ⟨b, off, none⟩) 2 c] 59 (0, 0))).alloc (.cells #[.bool false, .slice none 0 0, .slice none 0 0, .int .i64 0, .int .i64 0, .string ⟨#[]⟩, .slice none 0 0] 35 (0, 0))) = W1 at *
  go_cut [3, 4] from 9 to 16 (fun v3 v4 wx => Args2 x y (fun b => P b ∧ b < w.heap.size) W1 v3 v4 wx)
  case first =>
    refine wp_region_rest (by kernel_rfl) ?_
    have hd := (Below.refl W1.heap.size W1).drew
    have hs2 : W1.drew.heap.size = w.heap.size + 2 := HZ.out
    have h0 := H.out.below hd
    have hc2 := (hd.block _ (Array.getElem?_eq_some_iff.1 HC.out).1).trans HC.out
    have HD := Lib.hid hd
    have hlt2 : w.heap.size < W1.drew.heap.size := by rw [hs2]; omega
    clear hs2
    clear x0 HR HC HB H hd HZ
    generalize W1.drew = W2 at *
    have x0 := cell_of_row _ _ 0 _ _ _ hc2
    clear hc2
    obtain ⟨qa, qc, y0, y1, y2, y3, hit, hl1⟩ := (h0.atb 0 (by simp)).read
    obtain ⟨za, zc, z0, z1, z2, z3, hit', hl2⟩ := (h0.atb 1 (by simp)).read
    simp only [List.getElem_cons_zero, List.getElem_cons_succ, Nat.zero_mul, Nat.add_zero, Nat.one_mul] at y0 y1 y2 y3 z0 z1 z2 z3 hit hit'
    have HI1 := Lib.hid hit.args
    have HI2 := Lib.hid hit'.args
    have HQ := Lib.hid (show ∀ b, (P b ∧ b < w.heap.size) → b < W2.heap.size from fun b hb => by have := hb.2; omega)
    clear hit hit' h0
    refine rest_chainP (fun u => Below W2.heap.size W2 u) 0 12 (.soft 0 (.soft 1 (.soft 2 (.soft 3 (.soft 4 (.soft 5 (.soft 6 (.soft 7 (.two 8 9 (.one 9 (.one 10 (.one 11 .nil))) (.one 8 (.one 10 (.one 11 .nil)))))))))))) (.soft _ (.soft _ (.soft _ (.soft _ (.soft _ (.soft _ (.soft _ (.soft _ (.two _ _ (.one _ (.one _ (.one _ .nil))) (.one _ (.one _ (.one _ .nil)))))))))))) ⟨rfl, ⟨rfl, ⟨rfl, ⟨rfl, ⟨rfl, ⟨rfl, ⟨rfl, ⟨rfl, ⟨rfl, rfl, ⟨rfl, ⟨rfl, ⟨rfl, trivial⟩⟩⟩, ⟨rfl, ⟨rfl, ⟨rfl, trivial⟩⟩⟩⟩⟩⟩⟩⟩⟩⟩⟩⟩ (by kernel_rfl) (by kernel_rfl) (by kernel_rfl) (by kernel_rfl) (.inl rfl) (Below.refl _ _) ?_
    refine chainP_soft (a1 := ?ma1) (by kernel_rfl) (by kernel_rfl) ?mh1 ?mr1
    case mh1 =>
      intro u hu E hE
      go_wp2
      rfl
    refine chainP_soft (a1 := ?ma2) (by kernel_rfl) (by kernel_rfl) ?mh2 ?mr2
    case mh2 =>
      intro u hu E hE
      have c0 := (hu.cell (p := ⟨w.heap.size, 0, none⟩) hlt2).trans x0
      go_wp2
      rfl
    refine chainP_soft (a1 := ?ma3) (by kernel_rfl) (by kernel_rfl) ?mh3 ?mr3
    case mh3 =>
      intro u hu E hE
      go_wp2
      rfl
    refine chainP_soft (a1 := ?ma4) (by kernel_rfl) (by kernel_rfl) ?mh4 ?mr4
    case mh4 =>
      intro u hu E hE
      have c0 := (hu.cell (p := ⟨b, off, none⟩) hl1).trans y0
      have c1 := (hu.cell (p := ⟨b, off + 1, none⟩) hl1).trans y1
      have c2 := (hu.cell (p := ⟨b, off + 2, none⟩) hl1).trans y2
      have c3 := (hu.cell (p := ⟨b, off + 3, none⟩) hl1).trans y3
      go_wp2
      rfl
    refine chainP_soft (a1 := ?ma5) (by kernel_rfl) (by kernel_rfl) ?mh5 ?mr5
    case mh5 =>
      intro u hu E hE
      go_wp2
      rfl
    refine chainP_soft (a1 := ?ma6) (by kernel_rfl) (by kernel_rfl) ?mh6 ?mr6
    case mh6 =>
      intro u hu E hE
      have c0 := (hu.cell (p := ⟨w.heap.size, 0, none⟩) hlt2).trans x0
      go_wp2
      rfl
    refine chainP_soft (a1 := ?ma7) (by kernel_rfl) (by kernel_rfl) ?mh7 ?mr7
    case mh7 =>
      intro u hu E hE
      go_wp2
      rfl
    refine chainP_soft (a1 := ?ma8) (by kernel_rfl) (by kernel_rfl) ?mh8 ?mr8
    case mh8 =>
      intro u hu E hE
      have c0 := (hu.cell (p := ⟨b, off + 4, none⟩) hl1).trans z0
      have c1 := (hu.cell (p := ⟨b, off + 4 + 1, none⟩) hl1).trans z1
      have c2 := (hu.cell (p := ⟨b, off + 4 + 2, none⟩) hl1).trans z2
      have c3 := (hu.cell (p := ⟨b, off + 4 + 3, none⟩) hl1).trans z3
      go_wp2
      rfl
    clear x0 y0 y1 y2 y3 z0 z1 z2 z3
    refine chainP_two ?_ ?_
    · intro E hE
      go_wp2
      refine ⟨(Below.refl W2.heap.size W2).alloc (Nat.le_refl _) _, ?_⟩
      refine chainP_one ?_
      intro E hE
      go_wp2
      have HK := Lib.hid (two W2 (.cells #[.int .i64 0, .int .i64 0, .string ⟨#[]⟩, .slice none 0 0] 28 (0, 0)) (.cells #[.int .i64 0, .int .i64 0, .string ⟨#[]⟩, .slice none 0 0] 28 (0, 0)))
      refine ⟨HK.out.2.2.2, ?_⟩
      refine chainP_one ?_
      intro E hE
      go_wp2_with (refine wpList_store_row rfl 28 (.tmp 3) (.tmp 12) rfl W2.heap.size #[.int .i64 x.k, .int .i64 x.n, .string x.s, .slice qa x.args.length qc] rfl rfl _ _ HK.out.1 size_term rfl (one4 _ _ _ _ _ _) ?_)
      refine ⟨(below_row HK.out.2.2.2 (by omega)), ?_⟩
      refine chainP_one ?_
      intro E hE
      go_wp2_with (refine wpList_store_row rfl 28 (.tmp 4) (.tmp 16) rfl (W2.heap.size + 1) #[.int .i64 y.k, .int .i64 y.n, .string y.s, .slice za y.args.length zc] rfl rfl _ _ ((setRow_other _ _ _ _ (by omega)).trans HK.out.2.1) size_term rfl (one4 _ _ _ _ _ _) ?_)
      refine ⟨(below_row (below_row HK.out.2.2.2 (by omega)) (by omega)), ?_⟩
      have HFIN := Lib.hid (args_two (g := W2.heap.size) (g' := (W2.heap.size + 1)) HK.out.2.2.2 (by omega) (by omega) (by omega) HQ.out HK.out.1 HK.out.2.1 (HI1.out.below HK.out.2.2.2) (HI2.out.below HK.out.2.2.2))
      clear HK
      refine chainP_nil (rest_end (by decide) ?_)
      go_wp2
      go_meet
      exact Args2.lift HD.out HFIN.out
    · intro E hE
      go_wp2
      refine ⟨(Below.refl W2.heap.size W2).alloc (Nat.le_refl _) _, ?_⟩
      refine chainP_one ?_
      intro E hE
      go_wp2
      have HK := Lib.hid (two W2 (.cells #[.int .i64 0, .int .i64 0, .string ⟨#[]⟩, .slice none 0 0] 28 (0, 0)) (.cells #[.int .i64 0, .int .i64 0, .string ⟨#[]⟩, .slice none 0 0] 28 (0, 0)))
      refine ⟨HK.out.2.2.2, ?_⟩
      refine chainP_one ?_
      intro E hE
      go_wp2_with (refine wpList_store_row rfl 28 (.tmp 3) (.tmp 12) rfl (W2.heap.size + 1) #[.int .i64 x.k, .int .i64 x.n, .string x.s, .slice qa x.args.length qc] rfl rfl _ _ HK.out.2.1 size_term rfl (one4 _ _ _ _ _ _) ?_)
      refine ⟨(below_row HK.out.2.2.2 (by omega)), ?_⟩
      refine chainP_one ?_
      intro E hE
      go_wp2_with (refine wpList_store_row rfl 28 (.tmp 4) (.tmp 16) rfl W2.heap.size #[.int .i64 y.k, .int .i64 y.n, .string y.s, .slice za y.args.length zc] rfl rfl _ _ ((setRow_other _ _ _ _ (by omega)).trans HK.out.1) size_term rfl (one4 _ _ _ _ _ _) ?_)
      refine ⟨(below_row (below_row HK.out.2.2.2 (by omega)) (by omega)), ?_⟩
      have HFIN := Lib.hid (args_two (g := (W2.heap.size + 1)) (g' := W2.heap.size) HK.out.2.2.2 (by omega) (by omega) (by omega) HQ.out HK.out.2.1 HK.out.1 (HI1.out.below HK.out.2.2.2) (HI2.out.below HK.out.2.2.2))
      clear HK
      refine chainP_nil (rest_end (by decide) ?_)
      go_wp2
      go_meet
      exact Args2.lift HD.out HFIN.out
  case rest =>
    obtain ⟨b3, b4, rfl, rfl, ⟨a3, c3, r3, i3⟩, ⟨a4, c4, r4, i4⟩, hbc⟩ := hcut
    have HR3 := Lib.hid (row_on HR.out hbc)
    have hb3 := HB.out.trans (hbc.mono HB.out.size)
    have hs3 : w.heap.size + 2 ≤ wc.heap.size := by have := HZ.out; have := hbc.size; omega
    have HB3 := Lib.hid hb3
    have HX := Lib.hid (show IsTm wc (fun b => P b ∧ b < w.heap.size ∨ w.heap.size + 2 ≤ b) (.agg #[.int .i64 x.k, .int .i64 x.n, .string x.s, .slice a3 x.args.length c3]) x from (IsTm.mk' i3).imp (fun b hb => Or.inl hb) fun _ _ _ => rfl)
    have HY := Lib.hid (show IsTm wc (fun b => P b ∧ b < w.heap.size ∨ w.heap.size + 2 ≤ b) (.agg #[.int .i64 y.k, .int .i64 y.n, .string y.s, .slice a4 y.args.length c4]) y from (IsTm.mk' i4).imp (fun b hb => Or.inl hb) fun _ _ _ => rfl)
    have HT3 := Lib.hid (HTB.out.on hb3)
    have R3 := Lib.hid r3
    have R4 := Lib.hid r4
    obtain ⟨y0, y1, y2, y3⟩ := row4 r3
    obtain ⟨z0, z1, z2, z3⟩ := row4 r4
    have hl3 := (Array.getElem?_eq_some_iff.1 r3).1
    have hl4 := (Array.getElem?_eq_some_iff.1 r4).1
    clear i3 i4 HR HC HZ H HB hbc x0 hb3 r3 r4 HTB
    by_cases h2 : x.k = 2
    · have c1 : (x.k == 2) = true := by rw [h2]; rfl
      have HK := Lib.hid h2
      have hsn : (⟨(Lib.itoa x.n).toArray⟩ : ByteArray).size ≤ 100000 := by have := Num.itoa_len HF.out.1; show (Lib.itoa x.n).toArray.size ≤ 100000; simp; omega
      have HDD := Lib.hid (show numberD x y = .is 1 (listT (charsT true (Lib.itoa x.n)) nilT) by unfold numberD; rw [if_pos HK.out])
      clear h2
      go_wp2_with (go_at_call 42; refine (Num.go_Print x.n HF.out.1 _ HT3.out).mono ?_; rintro e5 w5 ⟨rfl, hb5⟩; have HR5 := Lib.hid (row_on HR3.out hb5); have HB5 := Lib.hid (HB3.out.trans (hb5.mono HB3.out.size)); have hs5 : w.heap.size + 2 ≤ w5.heap.size := (by have := hb5.size; omega); clear hb5)
      refine (tx_listOf ⟨(Lib.itoa x.n).toArray⟩ true _ hsn).mono ?_
      rintro e6 w6 ⟨v6, rfl, hi6, hb6⟩
      have HR6 := Lib.hid (row_on HR5.out hb6)
      have HB6 := Lib.hid (HB5.out.trans (hb6.mono HB5.out.size))
      have hs6 : w.heap.size + 2 ≤ w6.heap.size := by have := hb6.size; omega
      have HI6 := Lib.hid (hi6.imp (P' := fun b => P b ∧ b < w.heap.size ∨ w.heap.size + 2 ≤ b) (fun b hb => by rcases hb with hb | hb; (· exact hb.elim); (· exact Or.inr (by omega))) fun _ _ _ => rfl)
      obtain ⟨q6, k6, rfl⟩ := hi6.form
      clear hb6 hi6
      go_wp2_with fail
      refine (tx_is 1 _ _ (fun b => P b ∧ b < w.heap.size ∨ w.heap.size + 2 ≤ b) _ HI6.out).mono ?_
      rintro e9 w9 ⟨v9, rfl, hd9, hb9⟩
      obtain ⟨cb, u1, u2, u3, n1, k1, n2, k2, n3, k3, cx, cy, cs, rfl⟩ := hd9.cells
      have HD9 := Lib.hid (hd9.imp (P' := fun b => P b ∧ b < w.heap.size ∨ w.heap.size + 2 ≤ b) (fun b hb => by rcases hb with hb | hb; (· exact hb); (· exact Or.inr (by omega))) (Nat.le_refl _) (fun _ _ _ => rfl))
      have HR9 := Lib.hid (row_on HR6.out hb9)
      have HB9 := Lib.hid (HB6.out.trans (hb9.mono HB6.out.size))
      clear hd9 hb9
      go_wp2_with (with_reducible show wpList _ _ _ (⟨none, .store _ (.tmp 2) _, _, _, _, _⟩ :: _) _ _
                   go_must (refine wpList_store_row rfl 35 (.tmp 2) (.tmp 27) rfl (w.heap.size + 1) #[.bool cb, .slice u1 n1 k1, .slice u2 n2 k2, .int .i64 cx, .int .i64 cy, .string cs, .slice u3 n3 k3] rfl rfl _ _ HR9.out size_did rfl (by simp [Value.oneCell']) ?_))
      have hz := setRow_heap w9 (w.heap.size + 1) _ (#[.bool cb, .slice u1 n1 k1, .slice u2 n2 k2, .int .i64 cx, .int .i64 cy, .string cs, .slice u3 n3 k3] : Array Value) _ _ HR9.out
      rw [HDD.out]
      exact bodyPost_ret (v := .agg #[.bool cb, .slice u1 n1 k1, .slice u2 n2 k2, .int .i64 cx, .int .i64 cy, .string cs, .slice u3 n3 k3]) (results_cell_row Tryd.results28 _ _ (w.heap.size + 1) _ _ _ _ rfl hz Tryd.underlying35 rfl (by kernel_rfl)) rfl ⟨_, rfl, HD9.out.imp (fun _ h => h) (by simp) (fun b hb _ => setRow_other w9 (w.heap.size + 1) b _ (by rcases hb with h | h; (· have := h.2; omega); (· omega))), below_row HB9.out (by omega)⟩
    · have c1 : (x.k == 2) = false := by simpa using h2
      have HK := Lib.hid h2
      clear h2
      by_cases hk1 : x.k = 1
      · have c2 : (x.k == 1) = true := by rw [hk1]; rfl
        have HK1 := Lib.hid hk1
        clear hk1
        go_wp2_with fail
        refine (tx_textOf y true _ _ _ hM' HY.out).mono ?_
        rintro e6 w6 ⟨v6, rfl, hi6, hb6⟩
        have HR6 := Lib.hid (row_on HR3.out hb6)
        have HB6 := Lib.hid (HB3.out.trans (hb6.mono HB3.out.size))
        have hs6 : w.heap.size + 2 ≤ w6.heap.size := by have := hb6.size; omega
        have hi6' := hi6.imp (P' := fun b => P b ∧ b < w.heap.size ∨ w.heap.size + 2 ≤ b) (fun b hb => by rcases hb with hb | hb; (· exact Or.inr (by omega)); (· exact hb.1)) fun _ _ _ => rfl
        clear hb6 hi6
        cases hr : textT true y with
        | mk bo l =>
        rw [hr] at hi6'
        have hll := textT_len hr
        cases bo with
        | some bx =>
          have hbk := textT_some hr
          have HDD := Lib.hid (show numberD x y = .wr bx by unfold numberD; rw [if_neg HK.out, if_neg (fun h => h HK1.out), hr])
          obtain ⟨bq, bc, e7⟩ := hi6'.form
          have e7' : v6 = .agg #[.int .i64 bx.k, .int .i64 bx.n, .string bx.s, .slice bq bx.args.length bc] := e7
          clear e7
          subst e7'
          have hbt := (Below.refl w6.heap.size w6).alloc (Nat.le_refl _) (.cells #[.int .i64 bx.k, .int .i64 bx.n, .string bx.s, .slice bq bx.args.length bc] 28 (0, 0))
          have HBX := Lib.hid (show IsTm _ (fun b => P b ∧ b < w.heap.size ∨ w.heap.size + 2 ≤ b) (.agg #[.int .i64 bx.k, .int .i64 bx.n, .string bx.s, .slice bq bx.args.length bc]) bx from hi6'.below hbt)
          have HBF := Lib.hid (HB6.out.trans (hbt.mono HB6.out.size))
          have HRF := Lib.hid (row_on HR6.out hbt)
          have c3 : (bx.k != 0) = true := by simpa using hbk
          clear hr hbk hi6' hbt y0 y1 y2 y3 z0 z1 z2 z3
          go_wp2_with (with_reducible show wpList _ _ _ (⟨none, .store _ (.tmp 2) _, _, _, _, _⟩ :: _) _ _
                       go_must (refine wpList_store_row rfl 35 (.tmp 2) (.tmp 39) rfl (w.heap.size + 1) #[.bool false, .slice none 0 0, .slice none 0 0, .int .i64 bx.k, .int .i64 bx.n, .string bx.s, .slice bq bx.args.length bc] rfl (by kernel_rfl) _ _ HRF.out size_did rfl (by simp [Value.oneCell']) ?_))
          have hz := setRow_heap _ (w.heap.size + 1) _ (#[.bool false, .slice none 0 0, .slice none 0 0, .int .i64 bx.k, .int .i64 bx.n, .string bx.s, .slice bq bx.args.length bc] : Array Value) _ _ HRF.out
          rw [HDD.out]
          exact bodyPost_ret (v := .agg #[.bool false, .slice none 0 0, .slice none 0 0, .int .i64 bx.k, .int .i64 bx.n, .string bx.s, .slice bq bx.args.length bc]) (results_cell_row Tryd.results28 _ _ (w.heap.size + 1) _ _ _ _ rfl hz Tryd.underlying35 rfl (by kernel_rfl)) rfl ⟨_, rfl, ⟨bq, bc, rfl, HBX.out.imp (fun _ h => h) (fun b hb _ => setRow_other _ (w.heap.size + 1) b _ (by rcases hb with h | h; (· have := h.2; omega); (· omega)))⟩, below_row HBF.out (by omega)⟩
        | none =>
          obtain ⟨bq, bc, e7⟩ := hi6'.form
          have e7' : v6 = .agg #[.int .i64 0, .int .i64 0, .string ⟨#[]⟩, .slice bq 0 bc] := e7
          clear e7
          subst e7'
          have hbt := (Below.refl w6.heap.size w6).alloc (Nat.le_refl _) (.cells #[.int .i64 0, .int .i64 0, .string ⟨#[]⟩, .slice bq 0 bc] 28 (0, 0))
          have HBF := Lib.hid (HB6.out.trans (hbt.mono HB6.out.size))
          have HRF := Lib.hid (row_on HR6.out hbt)
          have hsF : w.heap.size + 2 ≤ (w6.alloc (.cells #[.int .i64 0, .int .i64 0, .string ⟨#[]⟩, .slice bq 0 bc] 28 (0, 0))).heap.size := by simp; omega
          have HR := Lib.hid hr
          have hll2 : (⟨l.toArray⟩ : ByteArray).size ≤ 1000000 := by show l.toArray.size ≤ _; simp; omega
          simp only []
          clear hr hi6' hbt y0 y1 y2 y3 z0 z1 z2 z3
          go_wp2_with fail
          generalize (w6.alloc (.cells #[.int .i64 0, .int .i64 0, .string ⟨#[]⟩, .slice bq 0 bc] 28 (0, 0))) = w5 at *
          refine (tx_numberOf ⟨l.toArray⟩ hll2 w5).mono ?_
          rintro e7 w7 ⟨rfl, hb7⟩
          have HR7 := Lib.hid (row_on HRF.out hb7)
          have HB7 := Lib.hid (HBF.out.trans (hb7.mono HBF.out.size))
          have hs7 : w.heap.size + 2 ≤ w7.heap.size := by have := hb7.size; omega
          clear hb7
          rw [show (⟨l.toArray⟩ : ByteArray).data.toList = l from by simp]
          by_cases hok : (numberT l).2 = true
          · have HOK := Lib.hid hok
            rw [hok]
            have HDD := Lib.hid (show numberD x y = .is 0 (intT (numberT l).1) by unfold numberD; rw [if_neg HK.out, if_neg (fun h => h HK1.out), HR.out]; simp only []; rw [if_pos HOK.out])
            clear hok
            go_wp2_with fail
            refine (tx_whole _ _).mono ?_
            rintro e8 w8 ⟨rfl, hb8⟩
            have HR8 := Lib.hid (row_on HR7.out hb8)
            have HB8 := Lib.hid (HB7.out.trans (hb8.mono HB7.out.size))
            have hs8 : w.heap.size + 2 ≤ w8.heap.size := by have := hb8.size; omega
            clear hb8
            go_wp2_with fail
            refine (tx_is 0 (intT (numberT l).1) _ (fun b => P b ∧ b < w.heap.size ∨ w.heap.size + 2 ≤ b) _ (int_is _ _ _)).mono ?_
            rintro e9 w9 ⟨v9, rfl, hd9, hb9⟩
            obtain ⟨cb, u1, u2, u3, n1, k1, n2, k2, n3, k3, cx, cy, cs, rfl⟩ := hd9.cells
            have HD9 := Lib.hid (hd9.imp (P' := fun b => P b ∧ b < w.heap.size ∨ w.heap.size + 2 ≤ b) (fun b hb => by rcases hb with hb | hb; (· exact hb); (· exact Or.inr (by omega))) (Nat.le_refl _) (fun _ _ _ => rfl))
            have HR9 := Lib.hid (row_on HR8.out hb9)
            have HB9 := Lib.hid (HB8.out.trans (hb9.mono HB8.out.size))
            clear hd9 hb9
            go_wp2_with (with_reducible show wpList _ _ _ (⟨none, .store _ (.tmp 2) _, _, _, _, _⟩ :: _) _ _
                         go_must (refine wpList_store_row rfl 35 (.tmp 2) (.tmp 53) rfl (w.heap.size + 1) #[.bool cb, .slice u1 n1 k1, .slice u2 n2 k2, .int .i64 cx, .int .i64 cy, .string cs, .slice u3 n3 k3] rfl rfl _ _ HR9.out size_did rfl (by simp [Value.oneCell']) ?_))
            have hz := setRow_heap w9 (w.heap.size + 1) _ (#[.bool cb, .slice u1 n1 k1, .slice u2 n2 k2, .int .i64 cx, .int .i64 cy, .string cs, .slice u3 n3 k3] : Array Value) _ _ HR9.out
            rw [HDD.out]
            exact bodyPost_ret (v := .agg #[.bool cb, .slice u1 n1 k1, .slice u2 n2 k2, .int .i64 cx, .int .i64 cy, .string cs, .slice u3 n3 k3]) (results_cell_row Tryd.results28 _ _ (w.heap.size + 1) _ _ _ _ rfl hz Tryd.underlying35 rfl (by kernel_rfl)) rfl ⟨_, rfl, HD9.out.imp (fun _ h => h) (by simp) (fun b hb _ => setRow_other w9 (w.heap.size + 1) b _ (by rcases hb with h | h; (· have := h.2; omega); (· omega))), below_row HB9.out (by omega)⟩
          · have hok' : (numberT l).2 = false := by simpa using hok
            have HOK := Lib.hid hok
            rw [hok']
            have HDD := Lib.hid (show numberD x y = .wr (compT (⟨#[115, 121, 110, 116, 97, 120, 95, 101, 114, 114, 111, 114]⟩ : ByteArray) [atomT (⟨#[105, 108, 108, 101, 103, 97, 108, 95, 110, 117, 109, 98, 101, 114]⟩ : ByteArray)]) by unfold numberD; rw [if_neg HK.out, if_neg (fun h => h HK1.out), HR.out]; simp only []; rw [if_neg HOK.out])
            clear hok hok'
            go_wp2_with fail
            refine (tx_atom _ _).mono ?_
            rintro e8 w8 ⟨rfl, hb8⟩
            have HR8 := Lib.hid (row_on HR7.out hb8)
            have HB8 := Lib.hid (HB7.out.trans (hb8.mono HB7.out.size))
            have hs8 : w.heap.size + 2 ≤ w8.heap.size := by have := hb8.size; omega
            clear hb8
            have hbt := (Below.refl w8.heap.size w8).alloc (Nat.le_refl _) (.cells #[.int .i64 3, .int .i64 0, .string (⟨#[105, 108, 108, 101, 103, 97, 108, 95, 110, 117, 109, 98, 101, 114]⟩ : ByteArray), .slice none 0 0] 28 (0, 0))
            have HIA := Lib.hid (atom_in (P := fun b => P b ∧ b < w.heap.size ∨ w.heap.size + 2 ≤ b) (⟨#[105, 108, 108, 101, 103, 97, 108, 95, 110, 117, 109, 98, 101, 114]⟩ : ByteArray) (heap_alloc_new w8 (.cells #[.int .i64 3, .int .i64 0, .string (⟨#[105, 108, 108, 101, 103, 97, 108, 95, 110, 117, 109, 98, 101, 114]⟩ : ByteArray), .slice none 0 0] 28 (0, 0))) (Or.inr hs8))
            have HRG := Lib.hid (row_on HR8.out hbt)
            have HBG := Lib.hid (HB8.out.trans (hbt.mono HB8.out.size))
            clear hbt
            have HBX := Lib.hid (show IsTm _ (fun b => P b ∧ b < w.heap.size ∨ w.heap.size + 2 ≤ b) (.agg #[.int .i64 4, .int .i64 0, .string (⟨#[115, 121, 110, 116, 97, 120, 95, 101, 114, 114, 111, 114]⟩ : ByteArray), .slice (some ⟨w8.heap.size, 0, none⟩) 1 1]) (compT (⟨#[115, 121, 110, 116, 97, 120, 95, 101, 114, 114, 111, 114]⟩ : ByteArray) [atomT (⟨#[105, 108, 108, 101, 103, 97, 108, 95, 110, 117, 109, 98, 101, 114]⟩ : ByteArray)]) from IsTm.mk' (t := compT (⟨#[115, 121, 110, 116, 97, 120, 95, 101, 114, 114, 111, 114]⟩ : ByteArray) [atomT (⟨#[105, 108, 108, 101, 103, 97, 108, 95, 110, 117, 109, 98, 101, 114]⟩ : ByteArray)]) HIA.out)
            go_wp2_with (with_reducible show wpList _ _ _ (⟨none, .store _ (.tmp 2) _, _, _, _, _⟩ :: _) _ _
                         go_must (refine wpList_store_row rfl 35 (.tmp 2) (.tmp 50) rfl (w.heap.size + 1) #[.bool false, .slice none 0 0, .slice none 0 0, .int .i64 4, .int .i64 0, .string (⟨#[115, 121, 110, 116, 97, 120, 95, 101, 114, 114, 111, 114]⟩ : ByteArray), .slice (some ⟨w8.heap.size, 0, none⟩) 1 1] rfl (by kernel_rfl) _ _ HRG.out size_did rfl (by simp [Value.oneCell']) ?_))
            have hz := setRow_heap _ (w.heap.size + 1) _ (#[.bool false, .slice none 0 0, .slice none 0 0, .int .i64 4, .int .i64 0, .string (⟨#[115, 121, 110, 116, 97, 120, 95, 101, 114, 114, 111, 114]⟩ : ByteArray), .slice (some ⟨w8.heap.size, 0, none⟩) 1 1] : Array Value) _ _ HRG.out
            rw [HDD.out]
            exact bodyPost_ret (v := .agg #[.bool false, .slice none 0 0, .slice none 0 0, .int .i64 4, .int .i64 0, .string (⟨#[115, 121, 110, 116, 97, 120, 95, 101, 114, 114, 111, 114]⟩ : ByteArray), .slice (some ⟨w8.heap.size, 0, none⟩) 1 1]) (results_cell_row Tryd.results28 _ _ (w.heap.size + 1) _ _ _ _ rfl hz Tryd.underlying35 rfl (by kernel_rfl)) rfl ⟨_, rfl, ⟨some ⟨w8.heap.size, 0, none⟩, 1, rfl, HBX.out.imp (fun _ h => h) (fun b hb _ => setRow_other _ (w.heap.size + 1) b _ (by rcases hb with h | h; (· have := h.2; omega); (· omega)))⟩, below_row HBG.out (by omega)⟩
      · have c2 : (x.k == 1) = false := by simpa using hk1
        have HK1 := Lib.hid hk1
        clear hk1
        have HDD := Lib.hid (show numberD x y = .wr (formalE 13 (⟨#[105, 110, 116, 101, 103, 101, 114]⟩ : ByteArray) x) by unfold numberD; rw [if_neg HK.out, if_pos HK1.out])
        go_wp2_with fail
        refine (tx_wrong 13 (⟨#[105, 110, 116, 101, 103, 101, 114]⟩ : ByteArray) x _ (fun b => P b ∧ b < w.heap.size ∨ w.heap.size + 2 ≤ b) _ (by omega) HX.out).mono ?_
        rintro e9 w9 ⟨v9, rfl, hd9, hb9⟩
        obtain ⟨cb, u1, u2, u3, n1, k1, n2, k2, n3, k3, cx, cy, cs, rfl⟩ := hd9.cells
        have HD9 := Lib.hid (hd9.imp (P' := fun b => P b ∧ b < w.heap.size ∨ w.heap.size + 2 ≤ b) (fun b hb => by rcases hb with hb | hb; (· exact hb); (· exact Or.inr (by omega))) (Nat.le_refl _) (fun _ _ _ => rfl))
        have HR9 := Lib.hid (row_on HR3.out hb9)
        have HB9 := Lib.hid (HB3.out.trans (hb9.mono HB3.out.size))
        clear hd9 hb9
        go_wp2_with (with_reducible show wpList _ _ _ (⟨none, .store _ (.tmp 2) _, _, _, _, _⟩ :: _) _ _
                     go_must (refine wpList_store_row rfl 35 (.tmp 2) (.tmp 20) rfl (w.heap.size + 1) #[.bool cb, .slice u1 n1 k1, .slice u2 n2 k2, .int .i64 cx, .int .i64 cy, .string cs, .slice u3 n3 k3] rfl rfl _ _ HR9.out size_did rfl (by simp [Value.oneCell']) ?_))
        have hz := setRow_heap w9 (w.heap.size + 1) _ (#[.bool cb, .slice u1 n1 k1, .slice u2 n2 k2, .int .i64 cx, .int .i64 cy, .string cs, .slice u3 n3 k3] : Array Value) _ _ HR9.out
        rw [HDD.out]
        exact bodyPost_ret (v := .agg #[.bool cb, .slice u1 n1 k1, .slice u2 n2 k2, .int .i64 cx, .int .i64 cy, .string cs, .slice u3 n3 k3]) (results_cell_row Tryd.results28 _ _ (w.heap.size + 1) _ _ _ _ rfl hz Tryd.underlying35 rfl (by kernel_rfl)) rfl ⟨_, rfl, HD9.out.imp (fun _ h => h) (by simp) (fun b hb _ => setRow_other w9 (w.heap.size + 1) b _ (by rcases hb with h | h; (· have := h.2; omega); (· omega))), below_row HB9.out (by omega)⟩
end Go.Proofs.YtkhchmgdaolojaaDoor.Tms
