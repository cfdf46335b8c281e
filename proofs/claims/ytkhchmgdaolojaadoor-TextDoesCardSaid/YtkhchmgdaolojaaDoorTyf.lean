
/-
  Layer 16: the reference's do, walked.
  Layer 16: the reference's do, walked.
  Layer 16: the reference's do, walked.
-/
import Derived.Test.YtkhchmgdaolojaaDoorTyc
namespace Go.Proofs.YtkhchmgdaolojaaDoor.Tms
open Go Go.RowKit Go.Proofs.YtkhchmgdaolojaaDoor.Reg Go.Proofs.YtkhchmgdaolojaaDoor.Rws Go.Proofs.YtkhchmgdaolojaaDoor.Maps Go.Instr
set_option linter.unusedVariables false
set_option linter.unusedSimpArgs false

/-- a call that answers so, whatever lies where -/
def RdPost (d : Dd) (w : World) (e : Ending) (w' : World) : Prop := ∃ v, e = .returned v ∧ IsDe w' (fun b => w.heap.size < b) AnyB v d ∧ Below w.heap.size w w'
theorem name_atomic {t : Tm} {s : ByteArray} (h : nameT t = some s) : decide (t.k = 2 ∨ t.k = 3) = true := by
  unfold nameT at h
  by_cases h2 : t.k = 2
  · exact decide_eq_true (.inl h2)
  · rw [if_neg h2] at h
    by_cases h3 : t.k = 3
    · exact decide_eq_true (.inr h3)
    · rw [if_neg h3] at h; cases h
theorem name_not {t : Tm} (h : nameT t = none) : decide (t.k = 2 ∨ t.k = 3) = false := by
  unfold nameT at h
  by_cases h2 : t.k = 2
  · rw [if_pos h2] at h; cases h
  · rw [if_neg h2] at h
    by_cases h3 : t.k = 3
    · rw [if_pos h3] at h; cases h
    · exact decide_eq_false (fun h => h.elim h2 h3)
set_option maxRecDepth 100000 in
set_option maxHeartbeats 8000000 in
theorem r16_do_length (x y : Tm) (P : Nat → Prop) (w : World) (a : Option Addr) (c : Nat) (h : IsSl w P (.slice a 2 c) [x, y]) (hM : x.size ≤ 1000000) (hM' : y.size ≤ 1000000) (hf : Num.Fit x.n) (hf' : Num.Fit y.n) (hs1 : x.s.size ≤ 100000) (hs2 : y.s.size ≤ 100000) (hkx : x.k = 1 ∨ x.k = 2 ∨ x.k = 3 ∨ x.k = 4) (hoy : y.ok = true) : Calls Tryd.prog 31 #[.string ⟨#[97, 116, 111, 109, 95, 108, 101, 110, 103, 116, 104]⟩, .slice a 2 c] w (RdPost (lengthD x y) w) := by
  have hrw := heap_alloc_new w (.cells #[.bool false, .slice none 0 0, .slice none 0 0, .int .i64 0, .int .i64 0, .string ⟨#[]⟩, .slice none 0 0] 35 (0, 0))
  have hal := (Below.refl w.heap.size w).alloc (Nat.le_refl _) (.cells #[.bool false, .slice none 0 0, .slice none 0 0, .int .i64 0, .int .i64 0, .string ⟨#[]⟩, .slice none 0 0] 35 (0, 0))
  have HR := Lib.hid hrw
  have HB := Lib.hid hal
  have HZ := Lib.hid (show (w.alloc (.cells #[.bool false, .slice none 0 0, .slice none 0 0, .int .i64 0, .int .i64 0, .string ⟨#[]⟩, .slice none 0 0] 35 (0, 0))).heap.size = w.heap.size + 1 by simp)
  have H := Lib.hid ((h.lt2.imp (P' := (fun b => b < w.heap.size)) (fun b hb => hb.2) fun _ _ _ => rfl).below hal)
  obtain ⟨b, off, e1, -⟩ := H.out.at 0 (by simp)
  subst e1
  clear h hrw hal
  have HF := Lib.hid (And.intro hf hf')
  have HKX := Lib.hid hkx
  have HOY := Lib.hid hoy
  clear hf hf' hkx hoy
  go_enter Tryd.func31, Tryd.ntmps31
  go_upto_region 1 with fail
  generalize w.alloc (.cells #[.bool false, .slice none 0 0, .slice none 0 0, .int .i64 0, .int .i64 0, .string ⟨#[]⟩, .slice none 0 0] 35 (0, 0)) = W1 at *
  go_cut [5, 6] from 16 to 22 (fun v5 v6 wx => Args2 x y (fun b => b < w.heap.size) W1 v5 v6 wx)
  case first =>
    refine wp_region_rest (by kernel_rfl) ?_
    have hd := (Below.refl W1.heap.size W1).drew
    have hs2 : W1.drew.heap.size = w.heap.size + 1 := HZ.out
    have h0 := H.out.below hd
    have HD := Lib.hid hd
    have HS2 := Lib.hid hs2
    clear HR HB H hd HZ hs2
    generalize W1.drew = W2 at *
    obtain ⟨qa, qc, y0, y1, y2, y3, hit, hl1⟩ := (h0.atb 0 (by simp)).read
    obtain ⟨za, zc, z0, z1, z2, z3, hit', hl2⟩ := (h0.atb 1 (by simp)).read
    simp only [List.getElem_cons_zero, List.getElem_cons_succ, Nat.zero_mul, Nat.add_zero, Nat.one_mul] at y0 y1 y2 y3 z0 z1 z2 z3 hit hit'
    have HI1 := Lib.hid hit.args
    have HI2 := Lib.hid hit'.args
    have HQ := Lib.hid (show ∀ b, (fun b => b < w.heap.size) b → b < W2.heap.size from fun b hb => by have := HS2.out; have hb2 : b < w.heap.size := hb; omega)
    clear hit hit' h0
    refine rest_chainP (fun u => Below W2.heap.size W2 u) 0 10 (.soft 0 (.soft 1 (.soft 2 (.soft 3 (.soft 4 (.soft 5 (.two 6 7 (.one 7 (.one 8 (.one 9 .nil))) (.one 6 (.one 8 (.one 9 .nil)))))))))) (.soft _ (.soft _ (.soft _ (.soft _ (.soft _ (.soft _ (.two _ _ (.one _ (.one _ (.one _ .nil))) (.one _ (.one _ (.one _ .nil)))))))))) ⟨rfl, ⟨rfl, ⟨rfl, ⟨rfl, ⟨rfl, ⟨rfl, ⟨rfl, rfl, ⟨rfl, ⟨rfl, ⟨rfl, trivial⟩⟩⟩, ⟨rfl, ⟨rfl, ⟨rfl, trivial⟩⟩⟩⟩⟩⟩⟩⟩⟩⟩ (by kernel_rfl) (by kernel_rfl) (by kernel_rfl) (by kernel_rfl) (.inl rfl) (Below.refl _ _) ?_
    refine chainP_soft (a1 := ?ma1) (by kernel_rfl) (by kernel_rfl) ?mh1 ?mr1
    case mh1 =>
      intro u hu E hE
      go_wp2
      rfl
    refine chainP_soft (a1 := ?ma2) (by kernel_rfl) (by kernel_rfl) ?mh2 ?mr2
    case mh2 =>
      intro u hu E hE
      go_wp2
      rfl
    refine chainP_soft (a1 := ?ma3) (by kernel_rfl) (by kernel_rfl) ?mh3 ?mr3
    case mh3 =>
      intro u hu E hE
      have c0 := (hu.cell (p := ⟨b, off, none⟩) hl1).trans y0
      have c1 := (hu.cell (p := ⟨b, off + 1, none⟩) hl1).trans y1
      have c2 := (hu.cell (p := ⟨b, off + 2, none⟩) hl1).trans y2
      have c3 := (hu.cell (p := ⟨b, off + 3, none⟩) hl1).trans y3
      go_wp2
      rfl
    refine chainP_soft (a1 := ?ma4) (by kernel_rfl) (by kernel_rfl) ?mh4 ?mr4
    case mh4 =>
      intro u hu E hE
      go_wp2
      rfl
    refine chainP_soft (a1 := ?ma5) (by kernel_rfl) (by kernel_rfl) ?mh5 ?mr5
    case mh5 =>
      intro u hu E hE
      go_wp2
      rfl
    refine chainP_soft (a1 := ?ma6) (by kernel_rfl) (by kernel_rfl) ?mh6 ?mr6
    case mh6 =>
      intro u hu E hE
      have c0 := (hu.cell (p := ⟨b, off + 4, none⟩) hl1).trans z0
      have c1 := (hu.cell (p := ⟨b, off + 4 + 1, none⟩) hl1).trans z1
      have c2 := (hu.cell (p := ⟨b, off + 4 + 2, none⟩) hl1).trans z2
      have c3 := (hu.cell (p := ⟨b, off + 4 + 3, none⟩) hl1).trans z3
      go_wp2
      rfl
    clear y0 y1 y2 y3 z0 z1 z2 z3
    refine chainP_two ?_ ?_
    · intro E hE
      go_wp2
      refine ⟨(Below.refl W2.heap.size W2).alloc (Nat.le_refl _) _, ?_⟩
      refine chainP_one ?_
      intro E hE
      go_wp2
      have HK := Lib.hid (two W2 (.cells #[.int .i64 0, .int .i64 0, .string ⟨#[]⟩, .slice none 0 0] 28 (0, 0)) (.cells #[.int .i64 0, .int .i64 0, .string ⟨#[]⟩, .slice none 0 0] 28 (0, 0)))
      refine ⟨HK.out.2.2.2, ?_⟩
      refine chainP_one ?_
      intro E hE
      go_wp2_with (refine wpList_store_row rfl 28 (.tmp 5) (.tmp 18) rfl W2.heap.size #[.int .i64 x.k, .int .i64 x.n, .string x.s, .slice qa x.args.length qc] rfl rfl _ _ HK.out.1 size_term rfl (one4 _ _ _ _ _ _) ?_)
      refine ⟨(below_row HK.out.2.2.2 (by omega)), ?_⟩
      refine chainP_one ?_
      intro E hE
      go_wp2_with (refine wpList_store_row rfl 28 (.tmp 6) (.tmp 21) rfl (W2.heap.size + 1) #[.int .i64 y.k, .int .i64 y.n, .string y.s, .slice za y.args.length zc] rfl rfl _ _ ((setRow_other _ _ _ _ (by omega)).trans HK.out.2.1) size_term rfl (one4 _ _ _ _ _ _) ?_)
      refine ⟨(below_row (below_row HK.out.2.2.2 (by omega)) (by omega)), ?_⟩
      have HFIN := Lib.hid (args_two (g := W2.heap.size) (g' := (W2.heap.size + 1)) HK.out.2.2.2 (by omega) (by omega) (by omega) HQ.out HK.out.1 HK.out.2.1 (HI1.out.below HK.out.2.2.2) (HI2.out.below HK.out.2.2.2))
      clear HK
      refine chainP_nil (rest_end (by decide) ?_)
      go_wp2
      go_meet
      exact Args2.lift HD.out HFIN.out
    · intro E hE
      go_wp2
      refine ⟨(Below.refl W2.heap.size W2).alloc (Nat.le_refl _) _, ?_⟩
      refine chainP_one ?_
      intro E hE
      go_wp2
      have HK := Lib.hid (two W2 (.cells #[.int .i64 0, .int .i64 0, .string ⟨#[]⟩, .slice none 0 0] 28 (0, 0)) (.cells #[.int .i64 0, .int .i64 0, .string ⟨#[]⟩, .slice none 0 0] 28 (0, 0)))
      refine ⟨HK.out.2.2.2, ?_⟩
      refine chainP_one ?_
      intro E hE
      go_wp2_with (refine wpList_store_row rfl 28 (.tmp 5) (.tmp 18) rfl (W2.heap.size + 1) #[.int .i64 x.k, .int .i64 x.n, .string x.s, .slice qa x.args.length qc] rfl rfl _ _ HK.out.2.1 size_term rfl (one4 _ _ _ _ _ _) ?_)
      refine ⟨(below_row HK.out.2.2.2 (by omega)), ?_⟩
      refine chainP_one ?_
      intro E hE
      go_wp2_with (refine wpList_store_row rfl 28 (.tmp 6) (.tmp 21) rfl W2.heap.size #[.int .i64 y.k, .int .i64 y.n, .string y.s, .slice za y.args.length zc] rfl rfl _ _ ((setRow_other _ _ _ _ (by omega)).trans HK.out.1) size_term rfl (one4 _ _ _ _ _ _) ?_)
      refine ⟨(below_row (below_row HK.out.2.2.2 (by omega)) (by omega)), ?_⟩
      have HFIN := Lib.hid (args_two (g := (W2.heap.size + 1)) (g' := W2.heap.size) HK.out.2.2.2 (by omega) (by omega) (by omega) HQ.out HK.out.2.1 HK.out.1 (HI1.out.below HK.out.2.2.2) (HI2.out.below HK.out.2.2.2))
      clear HK
      refine chainP_nil (rest_end (by decide) ?_)
      go_wp2
      go_meet
      exact Args2.lift HD.out HFIN.out
  case rest =>
    obtain ⟨b5, b6, rfl, rfl, ⟨a3, c3, r3, i3⟩, ⟨a4, c4, r4, i4⟩, hbc⟩ := hcut
    have HR3 := Lib.hid (row_on HR.out hbc)
    have HB3 := Lib.hid (HB.out.trans (hbc.mono HB.out.size))
    have hs3 : w.heap.size < wc.heap.size := by have := HZ.out; have := hbc.size; omega
    have HX3 := Lib.hid (show IsTm wc (fun b => b < w.heap.size) (.agg #[.int .i64 x.k, .int .i64 x.n, .string x.s, .slice a3 x.args.length c3]) x from IsTm.mk' i3)
    have HY3 := Lib.hid (show IsTm wc (fun b => b < w.heap.size) (.agg #[.int .i64 y.k, .int .i64 y.n, .string y.s, .slice a4 y.args.length c4]) y from IsTm.mk' i4)
    have RX3 := Lib.hid r3
    have RY3 := Lib.hid r4
    obtain ⟨y0, y1, y2, y3⟩ := row4 r3
    obtain ⟨z0, z1, z2, z3⟩ := row4 r4
    clear i3 i4 HR HZ H HB hbc r3 r4
    by_cases hk1 : x.k = 1
    · have c1 : (x.k == 1) = true := by rw [hk1]; rfl
      have HK := Lib.hid hk1
      clear hk1
      have HDD := Lib.hid (show _ = Dd.wr (formalE 12 ⟨#[]⟩ x) by show lengthD x y = _; unfold lengthD; rw [if_pos HK.out])
      go_wp2_with fail
      refine (r16_Wrong 12 ⟨#[]⟩ x _ (fun b => b < w.heap.size) _ (by omega) HX3.out).mono ?_
      rintro e9 w9 ⟨v9, rfl, hd9, hb9⟩
      replace hd9 := hd9.wrE (fun b => w.heap.size < b)
      obtain ⟨cb, u1, u2, u3, n1, k1, n2, k2, n3, k3, cx, cy, cs, rfl⟩ := hd9.cells
      have HD9 := Lib.hid (hd9.imp (Pi' := fun b => w.heap.size < b) (Pt' := fun b => b ≠ w.heap.size) (fun b hb => by omega) (fun b hb => by rcases hb with hb | hb <;> omega) (Nat.le_refl _) (fun _ _ _ => rfl))
      have HR9 := Lib.hid (row_on HR3.out hb9)
      have HB9 := Lib.hid (HB3.out.trans (hb9.mono HB3.out.size))
      clear hd9 hb9
      go_wp2_with (with_reducible show wpList _ _ _ (⟨none, .store _ (.tmp 4) _, _, _, _, _⟩ :: _) _ _
                   go_must (refine wpList_store_row rfl 35 (.tmp 4) (.tmp 30) rfl w.heap.size #[.bool cb, .slice u1 n1 k1, .slice u2 n2 k2, .int .i64 cx, .int .i64 cy, .string cs, .slice u3 n3 k3] rfl rfl _ _ HR9.out size_did rfl (by simp [Value.oneCell']) ?_))
      have hz := setRow_heap w9 w.heap.size _ (#[.bool cb, .slice u1 n1 k1, .slice u2 n2 k2, .int .i64 cx, .int .i64 cy, .string cs, .slice u3 n3 k3] : Array Value) _ _ HR9.out
      rw [HDD.out]
      exact bodyPost_ret (v := .agg #[.bool cb, .slice u1 n1 k1, .slice u2 n2 k2, .int .i64 cx, .int .i64 cy, .string cs, .slice u3 n3 k3]) (results_cell_row Tryd.results31 _ _ w.heap.size _ _ _ _ rfl hz Tryd.underlying35 rfl (by kernel_rfl)) rfl ⟨_, rfl, HD9.out.imp (fun _ hb => hb) (fun _ _ => trivial) (by simp) (fun b hb _ => setRow_other w9 w.heap.size b _ (by rcases hb with hb | hb; (· have h : w.heap.size < b := hb; omega); (· exact hb))), below_row HB9.out (Nat.le_refl _)⟩
    have c1 : (x.k == 1) = false := by simpa using hk1
    have HK := Lib.hid hk1
    clear hk1
    cases hn : nameT x with
    | none =>
      have HN := Lib.hid hn
      have HA := Lib.hid (name_not hn)
      clear hn
      go_wp2_with fail
      refine (r16_atomic x _ _ _ HX3.out).mono ?_
      rintro e5 w5 ⟨rfl, hb5⟩
      have HR5 := Lib.hid (row_on HR3.out hb5)
      have HB5 := Lib.hid (HB3.out.trans (hb5.mono HB3.out.size))
      have hs5 : w.heap.size < w5.heap.size := by have := hb5.size; omega
      have HX5 := Lib.hid (HX3.out.below hb5)
      have HY5 := Lib.hid (HY3.out.below hb5)
      have RX5 := Lib.hid (row_on RX3.out hb5)
      have RY5 := Lib.hid (row_on RY3.out hb5)
      clear y0 y1 y2 y3 z0 z1 z2 z3
      obtain ⟨y0, y1, y2, y3⟩ := row4 RX5.out
      obtain ⟨z0, z1, z2, z3⟩ := row4 RY5.out
      clear hb5 HR3 HB3 HX3 HY3 RX3 RY3 hs3
      rw [HA.out]
      have HDD := Lib.hid (show _ = Dd.wr (formalE 13 (⟨#[97, 116, 111, 109]⟩ : ByteArray) x) by show lengthD x y = _; unfold lengthD; rw [if_neg HK.out, HN.out])
      go_wp2_with fail
      refine (r16_Wrong 13 (⟨#[97, 116, 111, 109]⟩ : ByteArray) x _ (fun b => b < w.heap.size) _ (by omega) HX5.out).mono ?_
      rintro e9 w9 ⟨v9, rfl, hd9, hb9⟩
      replace hd9 := hd9.wrE (fun b => w.heap.size < b)
      obtain ⟨cb, u1, u2, u3, n1, k1, n2, k2, n3, k3, cx, cy, cs, rfl⟩ := hd9.cells
      have HD9 := Lib.hid (hd9.imp (Pi' := fun b => w.heap.size < b) (Pt' := fun b => b ≠ w.heap.size) (fun b hb => by omega) (fun b hb => by rcases hb with hb | hb <;> omega) (Nat.le_refl _) (fun _ _ _ => rfl))
      have HR9 := Lib.hid (row_on HR5.out hb9)
      have HB9 := Lib.hid (HB5.out.trans (hb9.mono HB5.out.size))
      clear hd9 hb9
      go_wp2_with (with_reducible show wpList _ _ _ (⟨none, .store _ (.tmp 4) _, _, _, _, _⟩ :: _) _ _
                   go_must (refine wpList_store_row rfl 35 (.tmp 4) (.tmp 36) rfl w.heap.size #[.bool cb, .slice u1 n1 k1, .slice u2 n2 k2, .int .i64 cx, .int .i64 cy, .string cs, .slice u3 n3 k3] rfl rfl _ _ HR9.out size_did rfl (by simp [Value.oneCell']) ?_))
      have hz := setRow_heap w9 w.heap.size _ (#[.bool cb, .slice u1 n1 k1, .slice u2 n2 k2, .int .i64 cx, .int .i64 cy, .string cs, .slice u3 n3 k3] : Array Value) _ _ HR9.out
      rw [HDD.out]
      exact bodyPost_ret (v := .agg #[.bool cb, .slice u1 n1 k1, .slice u2 n2 k2, .int .i64 cx, .int .i64 cy, .string cs, .slice u3 n3 k3]) (results_cell_row Tryd.results31 _ _ w.heap.size _ _ _ _ rfl hz Tryd.underlying35 rfl (by kernel_rfl)) rfl ⟨_, rfl, HD9.out.imp (fun _ hb => hb) (fun _ _ => trivial) (by simp) (fun b hb _ => setRow_other w9 w.heap.size b _ (by rcases hb with hb | hb; (· have h : w.heap.size < b := hb; omega); (· exact hb))), below_row HB9.out (Nat.le_refl _)⟩
    | some sn =>
      have HN := Lib.hid hn
      have HA := Lib.hid (name_atomic hn)
      have hsn : sn.size ≤ 100000 := name_size hn HF.out.1 hs1
      clear hn
      go_wp2_with fail
      refine (r16_atomic x _ _ _ HX3.out).mono ?_
      rintro e5 w5 ⟨rfl, hb5⟩
      have HR5 := Lib.hid (row_on HR3.out hb5)
      have HB5 := Lib.hid (HB3.out.trans (hb5.mono HB3.out.size))
      have hs5 : w.heap.size < w5.heap.size := by have := hb5.size; omega
      have HX5 := Lib.hid (HX3.out.below hb5)
      have HY5 := Lib.hid (HY3.out.below hb5)
      have RX5 := Lib.hid (row_on RX3.out hb5)
      have RY5 := Lib.hid (row_on RY3.out hb5)
      clear y0 y1 y2 y3 z0 z1 z2 z3
      obtain ⟨y0, y1, y2, y3⟩ := row4 RX5.out
      obtain ⟨z0, z1, z2, z3⟩ := row4 RY5.out
      clear hb5 HR3 HB3 HX3 HY3 RX3 RY3 hs3
      rw [HA.out]
      by_cases hy : y.k ≠ 1 ∧ y.k ≠ 2
      · have d2 : (y.k != 1) = true := by simpa using hy.1
        have d3 : (y.k != 2) = true := by simpa using hy.2
        have HY2 := Lib.hid hy
        clear hy
        have HDD := Lib.hid (show _ = Dd.wr (formalE 13 (⟨#[105, 110, 116, 101, 103, 101, 114]⟩ : ByteArray) y) by show lengthD x y = _; unfold lengthD; rw [if_neg HK.out, HN.out]; simp only []; rw [if_pos HY2.out])
        go_wp2_with fail
        refine (r16_Wrong 13 (⟨#[105, 110, 116, 101, 103, 101, 114]⟩ : ByteArray) y _ (fun b => b < w.heap.size) _ (by omega) HY5.out).mono ?_
        rintro e9 w9 ⟨v9, rfl, hd9, hb9⟩
        replace hd9 := hd9.wrE (fun b => w.heap.size < b)
        obtain ⟨cb, u1, u2, u3, n1, k1, n2, k2, n3, k3, cx, cy, cs, rfl⟩ := hd9.cells
        have HD9 := Lib.hid (hd9.imp (Pi' := fun b => w.heap.size < b) (Pt' := fun b => b ≠ w.heap.size) (fun b hb => by omega) (fun b hb => by rcases hb with hb | hb <;> omega) (Nat.le_refl _) (fun _ _ _ => rfl))
        have HR9 := Lib.hid (row_on HR5.out hb9)
        have HB9 := Lib.hid (HB5.out.trans (hb9.mono HB5.out.size))
        clear hd9 hb9
        go_wp2_with (with_reducible show wpList _ _ _ (⟨none, .store _ (.tmp 4) _, _, _, _, _⟩ :: _) _ _
                     go_must (refine wpList_store_row rfl 35 (.tmp 4) (.tmp 47) rfl w.heap.size #[.bool cb, .slice u1 n1 k1, .slice u2 n2 k2, .int .i64 cx, .int .i64 cy, .string cs, .slice u3 n3 k3] rfl rfl _ _ HR9.out size_did rfl (by simp [Value.oneCell']) ?_))
        have hz := setRow_heap w9 w.heap.size _ (#[.bool cb, .slice u1 n1 k1, .slice u2 n2 k2, .int .i64 cx, .int .i64 cy, .string cs, .slice u3 n3 k3] : Array Value) _ _ HR9.out
        rw [HDD.out]
        exact bodyPost_ret (v := .agg #[.bool cb, .slice u1 n1 k1, .slice u2 n2 k2, .int .i64 cx, .int .i64 cy, .string cs, .slice u3 n3 k3]) (results_cell_row Tryd.results31 _ _ w.heap.size _ _ _ _ rfl hz Tryd.underlying35 rfl (by kernel_rfl)) rfl ⟨_, rfl, HD9.out.imp (fun _ hb => hb) (fun _ _ => trivial) (by simp) (fun b hb _ => setRow_other w9 w.heap.size b _ (by rcases hb with hb | hb; (· have h : w.heap.size < b := hb; omega); (· exact hb))), below_row HB9.out (Nat.le_refl _)⟩
      · have HY2 := Lib.hid hy
        have hyk : (y.k = 1 ∧ (y.k != 1) = false ∧ (y.k == 2) = false) ∨ (y.k = 2 ∧ (y.k != 1) = true ∧ (y.k != 2) = false ∧ (y.k == 2) = true) := by
          by_cases h1 : y.k = 1
          · exact .inl ⟨h1, by rw [h1]; rfl, by rw [h1]; rfl⟩
          · have h2 : y.k = 2 := by
              by_cases h2 : y.k = 2
              · exact h2
              · exact absurd ⟨h1, h2⟩ hy
            exact .inr ⟨h2, by rw [h2]; rfl, by rw [h2]; rfl, by rw [h2]; rfl⟩
        clear hy
        rcases hyk with ⟨hk, d2, d3⟩ | ⟨hk, d2, d3, d4⟩
        · have HKY := Lib.hid hk
          clear hk
          have HDD := Lib.hid (show lengthD x y = .is 1 (intT sn.size) by unfold lengthD; rw [if_neg HK.out, HN.out]; simp only []; rw [if_neg HY2.out, if_neg (fun h => by have h1 := HKY.out; rw [h1] at h; exact absurd h.1 (by decide))])
          go_wp2_with fail
          refine (r16_name _ _ _ HX5.out HF.out.1 HN.out).mono ?_
          rintro e6 w6 ⟨rfl, hb6⟩
          have HR6 := Lib.hid (row_on HR5.out hb6)
          have HB6 := Lib.hid (HB5.out.trans (hb6.mono HB5.out.size))
          have hs6 : w.heap.size < w6.heap.size := by have := hb6.size; omega
          have HX6 := Lib.hid (HX5.out.below hb6)
          have HY6 := Lib.hid (HY5.out.below hb6)
          have RX6 := Lib.hid (row_on RX5.out hb6)
          have RY6 := Lib.hid (row_on RY5.out hb6)
          clear y0 y1 y2 y3 z0 z1 z2 z3
          obtain ⟨y0, y1, y2, y3⟩ := row4 RX6.out
          obtain ⟨z0, z1, z2, z3⟩ := row4 RY6.out
          clear hb6 HR5 HB5 HX5 HY5 RX5 RY5 hs5
          go_wp2_with fail
          refine (r16_I _ _).mono ?_
          rintro e7 w7 ⟨rfl, hb7⟩
          have HR7 := Lib.hid (row_on HR6.out hb7)
          have HB7 := Lib.hid (HB6.out.trans (hb7.mono HB6.out.size))
          have hs7 : w.heap.size < w7.heap.size := by have := hb7.size; omega
          have HX7 := Lib.hid (HX6.out.below hb7)
          have HY7 := Lib.hid (HY6.out.below hb7)
          have RX7 := Lib.hid (row_on RX6.out hb7)
          have RY7 := Lib.hid (row_on RY6.out hb7)
          clear y0 y1 y2 y3 z0 z1 z2 z3
          obtain ⟨y0, y1, y2, y3⟩ := row4 RX7.out
          obtain ⟨z0, z1, z2, z3⟩ := row4 RY7.out
          clear hb7 HR6 HB6 HX6 HY6 RX6 RY6 hs6
          go_wp2_with fail
          refine (r16_Is 1 (intT sn.size) _ (fun b => b ≠ w.heap.size) _ (int_is _ _ _)).mono ?_
          rintro e9 w9 ⟨v9, rfl, hd9, hb9⟩
          obtain ⟨cb, u1, u2, u3, n1, k1, n2, k2, n3, k3, cx, cy, cs, rfl⟩ := hd9.cells
          have HD9 := Lib.hid (hd9.imp (Pi' := fun b => w.heap.size < b) (Pt' := fun b => b ≠ w.heap.size) (fun b hb => by omega) (fun b hb => by rcases hb with hb | hb <;> omega) (Nat.le_refl _) (fun _ _ _ => rfl))
          have HR9 := Lib.hid (row_on HR7.out hb9)
          have HB9 := Lib.hid (HB7.out.trans (hb9.mono HB7.out.size))
          clear hd9 hb9
          go_wp2_with (with_reducible show wpList _ _ _ (⟨none, .store _ (.tmp 4) _, _, _, _, _⟩ :: _) _ _
                       go_must (refine wpList_store_row rfl 35 (.tmp 4) (.tmp 63) rfl w.heap.size #[.bool cb, .slice u1 n1 k1, .slice u2 n2 k2, .int .i64 cx, .int .i64 cy, .string cs, .slice u3 n3 k3] rfl rfl _ _ HR9.out size_did rfl (by simp [Value.oneCell']) ?_))
          have hz := setRow_heap w9 w.heap.size _ (#[.bool cb, .slice u1 n1 k1, .slice u2 n2 k2, .int .i64 cx, .int .i64 cy, .string cs, .slice u3 n3 k3] : Array Value) _ _ HR9.out
          rw [HDD.out]
          exact bodyPost_ret (v := .agg #[.bool cb, .slice u1 n1 k1, .slice u2 n2 k2, .int .i64 cx, .int .i64 cy, .string cs, .slice u3 n3 k3]) (results_cell_row Tryd.results31 _ _ w.heap.size _ _ _ _ rfl hz Tryd.underlying35 rfl (by kernel_rfl)) rfl ⟨_, rfl, HD9.out.imp (fun _ hb => hb) (fun _ _ => trivial) (by simp) (fun b hb _ => setRow_other w9 w.heap.size b _ (by rcases hb with hb | hb; (· have h : w.heap.size < b := hb; omega); (· exact hb))), below_row HB9.out (Nat.le_refl _)⟩
        · have HKY := Lib.hid hk
          clear hk
          by_cases hn0 : y.n < 0
          · have d5 : decide (y.n < 0) = true := by simpa using hn0
            have HN0 := Lib.hid hn0
            clear hn0
            have HDD := Lib.hid (show _ = Dd.wr (formalE 14 (⟨#[110, 111, 116, 95, 108, 101, 115, 115, 95, 116, 104, 97, 110, 95, 122, 101, 114, 111]⟩ : ByteArray) y) by show lengthD x y = _; unfold lengthD; rw [if_neg HK.out, HN.out]; simp only []; rw [if_neg HY2.out, if_pos ⟨HKY.out, HN0.out⟩])
            go_wp2_with fail
            refine (r16_Wrong 14 (⟨#[110, 111, 116, 95, 108, 101, 115, 115, 95, 116, 104, 97, 110, 95, 122, 101, 114, 111]⟩ : ByteArray) y _ (fun b => b < w.heap.size) _ (by omega) HY5.out).mono ?_
            rintro e9 w9 ⟨v9, rfl, hd9, hb9⟩
            replace hd9 := hd9.wrE (fun b => w.heap.size < b)
            obtain ⟨cb, u1, u2, u3, n1, k1, n2, k2, n3, k3, cx, cy, cs, rfl⟩ := hd9.cells
            have HD9 := Lib.hid (hd9.imp (Pi' := fun b => w.heap.size < b) (Pt' := fun b => b ≠ w.heap.size) (fun b hb => by omega) (fun b hb => by rcases hb with hb | hb <;> omega) (Nat.le_refl _) (fun _ _ _ => rfl))
            have HR9 := Lib.hid (row_on HR5.out hb9)
            have HB9 := Lib.hid (HB5.out.trans (hb9.mono HB5.out.size))
            clear hd9 hb9
            go_wp2_with (with_reducible show wpList _ _ _ (⟨none, .store _ (.tmp 4) _, _, _, _, _⟩ :: _) _ _
                         go_must (refine wpList_store_row rfl 35 (.tmp 4) (.tmp 58) rfl w.heap.size #[.bool cb, .slice u1 n1 k1, .slice u2 n2 k2, .int .i64 cx, .int .i64 cy, .string cs, .slice u3 n3 k3] rfl rfl _ _ HR9.out size_did rfl (by simp [Value.oneCell']) ?_))
            have hz := setRow_heap w9 w.heap.size _ (#[.bool cb, .slice u1 n1 k1, .slice u2 n2 k2, .int .i64 cx, .int .i64 cy, .string cs, .slice u3 n3 k3] : Array Value) _ _ HR9.out
            rw [HDD.out]
            exact bodyPost_ret (v := .agg #[.bool cb, .slice u1 n1 k1, .slice u2 n2 k2, .int .i64 cx, .int .i64 cy, .string cs, .slice u3 n3 k3]) (results_cell_row Tryd.results31 _ _ w.heap.size _ _ _ _ rfl hz Tryd.underlying35 rfl (by kernel_rfl)) rfl ⟨_, rfl, HD9.out.imp (fun _ hb => hb) (fun _ _ => trivial) (by simp) (fun b hb _ => setRow_other w9 w.heap.size b _ (by rcases hb with hb | hb; (· have h : w.heap.size < b := hb; omega); (· exact hb))), below_row HB9.out (Nat.le_refl _)⟩
          · have d5 : decide (y.n < 0) = false := by simpa using hn0
            have HN0 := Lib.hid hn0
            clear hn0
            have HDD := Lib.hid (show lengthD x y = .is 1 (intT sn.size) by unfold lengthD; rw [if_neg HK.out, HN.out]; simp only []; rw [if_neg HY2.out, if_neg (fun h => HN0.out h.2)])
            go_wp2_with fail
            refine (r16_name _ _ _ HX5.out HF.out.1 HN.out).mono ?_
            rintro e6 w6 ⟨rfl, hb6⟩
            have HR6 := Lib.hid (row_on HR5.out hb6)
            have HB6 := Lib.hid (HB5.out.trans (hb6.mono HB5.out.size))
            have hs6 : w.heap.size < w6.heap.size := by have := hb6.size; omega
            have HX6 := Lib.hid (HX5.out.below hb6)
            have HY6 := Lib.hid (HY5.out.below hb6)
            have RX6 := Lib.hid (row_on RX5.out hb6)
            have RY6 := Lib.hid (row_on RY5.out hb6)
            clear y0 y1 y2 y3 z0 z1 z2 z3
            obtain ⟨y0, y1, y2, y3⟩ := row4 RX6.out
            obtain ⟨z0, z1, z2, z3⟩ := row4 RY6.out
            clear hb6 HR5 HB5 HX5 HY5 RX5 RY5 hs5
            go_wp2_with fail
            refine (r16_I _ _).mono ?_
            rintro e7 w7 ⟨rfl, hb7⟩
            have HR7 := Lib.hid (row_on HR6.out hb7)
            have HB7 := Lib.hid (HB6.out.trans (hb7.mono HB6.out.size))
            have hs7 : w.heap.size < w7.heap.size := by have := hb7.size; omega
            have HX7 := Lib.hid (HX6.out.below hb7)
            have HY7 := Lib.hid (HY6.out.below hb7)
            have RX7 := Lib.hid (row_on RX6.out hb7)
            have RY7 := Lib.hid (row_on RY6.out hb7)
            clear y0 y1 y2 y3 z0 z1 z2 z3
            obtain ⟨y0, y1, y2, y3⟩ := row4 RX7.out
            obtain ⟨z0, z1, z2, z3⟩ := row4 RY7.out
            clear hb7 HR6 HB6 HX6 HY6 RX6 RY6 hs6
            go_wp2_with fail
            refine (r16_Is 1 (intT sn.size) _ (fun b => b ≠ w.heap.size) _ (int_is _ _ _)).mono ?_
            rintro e9 w9 ⟨v9, rfl, hd9, hb9⟩
            obtain ⟨cb, u1, u2, u3, n1, k1, n2, k2, n3, k3, cx, cy, cs, rfl⟩ := hd9.cells
            have HD9 := Lib.hid (hd9.imp (Pi' := fun b => w.heap.size < b) (Pt' := fun b => b ≠ w.heap.size) (fun b hb => by omega) (fun b hb => by rcases hb with hb | hb <;> omega) (Nat.le_refl _) (fun _ _ _ => rfl))
            have HR9 := Lib.hid (row_on HR7.out hb9)
            have HB9 := Lib.hid (HB7.out.trans (hb9.mono HB7.out.size))
            clear hd9 hb9
            go_wp2_with (with_reducible show wpList _ _ _ (⟨none, .store _ (.tmp 4) _, _, _, _, _⟩ :: _) _ _
                         go_must (refine wpList_store_row rfl 35 (.tmp 4) (.tmp 63) rfl w.heap.size #[.bool cb, .slice u1 n1 k1, .slice u2 n2 k2, .int .i64 cx, .int .i64 cy, .string cs, .slice u3 n3 k3] rfl rfl _ _ HR9.out size_did rfl (by simp [Value.oneCell']) ?_))
            have hz := setRow_heap w9 w.heap.size _ (#[.bool cb, .slice u1 n1 k1, .slice u2 n2 k2, .int .i64 cx, .int .i64 cy, .string cs, .slice u3 n3 k3] : Array Value) _ _ HR9.out
            rw [HDD.out]
            exact bodyPost_ret (v := .agg #[.bool cb, .slice u1 n1 k1, .slice u2 n2 k2, .int .i64 cx, .int .i64 cy, .string cs, .slice u3 n3 k3]) (results_cell_row Tryd.results31 _ _ w.heap.size _ _ _ _ rfl hz Tryd.underlying35 rfl (by kernel_rfl)) rfl ⟨_, rfl, HD9.out.imp (fun _ hb => hb) (fun _ _ => trivial) (by simp) (fun b hb _ => setRow_other w9 w.heap.size b _ (by rcases hb with hb | hb; (· have h : w.heap.size < b := hb; omega); (· exact hb))), below_row HB9.out (Nat.le_refl _)⟩
set_option maxRecDepth 100000 in
set_option maxHeartbeats 8000000 in
theorem r16_do_chars (x y : Tm) (P : Nat → Prop) (w : World) (a : Option Addr) (c : Nat) (h : IsSl w P (.slice a 2 c) [x, y]) (hM : x.size ≤ 1000000) (hM' : y.size ≤ 1000000) (hf : Num.Fit x.n) (hf' : Num.Fit y.n) (hs1 : x.s.size ≤ 100000) (hs2 : y.s.size ≤ 100000) (hkx : x.k = 1 ∨ x.k = 2 ∨ x.k = 3 ∨ x.k = 4) (hoy : y.ok = true) : Calls Tryd.prog 31 #[.string ⟨#[97, 116, 111, 109, 95, 99, 104, 97, 114, 115]⟩, .slice a 2 c] w (RdPost (spellD false x y) w) := by
  have hrw := heap_alloc_new w (.cells #[.bool false, .slice none 0 0, .slice none 0 0, .int .i64 0, .int .i64 0, .string ⟨#[]⟩, .slice none 0 0] 35 (0, 0))
  have hal := (Below.refl w.heap.size w).alloc (Nat.le_refl _) (.cells #[.bool false, .slice none 0 0, .slice none 0 0, .int .i64 0, .int .i64 0, .string ⟨#[]⟩, .slice none 0 0] 35 (0, 0))
  have HR := Lib.hid hrw
  have HB := Lib.hid hal
  have HZ := Lib.hid (show (w.alloc (.cells #[.bool false, .slice none 0 0, .slice none 0 0, .int .i64 0, .int .i64 0, .string ⟨#[]⟩, .slice none 0 0] 35 (0, 0))).heap.size = w.heap.size + 1 by simp)
  have H := Lib.hid ((h.lt2.imp (P' := (fun b => b < w.heap.size)) (fun b hb => hb.2) fun _ _ _ => rfl).below hal)
  obtain ⟨b, off, e1, -⟩ := H.out.at 0 (by simp)
  subst e1
  clear h hrw hal
  have HF := Lib.hid (And.intro hf hf')
  have HKX := Lib.hid hkx
  have HOY := Lib.hid hoy
  clear hf hf' hkx hoy
  go_enter Tryd.func31, Tryd.ntmps31
  go_upto_region 1 with fail
  generalize w.alloc (.cells #[.bool false, .slice none 0 0, .slice none 0 0, .int .i64 0, .int .i64 0, .string ⟨#[]⟩, .slice none 0 0] 35 (0, 0)) = W1 at *
  go_cut [5, 6] from 16 to 22 (fun v5 v6 wx => Args2 x y (fun b => b < w.heap.size) W1 v5 v6 wx)
  case first =>
    refine wp_region_rest (by kernel_rfl) ?_
    have hd := (Below.refl W1.heap.size W1).drew
    have hs2 : W1.drew.heap.size = w.heap.size + 1 := HZ.out
    have h0 := H.out.below hd
    have HD := Lib.hid hd
    have HS2 := Lib.hid hs2
    clear HR HB H hd HZ hs2
    generalize W1.drew = W2 at *
    obtain ⟨qa, qc, y0, y1, y2, y3, hit, hl1⟩ := (h0.atb 0 (by simp)).read
    obtain ⟨za, zc, z0, z1, z2, z3, hit', hl2⟩ := (h0.atb 1 (by simp)).read
    simp only [List.getElem_cons_zero, List.getElem_cons_succ, Nat.zero_mul, Nat.add_zero, Nat.one_mul] at y0 y1 y2 y3 z0 z1 z2 z3 hit hit'
    have HI1 := Lib.hid hit.args
    have HI2 := Lib.hid hit'.args
    have HQ := Lib.hid (show ∀ b, (fun b => b < w.heap.size) b → b < W2.heap.size from fun b hb => by have := HS2.out; have hb2 : b < w.heap.size := hb; omega)
    clear hit hit' h0
    refine rest_chainP (fun u => Below W2.heap.size W2 u) 0 10 (.soft 0 (.soft 1 (.soft 2 (.soft 3 (.soft 4 (.soft 5 (.two 6 7 (.one 7 (.one 8 (.one 9 .nil))) (.one 6 (.one 8 (.one 9 .nil)))))))))) (.soft _ (.soft _ (.soft _ (.soft _ (.soft _ (.soft _ (.two _ _ (.one _ (.one _ (.one _ .nil))) (.one _ (.one _ (.one _ .nil)))))))))) ⟨rfl, ⟨rfl, ⟨rfl, ⟨rfl, ⟨rfl, ⟨rfl, ⟨rfl, rfl, ⟨rfl, ⟨rfl, ⟨rfl, trivial⟩⟩⟩, ⟨rfl, ⟨rfl, ⟨rfl, trivial⟩⟩⟩⟩⟩⟩⟩⟩⟩⟩ (by kernel_rfl) (by kernel_rfl) (by kernel_rfl) (by kernel_rfl) (.inl rfl) (Below.refl _ _) ?_
    refine chainP_soft (a1 := ?ma7) (by kernel_rfl) (by kernel_rfl) ?mh7 ?mr7
    case mh7 =>
      intro u hu E hE
      go_wp2
      rfl
    refine chainP_soft (a1 := ?ma8) (by kernel_rfl) (by kernel_rfl) ?mh8 ?mr8
    case mh8 =>
      intro u hu E hE
      go_wp2
      rfl
    refine chainP_soft (a1 := ?ma9) (by kernel_rfl) (by kernel_rfl) ?mh9 ?mr9
    case mh9 =>
      intro u hu E hE
      have c0 := (hu.cell (p := ⟨b, off, none⟩) hl1).trans y0
      have c1 := (hu.cell (p := ⟨b, off + 1, none⟩) hl1).trans y1
      have c2 := (hu.cell (p := ⟨b, off + 2, none⟩) hl1).trans y2
      have c3 := (hu.cell (p := ⟨b, off + 3, none⟩) hl1).trans y3
      go_wp2
      rfl
    refine chainP_soft (a1 := ?ma10) (by kernel_rfl) (by kernel_rfl) ?mh10 ?mr10
    case mh10 =>
      intro u hu E hE
      go_wp2
      rfl
    refine chainP_soft (a1 := ?ma11) (by kernel_rfl) (by kernel_rfl) ?mh11 ?mr11
    case mh11 =>
      intro u hu E hE
      go_wp2
      rfl
    refine chainP_soft (a1 := ?ma12) (by kernel_rfl) (by kernel_rfl) ?mh12 ?mr12
    case mh12 =>
      intro u hu E hE
      have c0 := (hu.cell (p := ⟨b, off + 4, none⟩) hl1).trans z0
      have c1 := (hu.cell (p := ⟨b, off + 4 + 1, none⟩) hl1).trans z1
      have c2 := (hu.cell (p := ⟨b, off + 4 + 2, none⟩) hl1).trans z2
      have c3 := (hu.cell (p := ⟨b, off + 4 + 3, none⟩) hl1).trans z3
      go_wp2
      rfl
    clear y0 y1 y2 y3 z0 z1 z2 z3
    refine chainP_two ?_ ?_
    · intro E hE
      go_wp2
      refine ⟨(Below.refl W2.heap.size W2).alloc (Nat.le_refl _) _, ?_⟩
      refine chainP_one ?_
      intro E hE
      go_wp2
      have HK := Lib.hid (two W2 (.cells #[.int .i64 0, .int .i64 0, .string ⟨#[]⟩, .slice none 0 0] 28 (0, 0)) (.cells #[.int .i64 0, .int .i64 0, .string ⟨#[]⟩, .slice none 0 0] 28 (0, 0)))
      refine ⟨HK.out.2.2.2, ?_⟩
      refine chainP_one ?_
      intro E hE
      go_wp2_with (refine wpList_store_row rfl 28 (.tmp 5) (.tmp 18) rfl W2.heap.size #[.int .i64 x.k, .int .i64 x.n, .string x.s, .slice qa x.args.length qc] rfl rfl _ _ HK.out.1 size_term rfl (one4 _ _ _ _ _ _) ?_)
      refine ⟨(below_row HK.out.2.2.2 (by omega)), ?_⟩
      refine chainP_one ?_
      intro E hE
      go_wp2_with (refine wpList_store_row rfl 28 (.tmp 6) (.tmp 21) rfl (W2.heap.size + 1) #[.int .i64 y.k, .int .i64 y.n, .string y.s, .slice za y.args.length zc] rfl rfl _ _ ((setRow_other _ _ _ _ (by omega)).trans HK.out.2.1) size_term rfl (one4 _ _ _ _ _ _) ?_)
      refine ⟨(below_row (below_row HK.out.2.2.2 (by omega)) (by omega)), ?_⟩
      have HFIN := Lib.hid (args_two (g := W2.heap.size) (g' := (W2.heap.size + 1)) HK.out.2.2.2 (by omega) (by omega) (by omega) HQ.out HK.out.1 HK.out.2.1 (HI1.out.below HK.out.2.2.2) (HI2.out.below HK.out.2.2.2))
      clear HK
      refine chainP_nil (rest_end (by decide) ?_)
      go_wp2
      go_meet
      exact Args2.lift HD.out HFIN.out
    · intro E hE
      go_wp2
      refine ⟨(Below.refl W2.heap.size W2).alloc (Nat.le_refl _) _, ?_⟩
      refine chainP_one ?_
      intro E hE
      go_wp2
      have HK := Lib.hid (two W2 (.cells #[.int .i64 0, .int .i64 0, .string ⟨#[]⟩, .slice none 0 0] 28 (0, 0)) (.cells #[.int .i64 0, .int .i64 0, .string ⟨#[]⟩, .slice none 0 0] 28 (0, 0)))
      refine ⟨HK.out.2.2.2, ?_⟩
      refine chainP_one ?_
      intro E hE
      go_wp2_with (refine wpList_store_row rfl 28 (.tmp 5) (.tmp 18) rfl (W2.heap.size + 1) #[.int .i64 x.k, .int .i64 x.n, .string x.s, .slice qa x.args.length qc] rfl rfl _ _ HK.out.2.1 size_term rfl (one4 _ _ _ _ _ _) ?_)
      refine ⟨(below_row HK.out.2.2.2 (by omega)), ?_⟩
      refine chainP_one ?_
      intro E hE
      go_wp2_with (refine wpList_store_row rfl 28 (.tmp 6) (.tmp 21) rfl W2.heap.size #[.int .i64 y.k, .int .i64 y.n, .string y.s, .slice za y.args.length zc] rfl rfl _ _ ((setRow_other _ _ _ _ (by omega)).trans HK.out.1) size_term rfl (one4 _ _ _ _ _ _) ?_)
      refine ⟨(below_row (below_row HK.out.2.2.2 (by omega)) (by omega)), ?_⟩
      have HFIN := Lib.hid (args_two (g := (W2.heap.size + 1)) (g' := W2.heap.size) HK.out.2.2.2 (by omega) (by omega) (by omega) HQ.out HK.out.2.1 HK.out.1 (HI1.out.below HK.out.2.2.2) (HI2.out.below HK.out.2.2.2))
      clear HK
      refine chainP_nil (rest_end (by decide) ?_)
      go_wp2
      go_meet
      exact Args2.lift HD.out HFIN.out
  case rest =>
    obtain ⟨b5, b6, rfl, rfl, ⟨a3, c3, r3, i3⟩, ⟨a4, c4, r4, i4⟩, hbc⟩ := hcut
    have HR3 := Lib.hid (row_on HR.out hbc)
    have HB3 := Lib.hid (HB.out.trans (hbc.mono HB.out.size))
    have hs3 : w.heap.size < wc.heap.size := by have := HZ.out; have := hbc.size; omega
    have HX3 := Lib.hid (show IsTm wc (fun b => b < w.heap.size) (.agg #[.int .i64 x.k, .int .i64 x.n, .string x.s, .slice a3 x.args.length c3]) x from IsTm.mk' i3)
    have HY3 := Lib.hid (show IsTm wc (fun b => b < w.heap.size) (.agg #[.int .i64 y.k, .int .i64 y.n, .string y.s, .slice a4 y.args.length c4]) y from IsTm.mk' i4)
    have RX3 := Lib.hid r3
    have RY3 := Lib.hid r4
    obtain ⟨y0, y1, y2, y3⟩ := row4 r3
    obtain ⟨z0, z1, z2, z3⟩ := row4 r4
    clear i3 i4 HR HZ H HB hbc r3 r4
    cases hn : nameT x with
    | some sn =>
      have HN := Lib.hid hn
      have HA := Lib.hid (name_atomic hn)
      have hsn : sn.size ≤ 100000 := name_size hn HF.out.1 hs1
      have HDD := Lib.hid (show spellD false x y = .is 1 (listT (charsT false sn.data.toList) nilT) by unfold spellD; rw [hn])
      clear hn
      go_wp2_with fail
      refine (r16_atomic x _ _ _ HX3.out).mono ?_
      rintro e5 w5 ⟨rfl, hb5⟩
      have HR5 := Lib.hid (row_on HR3.out hb5)
      have HB5 := Lib.hid (HB3.out.trans (hb5.mono HB3.out.size))
      have hs5 : w.heap.size < w5.heap.size := by have := hb5.size; omega
      have HX5 := Lib.hid (HX3.out.below hb5)
      have HY5 := Lib.hid (HY3.out.below hb5)
      have RX5 := Lib.hid (row_on RX3.out hb5)
      have RY5 := Lib.hid (row_on RY3.out hb5)
      clear y0 y1 y2 y3 z0 z1 z2 z3
      obtain ⟨y0, y1, y2, y3⟩ := row4 RX5.out
      obtain ⟨z0, z1, z2, z3⟩ := row4 RY5.out
      clear hb5 HR3 HB3 HX3 HY3 RX3 RY3 hs3
      rw [HA.out]
      go_wp2_with fail
      refine (r16_name _ _ _ HX5.out HF.out.1 HN.out).mono ?_
      rintro e6 w6 ⟨rfl, hb6⟩
      have HR6 := Lib.hid (row_on HR5.out hb6)
      have HB6 := Lib.hid (HB5.out.trans (hb6.mono HB5.out.size))
      have hs6 : w.heap.size < w6.heap.size := by have := hb6.size; omega
      have HX6 := Lib.hid (HX5.out.below hb6)
      have HY6 := Lib.hid (HY5.out.below hb6)
      have RX6 := Lib.hid (row_on RX5.out hb6)
      have RY6 := Lib.hid (row_on RY5.out hb6)
      clear y0 y1 y2 y3 z0 z1 z2 z3
      obtain ⟨y0, y1, y2, y3⟩ := row4 RX6.out
      obtain ⟨z0, z1, z2, z3⟩ := row4 RY6.out
      clear hb6 HR5 HB5 HX5 HY5 RX5 RY5 hs5
      go_wp2_with fail
      refine (r16_list sn false _ hsn).mono ?_
      rintro e7 w7 ⟨v7, rfl, hi7, hb7⟩
      have HR7 := Lib.hid (row_on HR6.out hb7)
      have HB7 := Lib.hid (HB6.out.trans (hb7.mono HB6.out.size))
      have hs7 : w.heap.size < w7.heap.size := by have := hb7.size; omega
      have HX7 := Lib.hid (HX6.out.below hb7)
      have HY7 := Lib.hid (HY6.out.below hb7)
      have RX7 := Lib.hid (row_on RX6.out hb7)
      have RY7 := Lib.hid (row_on RY6.out hb7)
      clear y0 y1 y2 y3 z0 z1 z2 z3
      obtain ⟨y0, y1, y2, y3⟩ := row4 RX7.out
      obtain ⟨z0, z1, z2, z3⟩ := row4 RY7.out
      clear hb7 HR6 HB6 HX6 HY6 RX6 RY6 hs6
      go_wp2_with fail
      refine (r16_Is 1 (listT (charsT false sn.data.toList) nilT) _ (fun b => b ≠ w.heap.size) _ ((hi7.avoidC (zrow_did HR7.out) (list_ok16 _ _)).imp (fun b hb => hb.2) fun _ _ _ => rfl)).mono ?_
      rintro e9 w9 ⟨v9, rfl, hd9, hb9⟩
      obtain ⟨cb, u1, u2, u3, n1, k1, n2, k2, n3, k3, cx, cy, cs, rfl⟩ := hd9.cells
      have HD9 := Lib.hid (hd9.imp (Pi' := fun b => w.heap.size < b) (Pt' := fun b => b ≠ w.heap.size) (fun b hb => by omega) (fun b hb => by rcases hb with hb | hb <;> omega) (Nat.le_refl _) (fun _ _ _ => rfl))
      have HR9 := Lib.hid (row_on HR7.out hb9)
      have HB9 := Lib.hid (HB7.out.trans (hb9.mono HB7.out.size))
      clear hd9 hb9
      go_wp2_with (with_reducible show wpList _ _ _ (⟨none, .store _ (.tmp 4) _, _, _, _, _⟩ :: _) _ _
                   go_must (refine wpList_store_row rfl 35 (.tmp 4) (.tmp 75) rfl w.heap.size #[.bool cb, .slice u1 n1 k1, .slice u2 n2 k2, .int .i64 cx, .int .i64 cy, .string cs, .slice u3 n3 k3] rfl rfl _ _ HR9.out size_did rfl (by simp [Value.oneCell']) ?_))
      have hz := setRow_heap w9 w.heap.size _ (#[.bool cb, .slice u1 n1 k1, .slice u2 n2 k2, .int .i64 cx, .int .i64 cy, .string cs, .slice u3 n3 k3] : Array Value) _ _ HR9.out
      rw [HDD.out]
      exact bodyPost_ret (v := .agg #[.bool cb, .slice u1 n1 k1, .slice u2 n2 k2, .int .i64 cx, .int .i64 cy, .string cs, .slice u3 n3 k3]) (results_cell_row Tryd.results31 _ _ w.heap.size _ _ _ _ rfl hz Tryd.underlying35 rfl (by kernel_rfl)) rfl ⟨_, rfl, HD9.out.imp (fun _ hb => hb) (fun _ _ => trivial) (by simp) (fun b hb _ => setRow_other w9 w.heap.size b _ (by rcases hb with hb | hb; (· have h : w.heap.size < b := hb; omega); (· exact hb))), below_row HB9.out (Nat.le_refl _)⟩
    | none =>
      have HN := Lib.hid hn
      have HA := Lib.hid (name_not hn)
      have hk2 : x.k ≠ 2 := fun h => by unfold nameT at hn; rw [if_pos h] at hn; cases hn
      have hk3 : x.k ≠ 3 := fun h => by unfold nameT at hn; rw [if_neg hk2, if_pos h] at hn; cases hn
      clear hn
      go_wp2_with fail
      refine (r16_atomic x _ _ _ HX3.out).mono ?_
      rintro e5 w5 ⟨rfl, hb5⟩
      have HR5 := Lib.hid (row_on HR3.out hb5)
      have HB5 := Lib.hid (HB3.out.trans (hb5.mono HB3.out.size))
      have hs5 : w.heap.size < w5.heap.size := by have := hb5.size; omega
      have HX5 := Lib.hid (HX3.out.below hb5)
      have HY5 := Lib.hid (HY3.out.below hb5)
      have RX5 := Lib.hid (row_on RX3.out hb5)
      have RY5 := Lib.hid (row_on RY3.out hb5)
      clear y0 y1 y2 y3 z0 z1 z2 z3
      obtain ⟨y0, y1, y2, y3⟩ := row4 RX5.out
      obtain ⟨z0, z1, z2, z3⟩ := row4 RY5.out
      clear hb5 HR3 HB3 HX3 HY3 RX3 RY3 hs3
      rw [HA.out]
      by_cases hk4 : x.k = 4
      · have d1 : (x.k == 4) = true := by rw [hk4]; rfl
        have HK4 := Lib.hid hk4
        clear hk4 hk2 hk3
        have HDD := Lib.hid (show _ = Dd.wr (formalE 13 (⟨#[97, 116, 111, 109]⟩ : ByteArray) x) by show spellD false x y = _; unfold spellD; rw [HN.out]; simp only []; rw [if_pos (by rw [HK4.out]; decide)])
        go_wp2_with fail
        refine (r16_Wrong 13 (⟨#[97, 116, 111, 109]⟩ : ByteArray) x _ (fun b => b < w.heap.size) _ (by omega) HX5.out).mono ?_
        rintro e9 w9 ⟨v9, rfl, hd9, hb9⟩
        replace hd9 := hd9.wrE (fun b => w.heap.size < b)
        obtain ⟨cb, u1, u2, u3, n1, k1, n2, k2, n3, k3, cx, cy, cs, rfl⟩ := hd9.cells
        have HD9 := Lib.hid (hd9.imp (Pi' := fun b => w.heap.size < b) (Pt' := fun b => b ≠ w.heap.size) (fun b hb => by omega) (fun b hb => by rcases hb with hb | hb <;> omega) (Nat.le_refl _) (fun _ _ _ => rfl))
        have HR9 := Lib.hid (row_on HR5.out hb9)
        have HB9 := Lib.hid (HB5.out.trans (hb9.mono HB5.out.size))
        clear hd9 hb9
        go_wp2_with (with_reducible show wpList _ _ _ (⟨none, .store _ (.tmp 4) _, _, _, _, _⟩ :: _) _ _
                     go_must (refine wpList_store_row rfl 35 (.tmp 4) (.tmp 80) rfl w.heap.size #[.bool cb, .slice u1 n1 k1, .slice u2 n2 k2, .int .i64 cx, .int .i64 cy, .string cs, .slice u3 n3 k3] rfl rfl _ _ HR9.out size_did rfl (by simp [Value.oneCell']) ?_))
        have hz := setRow_heap w9 w.heap.size _ (#[.bool cb, .slice u1 n1 k1, .slice u2 n2 k2, .int .i64 cx, .int .i64 cy, .string cs, .slice u3 n3 k3] : Array Value) _ _ HR9.out
        rw [HDD.out]
        exact bodyPost_ret (v := .agg #[.bool cb, .slice u1 n1 k1, .slice u2 n2 k2, .int .i64 cx, .int .i64 cy, .string cs, .slice u3 n3 k3]) (results_cell_row Tryd.results31 _ _ w.heap.size _ _ _ _ rfl hz Tryd.underlying35 rfl (by kernel_rfl)) rfl ⟨_, rfl, HD9.out.imp (fun _ hb => hb) (fun _ _ => trivial) (by simp) (fun b hb _ => setRow_other w9 w.heap.size b _ (by rcases hb with hb | hb; (· have h : w.heap.size < b := hb; omega); (· exact hb))), below_row HB9.out (Nat.le_refl _)⟩
      · have d1 : (x.k == 4) = false := by simpa using hk4
        have HK1 := Lib.hid (show x.k = 1 by have := HKX.out; omega)
        clear hk2 hk3 hk4
        have HSD := Lib.hid (show spellD false x y = (match textT false y with | (some x, _) => .wr x | (none, l) => if 1000 < l.length then .wr (formalE 3 (⟨#[109, 97, 120, 95, 97, 116, 111, 109, 95, 108, 101, 110, 103, 116, 104]⟩ : ByteArray) zeroT0) else .is 0 (atomT ⟨l.toArray⟩)) by unfold spellD; rw [HN.out]; simp only []; rw [if_neg (fun h => h HK1.out)]; rfl)
        cases hr : textT false y with
        | mk bo l =>
        rw [hr] at HSD
        have hll := textT_len hr
        have hct := fun W v h => r16_text y false v (fun b => b < w.heap.size) W hM' HOY.out h
        rw [hr] at hct
        have HCT := Lib.hid hct
        clear hr hct
        cases bo with
        | none =>
          have HDD := HSD
          simp only [] at HDD
          have hl2 : (⟨l.toArray⟩ : ByteArray).size ≤ 1000000 := by show l.toArray.size ≤ _; simp; omega
          have HLL := Lib.hid (show (⟨l.toArray⟩ : ByteArray).size = l.length by show l.toArray.size = _; simp)
          go_wp2_with fail
          refine (HCT.out _ _ HY5.out).mono ?_
          rintro e6 w6 ⟨hb6, he⟩
          replace he : e6 = .returned (.tuple #[.string ⟨l.toArray⟩, .agg #[.bool false, .slice none 0 0, .slice none 0 0, .int .i64 0, .int .i64 0, .string ⟨#[]⟩, .slice none 0 0], .bool true]) := he
          subst he
          have HR6 := Lib.hid (row_on HR5.out hb6)
          have HB6 := Lib.hid (HB5.out.trans (hb6.mono HB5.out.size))
          have hs6 : w.heap.size < w6.heap.size := by have := hb6.size; omega
          have HX6 := Lib.hid (HX5.out.below hb6)
          have HY6 := Lib.hid (HY5.out.below hb6)
          have RX6 := Lib.hid (row_on RX5.out hb6)
          have RY6 := Lib.hid (row_on RY5.out hb6)
          clear y0 y1 y2 y3 z0 z1 z2 z3
          obtain ⟨y0, y1, y2, y3⟩ := row4 RX6.out
          obtain ⟨z0, z1, z2, z3⟩ := row4 RY6.out
          clear hb6 HR5 HB5 HX5 HY5 RX5 RY5 hs5
          have hal := (Below.refl w6.heap.size w6).alloc (Nat.le_refl _) (.cells #[.bool false, .slice none 0 0, .slice none 0 0, .int .i64 0, .int .i64 0, .string ⟨#[]⟩, .slice none 0 0] 35 (0, 0))
          have HR7 := Lib.hid (row_on HR6.out hal)
          have HB7 := Lib.hid (HB6.out.trans (hal.mono HB6.out.size))
          have hs7 : w.heap.size < (w6.alloc (.cells #[.bool false, .slice none 0 0, .slice none 0 0, .int .i64 0, .int .i64 0, .string ⟨#[]⟩, .slice none 0 0] 35 (0, 0))).heap.size := by have := hal.size; omega
          clear hal
          go_wp2_with fail
          generalize w6.alloc (.cells #[.bool false, .slice none 0 0, .slice none 0 0, .int .i64 0, .int .i64 0, .string ⟨#[]⟩, .slice none 0 0] 35 (0, 0)) = w7 at *
          refine (r16_atom 0 ⟨l.toArray⟩ w7 hl2).mono ?_
          rintro e9 w9 ⟨v9, rfl, hd9, hb9⟩
          rw [HLL.out] at hd9
          obtain ⟨cb, u1, u2, u3, n1, k1, n2, k2, n3, k3, cx, cy, cs, rfl⟩ := hd9.cells
          have HD9 := Lib.hid (hd9.imp (Pi' := fun b => w.heap.size < b) (Pt' := fun b => b ≠ w.heap.size) (fun b hb => by omega) (fun b hb => by rcases hb with hb | hb; (· exact hb.elim); (· omega)) (Nat.le_refl _) (fun _ _ _ => rfl))
          have HR9 := Lib.hid (row_on HR7.out hb9)
          have HB9 := Lib.hid (HB7.out.trans (hb9.mono HB7.out.size))
          clear hd9 hb9
          go_wp2_with (with_reducible show wpList _ _ _ (⟨none, .store _ (.tmp 4) _, _, _, _, _⟩ :: _) _ _
                       go_must (refine wpList_store_row rfl 35 (.tmp 4) (.tmp 92) rfl w.heap.size #[.bool cb, .slice u1 n1 k1, .slice u2 n2 k2, .int .i64 cx, .int .i64 cy, .string cs, .slice u3 n3 k3] rfl rfl _ _ HR9.out size_did rfl (by simp [Value.oneCell']) ?_))
          have hz := setRow_heap w9 w.heap.size _ (#[.bool cb, .slice u1 n1 k1, .slice u2 n2 k2, .int .i64 cx, .int .i64 cy, .string cs, .slice u3 n3 k3] : Array Value) _ _ HR9.out
          rw [HDD.out]
          exact bodyPost_ret (v := .agg #[.bool cb, .slice u1 n1 k1, .slice u2 n2 k2, .int .i64 cx, .int .i64 cy, .string cs, .slice u3 n3 k3]) (results_cell_row Tryd.results31 _ _ w.heap.size _ _ _ _ rfl hz Tryd.underlying35 rfl (by kernel_rfl)) rfl ⟨_, rfl, HD9.out.imp (fun _ hb => hb) (fun _ _ => trivial) (by simp) (fun b hb _ => setRow_other w9 w.heap.size b _ (by rcases hb with hb | hb; (· have h : w.heap.size < b := hb; omega); (· exact hb))), below_row HB9.out (Nat.le_refl _)⟩
        | some bx =>
          have HDD := Lib.hid (show spellD false x y = .wr bx from HSD.out)
          go_wp2_with fail
          refine (HCT.out _ _ HY5.out).mono ?_
          rintro e6 w6 ⟨hb6, hok, v6, rfl, hd6⟩
          obtain ⟨q9, k9, rfl⟩ := hd6.wr_cells
          have HR6 := Lib.hid (row_on HR5.out hb6)
          have HB6 := Lib.hid (HB5.out.trans (hb6.mono HB5.out.size))
          have hs6 : w.heap.size < w6.heap.size := by have := hb6.size; omega
          have hal := (Below.refl w6.heap.size w6).alloc (Nat.le_refl _) (.cells #[.bool false, .slice none 0 0, .slice none 0 0, .int .i64 bx.k, .int .i64 bx.n, .string bx.s, .slice q9 bx.args.length k9] 35 (0, 0))
          have HI6 := Lib.hid ((IsDd.avoidW (g := w.heap.size) (zrow_did HR6.out) hok hd6).below hal)
          have HR7 := Lib.hid (row_on HR6.out hal)
          have HB7 := Lib.hid (HB6.out.trans (hal.mono HB6.out.size))
          obtain ⟨d0, e1', e2', e3', e4', e5', e6'⟩ := row7 (heap_alloc_new w6 (.cells #[.bool false, .slice none 0 0, .slice none 0 0, .int .i64 bx.k, .int .i64 bx.n, .string bx.s, .slice q9 bx.args.length k9] 35 (0, 0)))
          clear hal hb6 hd6 HR6 HB6 y0 y1 y2 y3 z0 z1 z2 z3
          go_wp2_with (with_reducible show wpList _ _ _ (⟨none, .store _ (.tmp 4) _, _, _, _, _⟩ :: _) _ _
                       go_must (refine wpList_store_row rfl 35 (.tmp 4) (.tmp 90) rfl w.heap.size #[.bool false, .slice none 0 0, .slice none 0 0, .int .i64 bx.k, .int .i64 bx.n, .string bx.s, .slice q9 bx.args.length k9] rfl rfl _ _ HR7.out size_did rfl (by simp [Value.oneCell']) ?_))
          have hz := setRow_heap _ w.heap.size _ (#[.bool false, .slice none 0 0, .slice none 0 0, .int .i64 bx.k, .int .i64 bx.n, .string bx.s, .slice q9 bx.args.length k9] : Array Value) _ _ HR7.out
          rw [HDD.out]
          exact bodyPost_ret (v := .agg #[.bool false, .slice none 0 0, .slice none 0 0, .int .i64 bx.k, .int .i64 bx.n, .string bx.s, .slice q9 bx.args.length k9]) (results_cell_row Tryd.results31 _ _ w.heap.size _ _ _ _ rfl hz Tryd.underlying35 rfl (by kernel_rfl)) rfl ⟨_, rfl, (IsDd.imp (P' := AnyB) HI6.out (fun _ _ => trivial) (by simp) (fun b hb _ => setRow_other _ w.heap.size b _ hb.2)).wrE _, below_row HB7.out (Nat.le_refl _)⟩
set_option maxRecDepth 100000 in
set_option maxHeartbeats 8000000 in
theorem r16_do_codes (x y : Tm) (P : Nat → Prop) (w : World) (a : Option Addr) (c : Nat) (h : IsSl w P (.slice a 2 c) [x, y]) (hM : x.size ≤ 1000000) (hM' : y.size ≤ 1000000) (hf : Num.Fit x.n) (hf' : Num.Fit y.n) (hs1 : x.s.size ≤ 100000) (hs2 : y.s.size ≤ 100000) (hkx : x.k = 1 ∨ x.k = 2 ∨ x.k = 3 ∨ x.k = 4) (hoy : y.ok = true) : Calls Tryd.prog 31 #[.string ⟨#[97, 116, 111, 109, 95, 99, 111, 100, 101, 115]⟩, .slice a 2 c] w (RdPost (spellD true x y) w) := by
  have hrw := heap_alloc_new w (.cells #[.bool false, .slice none 0 0, .slice none 0 0, .int .i64 0, .int .i64 0, .string ⟨#[]⟩, .slice none 0 0] 35 (0, 0))
  have hal := (Below.refl w.heap.size w).alloc (Nat.le_refl _) (.cells #[.bool false, .slice none 0 0, .slice none 0 0, .int .i64 0, .int .i64 0, .string ⟨#[]⟩, .slice none 0 0] 35 (0, 0))
  have HR := Lib.hid hrw
  have HB := Lib.hid hal
  have HZ := Lib.hid (show (w.alloc (.cells #[.bool false, .slice none 0 0, .slice none 0 0, .int .i64 0, .int .i64 0, .string ⟨#[]⟩, .slice none 0 0] 35 (0, 0))).heap.size = w.heap.size + 1 by simp)
  have H := Lib.hid ((h.lt2.imp (P' := (fun b => b < w.heap.size)) (fun b hb => hb.2) fun _ _ _ => rfl).below hal)
  obtain ⟨b, off, e1, -⟩ := H.out.at 0 (by simp)
  subst e1
  clear h hrw hal
  have HF := Lib.hid (And.intro hf hf')
  have HKX := Lib.hid hkx
  have HOY := Lib.hid hoy
  clear hf hf' hkx hoy
  go_enter Tryd.func31, Tryd.ntmps31
  go_upto_region 1 with fail
  generalize w.alloc (.cells #[.bool false, .slice none 0 0, .slice none 0 0, .int .i64 0, .int .i64 0, .string ⟨#[]⟩, .slice none 0 0] 35 (0, 0)) = W1 at *
  go_cut [5, 6] from 16 to 22 (fun v5 v6 wx => Args2 x y (fun b => b < w.heap.size) W1 v5 v6 wx)
  case first =>
    refine wp_region_rest (by kernel_rfl) ?_
    have hd := (Below.refl W1.heap.size W1).drew
    have hs2 : W1.drew.heap.size = w.heap.size + 1 := HZ.out
    have h0 := H.out.below hd
    have HD := Lib.hid hd
    have HS2 := Lib.hid hs2
    clear HR HB H hd HZ hs2
    generalize W1.drew = W2 at *
    obtain ⟨qa, qc, y0, y1, y2, y3, hit, hl1⟩ := (h0.atb 0 (by simp)).read
    obtain ⟨za, zc, z0, z1, z2, z3, hit', hl2⟩ := (h0.atb 1 (by simp)).read
    simp only [List.getElem_cons_zero, List.getElem_cons_succ, Nat.zero_mul, Nat.add_zero, Nat.one_mul] at y0 y1 y2 y3 z0 z1 z2 z3 hit hit'
    have HI1 := Lib.hid hit.args
    have HI2 := Lib.hid hit'.args
    have HQ := Lib.hid (show ∀ b, (fun b => b < w.heap.size) b → b < W2.heap.size from fun b hb => by have := HS2.out; have hb2 : b < w.heap.size := hb; omega)
    clear hit hit' h0
    refine rest_chainP (fun u => Below W2.heap.size W2 u) 0 10 (.soft 0 (.soft 1 (.soft 2 (.soft 3 (.soft 4 (.soft 5 (.two 6 7 (.one 7 (.one 8 (.one 9 .nil))) (.one 6 (.one 8 (.one 9 .nil)))))))))) (.soft _ (.soft _ (.soft _ (.soft _ (.soft _ (.soft _ (.two _ _ (.one _ (.one _ (.one _ .nil))) (.one _ (.one _ (.one _ .nil)))))))))) ⟨rfl, ⟨rfl, ⟨rfl, ⟨rfl, ⟨rfl, ⟨rfl, ⟨rfl, rfl, ⟨rfl, ⟨rfl, ⟨rfl, trivial⟩⟩⟩, ⟨rfl, ⟨rfl, ⟨rfl, trivial⟩⟩⟩⟩⟩⟩⟩⟩⟩⟩ (by kernel_rfl) (by kernel_rfl) (by kernel_rfl) (by kernel_rfl) (.inl rfl) (Below.refl _ _) ?_
    refine chainP_soft (a1 := ?ma13) (by kernel_rfl) (by kernel_rfl) ?mh13 ?mr13
    case mh13 =>
      intro u hu E hE
      go_wp2
      rfl
    refine chainP_soft (a1 := ?ma14) (by kernel_rfl) (by kernel_rfl) ?mh14 ?mr14
    case mh14 =>
      intro u hu E hE
      go_wp2
      rfl
    refine chainP_soft (a1 := ?ma15) (by kernel_rfl) (by kernel_rfl) ?mh15 ?mr15
    case mh15 =>
      intro u hu E hE
      have c0 := (hu.cell (p := ⟨b, off, none⟩) hl1).trans y0
      have c1 := (hu.cell (p := ⟨b, off + 1, none⟩) hl1).trans y1
      have c2 := (hu.cell (p := ⟨b, off + 2, none⟩) hl1).trans y2
      have c3 := (hu.cell (p := ⟨b, off + 3, none⟩) hl1).trans y3
      go_wp2
      rfl
    refine chainP_soft (a1 := ?ma16) (by kernel_rfl) (by kernel_rfl) ?mh16 ?mr16
    case mh16 =>
      intro u hu E hE
      go_wp2
      rfl
    refine chainP_soft (a1 := ?ma17) (by kernel_rfl) (by kernel_rfl) ?mh17 ?mr17
    case mh17 =>
      intro u hu E hE
      go_wp2
      rfl
    refine chainP_soft (a1 := ?ma18) (by kernel_rfl) (by kernel_rfl) ?mh18 ?mr18
    case mh18 =>
      intro u hu E hE
      have c0 := (hu.cell (p := ⟨b, off + 4, none⟩) hl1).trans z0
      have c1 := (hu.cell (p := ⟨b, off + 4 + 1, none⟩) hl1).trans z1
      have c2 := (hu.cell (p := ⟨b, off + 4 + 2, none⟩) hl1).trans z2
      have c3 := (hu.cell (p := ⟨b, off + 4 + 3, none⟩) hl1).trans z3
      go_wp2
      rfl
    clear y0 y1 y2 y3 z0 z1 z2 z3
    refine chainP_two ?_ ?_
    · intro E hE
      go_wp2
      refine ⟨(Below.refl W2.heap.size W2).alloc (Nat.le_refl _) _, ?_⟩
      refine chainP_one ?_
      intro E hE
      go_wp2
      have HK := Lib.hid (two W2 (.cells #[.int .i64 0, .int .i64 0, .string ⟨#[]⟩, .slice none 0 0] 28 (0, 0)) (.cells #[.int .i64 0, .int .i64 0, .string ⟨#[]⟩, .slice none 0 0] 28 (0, 0)))
      refine ⟨HK.out.2.2.2, ?_⟩
      refine chainP_one ?_
      intro E hE
      go_wp2_with (refine wpList_store_row rfl 28 (.tmp 5) (.tmp 18) rfl W2.heap.size #[.int .i64 x.k, .int .i64 x.n, .string x.s, .slice qa x.args.length qc] rfl rfl _ _ HK.out.1 size_term rfl (one4 _ _ _ _ _ _) ?_)
      refine ⟨(below_row HK.out.2.2.2 (by omega)), ?_⟩
      refine chainP_one ?_
      intro E hE
      go_wp2_with (refine wpList_store_row rfl 28 (.tmp 6) (.tmp 21) rfl (W2.heap.size + 1) #[.int .i64 y.k, .int .i64 y.n, .string y.s, .slice za y.args.length zc] rfl rfl _ _ ((setRow_other _ _ _ _ (by omega)).trans HK.out.2.1) size_term rfl (one4 _ _ _ _ _ _) ?_)
      refine ⟨(below_row (below_row HK.out.2.2.2 (by omega)) (by omega)), ?_⟩
      have HFIN := Lib.hid (args_two (g := W2.heap.size) (g' := (W2.heap.size + 1)) HK.out.2.2.2 (by omega) (by omega) (by omega) HQ.out HK.out.1 HK.out.2.1 (HI1.out.below HK.out.2.2.2) (HI2.out.below HK.out.2.2.2))
      clear HK
      refine chainP_nil (rest_end (by decide) ?_)
      go_wp2
      go_meet
      exact Args2.lift HD.out HFIN.out
    · intro E hE
      go_wp2
      refine ⟨(Below.refl W2.heap.size W2).alloc (Nat.le_refl _) _, ?_⟩
      refine chainP_one ?_
      intro E hE
      go_wp2
      have HK := Lib.hid (two W2 (.cells #[.int .i64 0, .int .i64 0, .string ⟨#[]⟩, .slice none 0 0] 28 (0, 0)) (.cells #[.int .i64 0, .int .i64 0, .string ⟨#[]⟩, .slice none 0 0] 28 (0, 0)))
      refine ⟨HK.out.2.2.2, ?_⟩
      refine chainP_one ?_
      intro E hE
      go_wp2_with (refine wpList_store_row rfl 28 (.tmp 5) (.tmp 18) rfl (W2.heap.size + 1) #[.int .i64 x.k, .int .i64 x.n, .string x.s, .slice qa x.args.length qc] rfl rfl _ _ HK.out.2.1 size_term rfl (one4 _ _ _ _ _ _) ?_)
      refine ⟨(below_row HK.out.2.2.2 (by omega)), ?_⟩
      refine chainP_one ?_
      intro E hE
      go_wp2_with (refine wpList_store_row rfl 28 (.tmp 6) (.tmp 21) rfl W2.heap.size #[.int .i64 y.k, .int .i64 y.n, .string y.s, .slice za y.args.length zc] rfl rfl _ _ ((setRow_other _ _ _ _ (by omega)).trans HK.out.1) size_term rfl (one4 _ _ _ _ _ _) ?_)
      refine ⟨(below_row (below_row HK.out.2.2.2 (by omega)) (by omega)), ?_⟩
      have HFIN := Lib.hid (args_two (g := (W2.heap.size + 1)) (g' := W2.heap.size) HK.out.2.2.2 (by omega) (by omega) (by omega) HQ.out HK.out.2.1 HK.out.1 (HI1.out.below HK.out.2.2.2) (HI2.out.below HK.out.2.2.2))
      clear HK
      refine chainP_nil (rest_end (by decide) ?_)
      go_wp2
      go_meet
      exact Args2.lift HD.out HFIN.out
  case rest =>
    obtain ⟨b5, b6, rfl, rfl, ⟨a3, c3, r3, i3⟩, ⟨a4, c4, r4, i4⟩, hbc⟩ := hcut
    have HR3 := Lib.hid (row_on HR.out hbc)
    have HB3 := Lib.hid (HB.out.trans (hbc.mono HB.out.size))
    have hs3 : w.heap.size < wc.heap.size := by have := HZ.out; have := hbc.size; omega
    have HX3 := Lib.hid (show IsTm wc (fun b => b < w.heap.size) (.agg #[.int .i64 x.k, .int .i64 x.n, .string x.s, .slice a3 x.args.length c3]) x from IsTm.mk' i3)
    have HY3 := Lib.hid (show IsTm wc (fun b => b < w.heap.size) (.agg #[.int .i64 y.k, .int .i64 y.n, .string y.s, .slice a4 y.args.length c4]) y from IsTm.mk' i4)
    have RX3 := Lib.hid r3
    have RY3 := Lib.hid r4
    obtain ⟨y0, y1, y2, y3⟩ := row4 r3
    obtain ⟨z0, z1, z2, z3⟩ := row4 r4
    clear i3 i4 HR HZ H HB hbc r3 r4
    cases hn : nameT x with
    | some sn =>
      have HN := Lib.hid hn
      have HA := Lib.hid (name_atomic hn)
      have hsn : sn.size ≤ 100000 := name_size hn HF.out.1 hs1
      have HDD := Lib.hid (show spellD true x y = .is 1 (listT (charsT true sn.data.toList) nilT) by unfold spellD; rw [hn])
      clear hn
      go_wp2_with fail
      refine (r16_atomic x _ _ _ HX3.out).mono ?_
      rintro e5 w5 ⟨rfl, hb5⟩
      have HR5 := Lib.hid (row_on HR3.out hb5)
      have HB5 := Lib.hid (HB3.out.trans (hb5.mono HB3.out.size))
      have hs5 : w.heap.size < w5.heap.size := by have := hb5.size; omega
      have HX5 := Lib.hid (HX3.out.below hb5)
      have HY5 := Lib.hid (HY3.out.below hb5)
      have RX5 := Lib.hid (row_on RX3.out hb5)
      have RY5 := Lib.hid (row_on RY3.out hb5)
      clear y0 y1 y2 y3 z0 z1 z2 z3
      obtain ⟨y0, y1, y2, y3⟩ := row4 RX5.out
      obtain ⟨z0, z1, z2, z3⟩ := row4 RY5.out
      clear hb5 HR3 HB3 HX3 HY3 RX3 RY3 hs3
      rw [HA.out]
      go_wp2_with fail
      refine (r16_name _ _ _ HX5.out HF.out.1 HN.out).mono ?_
      rintro e6 w6 ⟨rfl, hb6⟩
      have HR6 := Lib.hid (row_on HR5.out hb6)
      have HB6 := Lib.hid (HB5.out.trans (hb6.mono HB5.out.size))
      have hs6 : w.heap.size < w6.heap.size := by have := hb6.size; omega
      have HX6 := Lib.hid (HX5.out.below hb6)
      have HY6 := Lib.hid (HY5.out.below hb6)
      have RX6 := Lib.hid (row_on RX5.out hb6)
      have RY6 := Lib.hid (row_on RY5.out hb6)
      clear y0 y1 y2 y3 z0 z1 z2 z3
      obtain ⟨y0, y1, y2, y3⟩ := row4 RX6.out
      obtain ⟨z0, z1, z2, z3⟩ := row4 RY6.out
      clear hb6 HR5 HB5 HX5 HY5 RX5 RY5 hs5
      go_wp2_with fail
      refine (r16_list sn true _ hsn).mono ?_
      rintro e7 w7 ⟨v7, rfl, hi7, hb7⟩
      have HR7 := Lib.hid (row_on HR6.out hb7)
      have HB7 := Lib.hid (HB6.out.trans (hb7.mono HB6.out.size))
      have hs7 : w.heap.size < w7.heap.size := by have := hb7.size; omega
      have HX7 := Lib.hid (HX6.out.below hb7)
      have HY7 := Lib.hid (HY6.out.below hb7)
      have RX7 := Lib.hid (row_on RX6.out hb7)
      have RY7 := Lib.hid (row_on RY6.out hb7)
      clear y0 y1 y2 y3 z0 z1 z2 z3
      obtain ⟨y0, y1, y2, y3⟩ := row4 RX7.out
      obtain ⟨z0, z1, z2, z3⟩ := row4 RY7.out
      clear hb7 HR6 HB6 HX6 HY6 RX6 RY6 hs6
      go_wp2_with fail
      refine (r16_Is 1 (listT (charsT true sn.data.toList) nilT) _ (fun b => b ≠ w.heap.size) _ ((hi7.avoidC (zrow_did HR7.out) (list_ok16 _ _)).imp (fun b hb => hb.2) fun _ _ _ => rfl)).mono ?_
      rintro e9 w9 ⟨v9, rfl, hd9, hb9⟩
      obtain ⟨cb, u1, u2, u3, n1, k1, n2, k2, n3, k3, cx, cy, cs, rfl⟩ := hd9.cells
      have HD9 := Lib.hid (hd9.imp (Pi' := fun b => w.heap.size < b) (Pt' := fun b => b ≠ w.heap.size) (fun b hb => by omega) (fun b hb => by rcases hb with hb | hb <;> omega) (Nat.le_refl _) (fun _ _ _ => rfl))
      have HR9 := Lib.hid (row_on HR7.out hb9)
      have HB9 := Lib.hid (HB7.out.trans (hb9.mono HB7.out.size))
      clear hd9 hb9
      go_wp2_with (with_reducible show wpList _ _ _ (⟨none, .store _ (.tmp 4) _, _, _, _, _⟩ :: _) _ _
                   go_must (refine wpList_store_row rfl 35 (.tmp 4) (.tmp 75) rfl w.heap.size #[.bool cb, .slice u1 n1 k1, .slice u2 n2 k2, .int .i64 cx, .int .i64 cy, .string cs, .slice u3 n3 k3] rfl rfl _ _ HR9.out size_did rfl (by simp [Value.oneCell']) ?_))
      have hz := setRow_heap w9 w.heap.size _ (#[.bool cb, .slice u1 n1 k1, .slice u2 n2 k2, .int .i64 cx, .int .i64 cy, .string cs, .slice u3 n3 k3] : Array Value) _ _ HR9.out
      rw [HDD.out]
      exact bodyPost_ret (v := .agg #[.bool cb, .slice u1 n1 k1, .slice u2 n2 k2, .int .i64 cx, .int .i64 cy, .string cs, .slice u3 n3 k3]) (results_cell_row Tryd.results31 _ _ w.heap.size _ _ _ _ rfl hz Tryd.underlying35 rfl (by kernel_rfl)) rfl ⟨_, rfl, HD9.out.imp (fun _ hb => hb) (fun _ _ => trivial) (by simp) (fun b hb _ => setRow_other w9 w.heap.size b _ (by rcases hb with hb | hb; (· have h : w.heap.size < b := hb; omega); (· exact hb))), below_row HB9.out (Nat.le_refl _)⟩
    | none =>
      have HN := Lib.hid hn
      have HA := Lib.hid (name_not hn)
      have hk2 : x.k ≠ 2 := fun h => by unfold nameT at hn; rw [if_pos h] at hn; cases hn
      have hk3 : x.k ≠ 3 := fun h => by unfold nameT at hn; rw [if_neg hk2, if_pos h] at hn; cases hn
      clear hn
      go_wp2_with fail
      refine (r16_atomic x _ _ _ HX3.out).mono ?_
      rintro e5 w5 ⟨rfl, hb5⟩
      have HR5 := Lib.hid (row_on HR3.out hb5)
      have HB5 := Lib.hid (HB3.out.trans (hb5.mono HB3.out.size))
      have hs5 : w.heap.size < w5.heap.size := by have := hb5.size; omega
      have HX5 := Lib.hid (HX3.out.below hb5)
      have HY5 := Lib.hid (HY3.out.below hb5)
      have RX5 := Lib.hid (row_on RX3.out hb5)
      have RY5 := Lib.hid (row_on RY3.out hb5)
      clear y0 y1 y2 y3 z0 z1 z2 z3
      obtain ⟨y0, y1, y2, y3⟩ := row4 RX5.out
      obtain ⟨z0, z1, z2, z3⟩ := row4 RY5.out
      clear hb5 HR3 HB3 HX3 HY3 RX3 RY3 hs3
      rw [HA.out]
      by_cases hk4 : x.k = 4
      · have d1 : (x.k == 4) = true := by rw [hk4]; rfl
        have HK4 := Lib.hid hk4
        clear hk4 hk2 hk3
        have HDD := Lib.hid (show _ = Dd.wr (formalE 13 (⟨#[97, 116, 111, 109]⟩ : ByteArray) x) by show spellD true x y = _; unfold spellD; rw [HN.out]; simp only []; rw [if_pos (by rw [HK4.out]; decide)])
        go_wp2_with fail
        refine (r16_Wrong 13 (⟨#[97, 116, 111, 109]⟩ : ByteArray) x _ (fun b => b < w.heap.size) _ (by omega) HX5.out).mono ?_
        rintro e9 w9 ⟨v9, rfl, hd9, hb9⟩
        replace hd9 := hd9.wrE (fun b => w.heap.size < b)
        obtain ⟨cb, u1, u2, u3, n1, k1, n2, k2, n3, k3, cx, cy, cs, rfl⟩ := hd9.cells
        have HD9 := Lib.hid (hd9.imp (Pi' := fun b => w.heap.size < b) (Pt' := fun b => b ≠ w.heap.size) (fun b hb => by omega) (fun b hb => by rcases hb with hb | hb <;> omega) (Nat.le_refl _) (fun _ _ _ => rfl))
        have HR9 := Lib.hid (row_on HR5.out hb9)
        have HB9 := Lib.hid (HB5.out.trans (hb9.mono HB5.out.size))
        clear hd9 hb9
        go_wp2_with (with_reducible show wpList _ _ _ (⟨none, .store _ (.tmp 4) _, _, _, _, _⟩ :: _) _ _
                     go_must (refine wpList_store_row rfl 35 (.tmp 4) (.tmp 80) rfl w.heap.size #[.bool cb, .slice u1 n1 k1, .slice u2 n2 k2, .int .i64 cx, .int .i64 cy, .string cs, .slice u3 n3 k3] rfl rfl _ _ HR9.out size_did rfl (by simp [Value.oneCell']) ?_))
        have hz := setRow_heap w9 w.heap.size _ (#[.bool cb, .slice u1 n1 k1, .slice u2 n2 k2, .int .i64 cx, .int .i64 cy, .string cs, .slice u3 n3 k3] : Array Value) _ _ HR9.out
        rw [HDD.out]
        exact bodyPost_ret (v := .agg #[.bool cb, .slice u1 n1 k1, .slice u2 n2 k2, .int .i64 cx, .int .i64 cy, .string cs, .slice u3 n3 k3]) (results_cell_row Tryd.results31 _ _ w.heap.size _ _ _ _ rfl hz Tryd.underlying35 rfl (by kernel_rfl)) rfl ⟨_, rfl, HD9.out.imp (fun _ hb => hb) (fun _ _ => trivial) (by simp) (fun b hb _ => setRow_other w9 w.heap.size b _ (by rcases hb with hb | hb; (· have h : w.heap.size < b := hb; omega); (· exact hb))), below_row HB9.out (Nat.le_refl _)⟩
      · have d1 : (x.k == 4) = false := by simpa using hk4
        have HK1 := Lib.hid (show x.k = 1 by have := HKX.out; omega)
        clear hk2 hk3 hk4
        have HSD := Lib.hid (show spellD true x y = (match textT true y with | (some x, _) => .wr x | (none, l) => if 1000 < l.length then .wr (formalE 3 (⟨#[109, 97, 120, 95, 97, 116, 111, 109, 95, 108, 101, 110, 103, 116, 104]⟩ : ByteArray) zeroT0) else .is 0 (atomT ⟨l.toArray⟩)) by unfold spellD; rw [HN.out]; simp only []; rw [if_neg (fun h => h HK1.out)]; rfl)
        cases hr : textT true y with
        | mk bo l =>
        rw [hr] at HSD
        have hll := textT_len hr
        have hct := fun W v h => r16_text y true v (fun b => b < w.heap.size) W hM' HOY.out h
        rw [hr] at hct
        have HCT := Lib.hid hct
        clear hr hct
        cases bo with
        | none =>
          have HDD := HSD
          simp only [] at HDD
          have hl2 : (⟨l.toArray⟩ : ByteArray).size ≤ 1000000 := by show l.toArray.size ≤ _; simp; omega
          have HLL := Lib.hid (show (⟨l.toArray⟩ : ByteArray).size = l.length by show l.toArray.size = _; simp)
          go_wp2_with fail
          refine (HCT.out _ _ HY5.out).mono ?_
          rintro e6 w6 ⟨hb6, he⟩
          replace he : e6 = .returned (.tuple #[.string ⟨l.toArray⟩, .agg #[.bool false, .slice none 0 0, .slice none 0 0, .int .i64 0, .int .i64 0, .string ⟨#[]⟩, .slice none 0 0], .bool true]) := he
          subst he
          have HR6 := Lib.hid (row_on HR5.out hb6)
          have HB6 := Lib.hid (HB5.out.trans (hb6.mono HB5.out.size))
          have hs6 : w.heap.size < w6.heap.size := by have := hb6.size; omega
          have HX6 := Lib.hid (HX5.out.below hb6)
          have HY6 := Lib.hid (HY5.out.below hb6)
          have RX6 := Lib.hid (row_on RX5.out hb6)
          have RY6 := Lib.hid (row_on RY5.out hb6)
          clear y0 y1 y2 y3 z0 z1 z2 z3
          obtain ⟨y0, y1, y2, y3⟩ := row4 RX6.out
          obtain ⟨z0, z1, z2, z3⟩ := row4 RY6.out
          clear hb6 HR5 HB5 HX5 HY5 RX5 RY5 hs5
          have hal := (Below.refl w6.heap.size w6).alloc (Nat.le_refl _) (.cells #[.bool false, .slice none 0 0, .slice none 0 0, .int .i64 0, .int .i64 0, .string ⟨#[]⟩, .slice none 0 0] 35 (0, 0))
          have HR7 := Lib.hid (row_on HR6.out hal)
          have HB7 := Lib.hid (HB6.out.trans (hal.mono HB6.out.size))
          have hs7 : w.heap.size < (w6.alloc (.cells #[.bool false, .slice none 0 0, .slice none 0 0, .int .i64 0, .int .i64 0, .string ⟨#[]⟩, .slice none 0 0] 35 (0, 0))).heap.size := by have := hal.size; omega
          clear hal
          go_wp2_with fail
          generalize w6.alloc (.cells #[.bool false, .slice none 0 0, .slice none 0 0, .int .i64 0, .int .i64 0, .string ⟨#[]⟩, .slice none 0 0] 35 (0, 0)) = w7 at *
          refine (r16_atom 0 ⟨l.toArray⟩ w7 hl2).mono ?_
          rintro e9 w9 ⟨v9, rfl, hd9, hb9⟩
          rw [HLL.out] at hd9
          obtain ⟨cb, u1, u2, u3, n1, k1, n2, k2, n3, k3, cx, cy, cs, rfl⟩ := hd9.cells
          have HD9 := Lib.hid (hd9.imp (Pi' := fun b => w.heap.size < b) (Pt' := fun b => b ≠ w.heap.size) (fun b hb => by omega) (fun b hb => by rcases hb with hb | hb; (· exact hb.elim); (· omega)) (Nat.le_refl _) (fun _ _ _ => rfl))
          have HR9 := Lib.hid (row_on HR7.out hb9)
          have HB9 := Lib.hid (HB7.out.trans (hb9.mono HB7.out.size))
          clear hd9 hb9
          go_wp2_with (with_reducible show wpList _ _ _ (⟨none, .store _ (.tmp 4) _, _, _, _, _⟩ :: _) _ _
                       go_must (refine wpList_store_row rfl 35 (.tmp 4) (.tmp 92) rfl w.heap.size #[.bool cb, .slice u1 n1 k1, .slice u2 n2 k2, .int .i64 cx, .int .i64 cy, .string cs, .slice u3 n3 k3] rfl rfl _ _ HR9.out size_did rfl (by simp [Value.oneCell']) ?_))
          have hz := setRow_heap w9 w.heap.size _ (#[.bool cb, .slice u1 n1 k1, .slice u2 n2 k2, .int .i64 cx, .int .i64 cy, .string cs, .slice u3 n3 k3] : Array Value) _ _ HR9.out
          rw [HDD.out]
          exact bodyPost_ret (v := .agg #[.bool cb, .slice u1 n1 k1, .slice u2 n2 k2, .int .i64 cx, .int .i64 cy, .string cs, .slice u3 n3 k3]) (results_cell_row Tryd.results31 _ _ w.heap.size _ _ _ _ rfl hz Tryd.underlying35 rfl (by kernel_rfl)) rfl ⟨_, rfl, HD9.out.imp (fun _ hb => hb) (fun _ _ => trivial) (by simp) (fun b hb _ => setRow_other w9 w.heap.size b _ (by rcases hb with hb | hb; (· have h : w.heap.size < b := hb; omega); (· exact hb))), below_row HB9.out (Nat.le_refl _)⟩
        | some bx =>
          have HDD := Lib.hid (show spellD true x y = .wr bx from HSD.out)
          go_wp2_with fail
          refine (HCT.out _ _ HY5.out).mono ?_
          rintro e6 w6 ⟨hb6, hok, v6, rfl, hd6⟩
          obtain ⟨q9, k9, rfl⟩ := hd6.wr_cells
          have HR6 := Lib.hid (row_on HR5.out hb6)
          have HB6 := Lib.hid (HB5.out.trans (hb6.mono HB5.out.size))
          have hs6 : w.heap.size < w6.heap.size := by have := hb6.size; omega
          have hal := (Below.refl w6.heap.size w6).alloc (Nat.le_refl _) (.cells #[.bool false, .slice none 0 0, .slice none 0 0, .int .i64 bx.k, .int .i64 bx.n, .string bx.s, .slice q9 bx.args.length k9] 35 (0, 0))
          have HI6 := Lib.hid ((IsDd.avoidW (g := w.heap.size) (zrow_did HR6.out) hok hd6).below hal)
          have HR7 := Lib.hid (row_on HR6.out hal)
          have HB7 := Lib.hid (HB6.out.trans (hal.mono HB6.out.size))
          obtain ⟨d0, e1', e2', e3', e4', e5', e6'⟩ := row7 (heap_alloc_new w6 (.cells #[.bool false, .slice none 0 0, .slice none 0 0, .int .i64 bx.k, .int .i64 bx.n, .string bx.s, .slice q9 bx.args.length k9] 35 (0, 0)))
          clear hal hb6 hd6 HR6 HB6 y0 y1 y2 y3 z0 z1 z2 z3
          go_wp2_with (with_reducible show wpList _ _ _ (⟨none, .store _ (.tmp 4) _, _, _, _, _⟩ :: _) _ _
                       go_must (refine wpList_store_row rfl 35 (.tmp 4) (.tmp 90) rfl w.heap.size #[.bool false, .slice none 0 0, .slice none 0 0, .int .i64 bx.k, .int .i64 bx.n, .string bx.s, .slice q9 bx.args.length k9] rfl rfl _ _ HR7.out size_did rfl (by simp [Value.oneCell']) ?_))
          have hz := setRow_heap _ w.heap.size _ (#[.bool false, .slice none 0 0, .slice none 0 0, .int .i64 bx.k, .int .i64 bx.n, .string bx.s, .slice q9 bx.args.length k9] : Array Value) _ _ HR7.out
          rw [HDD.out]
          exact bodyPost_ret (v := .agg #[.bool false, .slice none 0 0, .slice none 0 0, .int .i64 bx.k, .int .i64 bx.n, .string bx.s, .slice q9 bx.args.length k9]) (results_cell_row Tryd.results31 _ _ w.heap.size _ _ _ _ rfl hz Tryd.underlying35 rfl (by kernel_rfl)) rfl ⟨_, rfl, (IsDd.imp (P' := AnyB) HI6.out (fun _ _ => trivial) (by simp) (fun b hb _ => setRow_other _ w.heap.size b _ hb.2)).wrE _, below_row HB7.out (Nat.le_refl _)⟩
end Go.Proofs.YtkhchmgdaolojaaDoor.Tms
namespace Go.Proofs.YtkhchmgdaolojaaDoor.Tms
open Go Go.RowKit Go.Proofs.YtkhchmgdaolojaaDoor.Reg Go.Proofs.YtkhchmgdaolojaaDoor.Rws Go.Proofs.YtkhchmgdaolojaaDoor.Maps Go.Instr
set_option linter.unusedVariables false
set_option linter.unusedSimpArgs false

set_option maxRecDepth 100000 in
set_option maxHeartbeats 8000000 in
theorem r16_do_code (x y : Tm) (P : Nat → Prop) (w : World) (a : Option Addr) (c : Nat) (h : IsSl w P (.slice a 2 c) [x, y]) (hM : x.size ≤ 1000000) (hM' : y.size ≤ 1000000) (hf : Num.Fit x.n) (hf' : Num.Fit y.n) (hs1 : x.s.size ≤ 100000) (hs2 : y.s.size ≤ 100000) (hkx : x.k = 1 ∨ x.k = 2 ∨ x.k = 3 ∨ x.k = 4) (hoy : y.ok = true) : Calls Tryd.prog 31 #[.string ⟨#[99, 104, 97, 114, 95, 99, 111, 100, 101]⟩, .slice a 2 c] w (RdPost (codeD x y) w) := by
  have hrw := heap_alloc_new w (.cells #[.bool false, .slice none 0 0, .slice none 0 0, .int .i64 0, .int .i64 0, .string ⟨#[]⟩, .slice none 0 0] 35 (0, 0))
  have hal := (Below.refl w.heap.size w).alloc (Nat.le_refl _) (.cells #[.bool false, .slice none 0 0, .slice none 0 0, .int .i64 0, .int .i64 0, .string ⟨#[]⟩, .slice none 0 0] 35 (0, 0))
  have HR := Lib.hid hrw
  have HB := Lib.hid hal
  have HZ := Lib.hid (show (w.alloc (.cells #[.bool false, .slice none 0 0, .slice none 0 0, .int .i64 0, .int .i64 0, .string ⟨#[]⟩, .slice none 0 0] 35 (0, 0))).heap.size = w.heap.size + 1 by simp)
  have H := Lib.hid ((h.lt2.imp (P' := (fun b => b < w.heap.size)) (fun b hb => hb.2) fun _ _ _ => rfl).below hal)
  obtain ⟨b, off, e1, -⟩ := H.out.at 0 (by simp)
  subst e1
  clear h hrw hal
  have HF := Lib.hid (And.intro hf hf')
  have HKX := Lib.hid hkx
  have HOY := Lib.hid hoy
  clear hf hf' hkx hoy
  go_enter Tryd.func31, Tryd.ntmps31
  go_upto_region 1 with fail
  generalize w.alloc (.cells #[.bool false, .slice none 0 0, .slice none 0 0, .int .i64 0, .int .i64 0, .string ⟨#[]⟩, .slice none 0 0] 35 (0, 0)) = W1 at *
  go_cut [5, 6] from 16 to 22 (fun v5 v6 wx => Args2 x y (fun b => b < w.heap.size) W1 v5 v6 wx)
  case first =>
    refine wp_region_rest (by kernel_rfl) ?_
    have hd := (Below.refl W1.heap.size W1).drew
    have hs2 : W1.drew.heap.size = w.heap.size + 1 := HZ.out
    have h0 := H.out.below hd
    have HD := Lib.hid hd
    have HS2 := Lib.hid hs2
    clear HR HB H hd HZ hs2
    generalize W1.drew = W2 at *
    obtain ⟨qa, qc, y0, y1, y2, y3, hit, hl1⟩ := (h0.atb 0 (by simp)).read
    obtain ⟨za, zc, z0, z1, z2, z3, hit', hl2⟩ := (h0.atb 1 (by simp)).read
    simp only [List.getElem_cons_zero, List.getElem_cons_succ, Nat.zero_mul, Nat.add_zero, Nat.one_mul] at y0 y1 y2 y3 z0 z1 z2 z3 hit hit'
    have HI1 := Lib.hid hit.args
    have HI2 := Lib.hid hit'.args
    have HQ := Lib.hid (show ∀ b, (fun b => b < w.heap.size) b → b < W2.heap.size from fun b hb => by have := HS2.out; have hb2 : b < w.heap.size := hb; omega)
    clear hit hit' h0
    refine rest_chainP (fun u => Below W2.heap.size W2 u) 0 10 (.soft 0 (.soft 1 (.soft 2 (.soft 3 (.soft 4 (.soft 5 (.two 6 7 (.one 7 (.one 8 (.one 9 .nil))) (.one 6 (.one 8 (.one 9 .nil)))))))))) (.soft _ (.soft _ (.soft _ (.soft _ (.soft _ (.soft _ (.two _ _ (.one _ (.one _ (.one _ .nil))) (.one _ (.one _ (.one _ .nil)))))))))) ⟨rfl, ⟨rfl, ⟨rfl, ⟨rfl, ⟨rfl, ⟨rfl, ⟨rfl, rfl, ⟨rfl, ⟨rfl, ⟨rfl, trivial⟩⟩⟩, ⟨rfl, ⟨rfl, ⟨rfl, trivial⟩⟩⟩⟩⟩⟩⟩⟩⟩⟩ (by kernel_rfl) (by kernel_rfl) (by kernel_rfl) (by kernel_rfl) (.inl rfl) (Below.refl _ _) ?_
    refine chainP_soft (a1 := ?ma19) (by kernel_rfl) (by kernel_rfl) ?mh19 ?mr19
    case mh19 =>
      intro u hu E hE
      go_wp2
      rfl
    refine chainP_soft (a1 := ?ma20) (by kernel_rfl) (by kernel_rfl) ?mh20 ?mr20
    case mh20 =>
      intro u hu E hE
      go_wp2
      rfl
    refine chainP_soft (a1 := ?ma21) (by kernel_rfl) (by kernel_rfl) ?mh21 ?mr21
    case mh21 =>
      intro u hu E hE
      have c0 := (hu.cell (p := ⟨b, off, none⟩) hl1).trans y0
      have c1 := (hu.cell (p := ⟨b, off + 1, none⟩) hl1).trans y1
      have c2 := (hu.cell (p := ⟨b, off + 2, none⟩) hl1).trans y2
      have c3 := (hu.cell (p := ⟨b, off + 3, none⟩) hl1).trans y3
      go_wp2
      rfl
    refine chainP_soft (a1 := ?ma22) (by kernel_rfl) (by kernel_rfl) ?mh22 ?mr22
    case mh22 =>
      intro u hu E hE
      go_wp2
      rfl
    refine chainP_soft (a1 := ?ma23) (by kernel_rfl) (by kernel_rfl) ?mh23 ?mr23
    case mh23 =>
      intro u hu E hE
      go_wp2
      rfl
    refine chainP_soft (a1 := ?ma24) (by kernel_rfl) (by kernel_rfl) ?mh24 ?mr24
    case mh24 =>
      intro u hu E hE
      have c0 := (hu.cell (p := ⟨b, off + 4, none⟩) hl1).trans z0
      have c1 := (hu.cell (p := ⟨b, off + 4 + 1, none⟩) hl1).trans z1
      have c2 := (hu.cell (p := ⟨b, off + 4 + 2, none⟩) hl1).trans z2
      have c3 := (hu.cell (p := ⟨b, off + 4 + 3, none⟩) hl1).trans z3
      go_wp2
      rfl
    clear y0 y1 y2 y3 z0 z1 z2 z3
    refine chainP_two ?_ ?_
    · intro E hE
      go_wp2
      refine ⟨(Below.refl W2.heap.size W2).alloc (Nat.le_refl _) _, ?_⟩
      refine chainP_one ?_
      intro E hE
      go_wp2
      have HK := Lib.hid (two W2 (.cells #[.int .i64 0, .int .i64 0, .string ⟨#[]⟩, .slice none 0 0] 28 (0, 0)) (.cells #[.int .i64 0, .int .i64 0, .string ⟨#[]⟩, .slice none 0 0] 28 (0, 0)))
      refine ⟨HK.out.2.2.2, ?_⟩
      refine chainP_one ?_
      intro E hE
      go_wp2_with (refine wpList_store_row rfl 28 (.tmp 5) (.tmp 18) rfl W2.heap.size #[.int .i64 x.k, .int .i64 x.n, .string x.s, .slice qa x.args.length qc] rfl rfl _ _ HK.out.1 size_term rfl (one4 _ _ _ _ _ _) ?_)
      refine ⟨(below_row HK.out.2.2.2 (by omega)), ?_⟩
      refine chainP_one ?_
      intro E hE
      go_wp2_with (refine wpList_store_row rfl 28 (.tmp 6) (.tmp 21) rfl (W2.heap.size + 1) #[.int .i64 y.k, .int .i64 y.n, .string y.s, .slice za y.args.length zc] rfl rfl _ _ ((setRow_other _ _ _ _ (by omega)).trans HK.out.2.1) size_term rfl (one4 _ _ _ _ _ _) ?_)
      refine ⟨(below_row (below_row HK.out.2.2.2 (by omega)) (by omega)), ?_⟩
      have HFIN := Lib.hid (args_two (g := W2.heap.size) (g' := (W2.heap.size + 1)) HK.out.2.2.2 (by omega) (by omega) (by omega) HQ.out HK.out.1 HK.out.2.1 (HI1.out.below HK.out.2.2.2) (HI2.out.below HK.out.2.2.2))
      clear HK
      refine chainP_nil (rest_end (by decide) ?_)
      go_wp2
      go_meet
      exact Args2.lift HD.out HFIN.out
    · intro E hE
      go_wp2
      refine ⟨(Below.refl W2.heap.size W2).alloc (Nat.le_refl _) _, ?_⟩
      refine chainP_one ?_
      intro E hE
      go_wp2
      have HK := Lib.hid (two W2 (.cells #[.int .i64 0, .int .i64 0, .string ⟨#[]⟩, .slice none 0 0] 28 (0, 0)) (.cells #[.int .i64 0, .int .i64 0, .string ⟨#[]⟩, .slice none 0 0] 28 (0, 0)))
      refine ⟨HK.out.2.2.2, ?_⟩
      refine chainP_one ?_
      intro E hE
      go_wp2_with (refine wpList_store_row rfl 28 (.tmp 5) (.tmp 18) rfl (W2.heap.size + 1) #[.int .i64 x.k, .int .i64 x.n, .string x.s, .slice qa x.args.length qc] rfl rfl _ _ HK.out.2.1 size_term rfl (one4 _ _ _ _ _ _) ?_)
      refine ⟨(below_row HK.out.2.2.2 (by omega)), ?_⟩
      refine chainP_one ?_
      intro E hE
      go_wp2_with (refine wpList_store_row rfl 28 (.tmp 6) (.tmp 21) rfl W2.heap.size #[.int .i64 y.k, .int .i64 y.n, .string y.s, .slice za y.args.length zc] rfl rfl _ _ ((setRow_other _ _ _ _ (by omega)).trans HK.out.1) size_term rfl (one4 _ _ _ _ _ _) ?_)
      refine ⟨(below_row (below_row HK.out.2.2.2 (by omega)) (by omega)), ?_⟩
      have HFIN := Lib.hid (args_two (g := (W2.heap.size + 1)) (g' := W2.heap.size) HK.out.2.2.2 (by omega) (by omega) (by omega) HQ.out HK.out.2.1 HK.out.1 (HI1.out.below HK.out.2.2.2) (HI2.out.below HK.out.2.2.2))
      clear HK
      refine chainP_nil (rest_end (by decide) ?_)
      go_wp2
      go_meet
      exact Args2.lift HD.out HFIN.out
  case rest =>
    obtain ⟨b5, b6, rfl, rfl, ⟨a3, c3, r3, i3⟩, ⟨a4, c4, r4, i4⟩, hbc⟩ := hcut
    have HR3 := Lib.hid (row_on HR.out hbc)
    have HB3 := Lib.hid (HB.out.trans (hbc.mono HB.out.size))
    have hs3 : w.heap.size < wc.heap.size := by have := HZ.out; have := hbc.size; omega
    have HX3 := Lib.hid (show IsTm wc (fun b => b < w.heap.size) (.agg #[.int .i64 x.k, .int .i64 x.n, .string x.s, .slice a3 x.args.length c3]) x from IsTm.mk' i3)
    have HY3 := Lib.hid (show IsTm wc (fun b => b < w.heap.size) (.agg #[.int .i64 y.k, .int .i64 y.n, .string y.s, .slice a4 y.args.length c4]) y from IsTm.mk' i4)
    have RX3 := Lib.hid r3
    have RY3 := Lib.hid r4
    obtain ⟨y0, y1, y2, y3⟩ := row4 r3
    obtain ⟨z0, z1, z2, z3⟩ := row4 r4
    clear i3 i4 HR HZ H HB hbc r3 r4
    by_cases hc : x.k = 3 ∧ x.s.size = 1
    · have c1 : (x.k == 3) = true := by rw [hc.1]; rfl
      have c2 : ((x.s.size : Int) == 1) = true := by rw [hc.2]; rfl
      have c3 : (x.s.size == 1) = true := by rw [hc.2]; rfl
      have h01 : 0 < x.s.size := by have := hc.2; omega
      have hcv : wrap64 ((x.s[0]'h01).toNat : Int) = ((x.s[0]'h01).toNat : Int) := Num.wrap_in (by have := (x.s[0]'h01).toNat_lt; unfold Num.Fit; omega)
      have HDD := Lib.hid (show codeD x y = .is 1 (intT (x.s[0]'h01).toNat) by
        unfold codeD
        rw [if_pos hc]
        have : x.s.data[0]? = some (x.s[0]'h01) := by rw [Array.getElem?_eq_getElem (show 0 < x.s.data.size from h01)]; rfl
        rw [this])
      clear hc
      go_wp2_with fail
      try rw [hcv]
      refine (r16_I _ _).mono ?_
      rintro e5 w5 ⟨rfl, hb5⟩
      have HR5 := Lib.hid (row_on HR3.out hb5)
      have HB5 := Lib.hid (HB3.out.trans (hb5.mono HB3.out.size))
      have hs5 : w.heap.size < w5.heap.size := by have := hb5.size; omega
      have HX5 := Lib.hid (HX3.out.below hb5)
      have HY5 := Lib.hid (HY3.out.below hb5)
      have RX5 := Lib.hid (row_on RX3.out hb5)
      have RY5 := Lib.hid (row_on RY3.out hb5)
      clear y0 y1 y2 y3 z0 z1 z2 z3
      obtain ⟨y0, y1, y2, y3⟩ := row4 RX5.out
      obtain ⟨z0, z1, z2, z3⟩ := row4 RY5.out
      clear hb5 HR3 HB3 HX3 HY3 RX3 RY3 hs3
      go_wp2_with fail
      refine (r16_Is 1 (intT (x.s[0]'h01).toNat) _ (fun b => b ≠ w.heap.size) _ (int_is _ _ _)).mono ?_
      rintro e9 w9 ⟨v9, rfl, hd9, hb9⟩
      obtain ⟨cb, u1, u2, u3, n1, k1, n2, k2, n3, k3, cx, cy, cs, rfl⟩ := hd9.cells
      have HD9 := Lib.hid (hd9.imp (Pi' := fun b => w.heap.size < b) (Pt' := fun b => b ≠ w.heap.size) (fun b hb => by omega) (fun b hb => by rcases hb with hb | hb <;> omega) (Nat.le_refl _) (fun _ _ _ => rfl))
      have HR9 := Lib.hid (row_on HR5.out hb9)
      have HB9 := Lib.hid (HB5.out.trans (hb9.mono HB5.out.size))
      clear hd9 hb9
      go_wp2_with (with_reducible show wpList _ _ _ (⟨none, .store _ (.tmp 4) _, _, _, _, _⟩ :: _) _ _
                   go_must (refine wpList_store_row rfl 35 (.tmp 4) (.tmp 110) rfl w.heap.size #[.bool cb, .slice u1 n1 k1, .slice u2 n2 k2, .int .i64 cx, .int .i64 cy, .string cs, .slice u3 n3 k3] rfl rfl _ _ HR9.out size_did rfl (by simp [Value.oneCell']) ?_))
      have hz := setRow_heap w9 w.heap.size _ (#[.bool cb, .slice u1 n1 k1, .slice u2 n2 k2, .int .i64 cx, .int .i64 cy, .string cs, .slice u3 n3 k3] : Array Value) _ _ HR9.out
      rw [HDD.out]
      exact bodyPost_ret (v := .agg #[.bool cb, .slice u1 n1 k1, .slice u2 n2 k2, .int .i64 cx, .int .i64 cy, .string cs, .slice u3 n3 k3]) (results_cell_row Tryd.results31 _ _ w.heap.size _ _ _ _ rfl hz Tryd.underlying35 rfl (by kernel_rfl)) rfl ⟨_, rfl, HD9.out.imp (fun _ hb => hb) (fun _ _ => trivial) (by simp) (fun b hb _ => setRow_other w9 w.heap.size b _ (by rcases hb with hb | hb; (· have h : w.heap.size < b := hb; omega); (· exact hb))), below_row HB9.out (Nat.le_refl _)⟩
    have hck : (x.k = 3 ∧ (x.k == 3) = true ∧ ((x.s.size : Int) == 1) = false ∧ (x.s.size == 1) = false) ∨ (x.k ≠ 3 ∧ (x.k == 3) = false) := by
      by_cases h3 : x.k = 3
      · have hz : x.s.size ≠ 1 := fun h => hc ⟨h3, h⟩
        exact .inl ⟨h3, by rw [h3]; rfl, by simp; omega, by simpa using hz⟩
      · exact .inr ⟨h3, by simpa using h3⟩
    have HC := Lib.hid hc
    clear hc
    by_cases hk1 : x.k = 1
    · have d1 : (x.k != 1) = false := by rw [hk1]; rfl
      have HK1 := Lib.hid hk1
      have c1 : (x.k == 3) = false := by rw [hk1]; rfl
      clear hk1 hck
      by_cases hy1 : y.k = 1
      · have d2 : (y.k == 1) = true := by rw [hy1]; rfl
        have HY1 := Lib.hid hy1
        clear hy1
        have HDD := Lib.hid (show _ = Dd.wr (formalE 12 ⟨#[]⟩ y) by show codeD x y = _; unfold codeD; rw [if_neg HC.out, if_neg (fun h => h HK1.out), if_pos HY1.out])
        go_wp2_with fail
        refine (r16_Wrong 12 ⟨#[]⟩ y _ (fun b => b < w.heap.size) _ (by omega) HY3.out).mono ?_
        rintro e9 w9 ⟨v9, rfl, hd9, hb9⟩
        replace hd9 := hd9.wrE (fun b => w.heap.size < b)
        obtain ⟨cb, u1, u2, u3, n1, k1, n2, k2, n3, k3, cx, cy, cs, rfl⟩ := hd9.cells
        have HD9 := Lib.hid (hd9.imp (Pi' := fun b => w.heap.size < b) (Pt' := fun b => b ≠ w.heap.size) (fun b hb => by omega) (fun b hb => by rcases hb with hb | hb <;> omega) (Nat.le_refl _) (fun _ _ _ => rfl))
        have HR9 := Lib.hid (row_on HR3.out hb9)
        have HB9 := Lib.hid (HB3.out.trans (hb9.mono HB3.out.size))
        clear hd9 hb9
        go_wp2_with (with_reducible show wpList _ _ _ (⟨none, .store _ (.tmp 4) _, _, _, _, _⟩ :: _) _ _
                     go_must (refine wpList_store_row rfl 35 (.tmp 4) (.tmp 122) rfl w.heap.size #[.bool cb, .slice u1 n1 k1, .slice u2 n2 k2, .int .i64 cx, .int .i64 cy, .string cs, .slice u3 n3 k3] rfl rfl _ _ HR9.out size_did rfl (by simp [Value.oneCell']) ?_))
        have hz := setRow_heap w9 w.heap.size _ (#[.bool cb, .slice u1 n1 k1, .slice u2 n2 k2, .int .i64 cx, .int .i64 cy, .string cs, .slice u3 n3 k3] : Array Value) _ _ HR9.out
        rw [HDD.out]
        exact bodyPost_ret (v := .agg #[.bool cb, .slice u1 n1 k1, .slice u2 n2 k2, .int .i64 cx, .int .i64 cy, .string cs, .slice u3 n3 k3]) (results_cell_row Tryd.results31 _ _ w.heap.size _ _ _ _ rfl hz Tryd.underlying35 rfl (by kernel_rfl)) rfl ⟨_, rfl, HD9.out.imp (fun _ hb => hb) (fun _ _ => trivial) (by simp) (fun b hb _ => setRow_other w9 w.heap.size b _ (by rcases hb with hb | hb; (· have h : w.heap.size < b := hb; omega); (· exact hb))), below_row HB9.out (Nat.le_refl _)⟩
      have d2 : (y.k == 1) = false := by simpa using hy1
      have HY1 := Lib.hid hy1
      clear hy1
      by_cases hy2 : y.k = 2
      · have d3 : (y.k != 2) = false := by rw [hy2]; rfl
        have HY2 := Lib.hid hy2
        clear hy2
        by_cases hr : y.n < 0 ∨ 255 < y.n
        · have HRG := Lib.hid hr
          have HDX := Lib.hid (show codeD x y = .wr (formalE 3 (⟨#[99, 104, 97, 114, 97, 99, 116, 101, 114, 95, 99, 111, 100, 101]⟩ : ByteArray) y) by unfold codeD; rw [if_neg HC.out, if_neg (fun h => h HK1.out), if_neg HY1.out, if_neg (fun h => h HY2.out), if_pos HRG.out])
          by_cases hr1 : y.n < 0
          · have d4 : decide (y.n < 0) = true := by simpa using hr1
            clear hr hr1
            have HDD := Lib.hid (show _ = Dd.wr (formalE 3 (⟨#[99, 104, 97, 114, 97, 99, 116, 101, 114, 95, 99, 111, 100, 101]⟩ : ByteArray) y) by exact HDX.out)
            go_wp2_with fail
            refine (r16_Wrong 3 (⟨#[99, 104, 97, 114, 97, 99, 116, 101, 114, 95, 99, 111, 100, 101]⟩ : ByteArray) y _ (fun b => b < w.heap.size) _ (by omega) HY3.out).mono ?_
            rintro e9 w9 ⟨v9, rfl, hd9, hb9⟩
            replace hd9 := hd9.wrE (fun b => w.heap.size < b)
            obtain ⟨cb, u1, u2, u3, n1, k1, n2, k2, n3, k3, cx, cy, cs, rfl⟩ := hd9.cells
            have HD9 := Lib.hid (hd9.imp (Pi' := fun b => w.heap.size < b) (Pt' := fun b => b ≠ w.heap.size) (fun b hb => by omega) (fun b hb => by rcases hb with hb | hb <;> omega) (Nat.le_refl _) (fun _ _ _ => rfl))
            have HR9 := Lib.hid (row_on HR3.out hb9)
            have HB9 := Lib.hid (HB3.out.trans (hb9.mono HB3.out.size))
            clear hd9 hb9
            go_wp2_with (with_reducible show wpList _ _ _ (⟨none, .store _ (.tmp 4) _, _, _, _, _⟩ :: _) _ _
                         go_must (refine wpList_store_row rfl 35 (.tmp 4) (.tmp 139) rfl w.heap.size #[.bool cb, .slice u1 n1 k1, .slice u2 n2 k2, .int .i64 cx, .int .i64 cy, .string cs, .slice u3 n3 k3] rfl rfl _ _ HR9.out size_did rfl (by simp [Value.oneCell']) ?_))
            have hz := setRow_heap w9 w.heap.size _ (#[.bool cb, .slice u1 n1 k1, .slice u2 n2 k2, .int .i64 cx, .int .i64 cy, .string cs, .slice u3 n3 k3] : Array Value) _ _ HR9.out
            rw [HDD.out]
            exact bodyPost_ret (v := .agg #[.bool cb, .slice u1 n1 k1, .slice u2 n2 k2, .int .i64 cx, .int .i64 cy, .string cs, .slice u3 n3 k3]) (results_cell_row Tryd.results31 _ _ w.heap.size _ _ _ _ rfl hz Tryd.underlying35 rfl (by kernel_rfl)) rfl ⟨_, rfl, HD9.out.imp (fun _ hb => hb) (fun _ _ => trivial) (by simp) (fun b hb _ => setRow_other w9 w.heap.size b _ (by rcases hb with hb | hb; (· have h : w.heap.size < b := hb; omega); (· exact hb))), below_row HB9.out (Nat.le_refl _)⟩
          · have d4 : decide (y.n < 0) = false := by simpa using hr1
            have d5 : decide (255 < y.n) = true := by simp; omega
            clear hr hr1
            have HDD := Lib.hid (show _ = Dd.wr (formalE 3 (⟨#[99, 104, 97, 114, 97, 99, 116, 101, 114, 95, 99, 111, 100, 101]⟩ : ByteArray) y) by exact HDX.out)
            go_wp2_with fail
            refine (r16_Wrong 3 (⟨#[99, 104, 97, 114, 97, 99, 116, 101, 114, 95, 99, 111, 100, 101]⟩ : ByteArray) y _ (fun b => b < w.heap.size) _ (by omega) HY3.out).mono ?_
            rintro e9 w9 ⟨v9, rfl, hd9, hb9⟩
            replace hd9 := hd9.wrE (fun b => w.heap.size < b)
            obtain ⟨cb, u1, u2, u3, n1, k1, n2, k2, n3, k3, cx, cy, cs, rfl⟩ := hd9.cells
            have HD9 := Lib.hid (hd9.imp (Pi' := fun b => w.heap.size < b) (Pt' := fun b => b ≠ w.heap.size) (fun b hb => by omega) (fun b hb => by rcases hb with hb | hb <;> omega) (Nat.le_refl _) (fun _ _ _ => rfl))
            have HR9 := Lib.hid (row_on HR3.out hb9)
            have HB9 := Lib.hid (HB3.out.trans (hb9.mono HB3.out.size))
            clear hd9 hb9
            go_wp2_with (with_reducible show wpList _ _ _ (⟨none, .store _ (.tmp 4) _, _, _, _, _⟩ :: _) _ _
                         go_must (refine wpList_store_row rfl 35 (.tmp 4) (.tmp 139) rfl w.heap.size #[.bool cb, .slice u1 n1 k1, .slice u2 n2 k2, .int .i64 cx, .int .i64 cy, .string cs, .slice u3 n3 k3] rfl rfl _ _ HR9.out size_did rfl (by simp [Value.oneCell']) ?_))
            have hz := setRow_heap w9 w.heap.size _ (#[.bool cb, .slice u1 n1 k1, .slice u2 n2 k2, .int .i64 cx, .int .i64 cy, .string cs, .slice u3 n3 k3] : Array Value) _ _ HR9.out
            rw [HDD.out]
            exact bodyPost_ret (v := .agg #[.bool cb, .slice u1 n1 k1, .slice u2 n2 k2, .int .i64 cx, .int .i64 cy, .string cs, .slice u3 n3 k3]) (results_cell_row Tryd.results31 _ _ w.heap.size _ _ _ _ rfl hz Tryd.underlying35 rfl (by kernel_rfl)) rfl ⟨_, rfl, HD9.out.imp (fun _ hb => hb) (fun _ _ => trivial) (by simp) (fun b hb _ => setRow_other w9 w.heap.size b _ (by rcases hb with hb | hb; (· have h : w.heap.size < b := hb; omega); (· exact hb))), below_row HB9.out (Nat.le_refl _)⟩
        · obtain ⟨m, hm⟩ : ∃ m : Nat, y.n = (m : Int) := ⟨y.n.toNat, by omega⟩
          have hm2 : m ≤ 255 := by omega
          have HRG := Lib.hid hr
          have HDD := Lib.hid (show codeD x y = .is 0 (atomT ⟨#[UInt8.ofNat m]⟩) by unfold codeD; rw [if_neg HC.out, if_neg (fun h => h HK1.out), if_neg HY1.out, if_neg (fun h => h HY2.out), if_neg HRG.out, hm, Int.toNat_natCast])
          rw [hm] at z1
          have HM := Lib.hid hm
          have d4 : decide ((m : Int) < 0) = false := by simp
          have d5 : decide (255 < (m : Int)) = false := by simp; omega
          have d6 : decide (255 < m) = false := by simp; omega
          have hbm : ((UInt8.ofNat m).toNat : Int) = (m : Int) := by
            have : (UInt8.ofNat m).toNat = m := by simp; omega
            rw [this]
          have HBM := Lib.hid hbm
          clear hr hm hbm
          have HNB := Lib.hid (heap_alloc_new wc (.cells #[.int .u8 (m : Int)] 5 (0, 0)))
          have hal := (Below.refl wc.heap.size wc).alloc (Nat.le_refl _) (.cells #[.int .u8 (m : Int)] 5 (0, 0))
          have HR5 := Lib.hid (row_on HR3.out hal)
          have HB5 := Lib.hid (HB3.out.trans (hal.mono HB3.out.size))
          clear hal
          have HO5 := Lib.hid (show Byt.OwnB (wc.alloc (.cells #[.int .u8 (m : Int)] 5 (0, 0))) wc.heap.size (.slice (some ⟨wc.heap.size, 0, none⟩) 1 1) [UInt8.ofNat m] from by unfold Byt.OwnB; rw [show [UInt8.ofNat m].map Byt.cellB = (#[.int .u8 (m : Int)] : Array Value).toList from by simp only [List.map_cons, List.map_nil, Byt.cellB]; rw [HBM.out]]; exact World.ownsRow_lit wc #[.int .u8 (m : Int)] 1 (Nat.le_refl _) (by decide) rfl)
          go_wp2_with (with_reducible show wpList _ _ _ (⟨_, .convert 73 9 _, _, _, _, _⟩ :: _) _ _
                       go_must (refine Byt.wpList_strB rfl (.tmp 143) rfl wc.heap.size _ [UInt8.ofNat m] rfl HO5.out ?_))
          generalize wc.alloc (.cells #[.int .u8 (m : Int)] 5 (0, 0)) = w5 at *
          refine (ref_atom _ _).mono ?_
          rintro e6 w6 ⟨rfl, hb6⟩
          have HR6 := Lib.hid (row_on HR5.out hb6)
          have HB6 := Lib.hid (HB5.out.trans (hb6.mono HB5.out.size))
          have hs6 : w.heap.size < w6.heap.size := (Array.getElem?_eq_some_iff.1 HR6.out).1
          clear hb6
          go_wp2_with fail
          refine (r16_Is 0 (atomT ⟨#[UInt8.ofNat m]⟩) _ (fun b => b ≠ w.heap.size) _ (atom_is _ _ _)).mono ?_
          rintro e9 w9 ⟨v9, rfl, hd9, hb9⟩
          obtain ⟨cb, u1, u2, u3, n1, k1, n2, k2, n3, k3, cx, cy, cs, rfl⟩ := hd9.cells
          have HD9 := Lib.hid (hd9.imp (Pi' := fun b => w.heap.size < b) (Pt' := fun b => b ≠ w.heap.size) (fun b hb => by omega) (fun b hb => by rcases hb with hb | hb <;> omega) (Nat.le_refl _) (fun _ _ _ => rfl))
          have HR9 := Lib.hid (row_on HR6.out hb9)
          have HB9 := Lib.hid (HB6.out.trans (hb9.mono HB6.out.size))
          clear hd9 hb9
          go_wp2_with (with_reducible show wpList _ _ _ (⟨none, .store _ (.tmp 4) _, _, _, _, _⟩ :: _) _ _
                       go_must (refine wpList_store_row rfl 35 (.tmp 4) (.tmp 146) rfl w.heap.size #[.bool cb, .slice u1 n1 k1, .slice u2 n2 k2, .int .i64 cx, .int .i64 cy, .string cs, .slice u3 n3 k3] rfl rfl _ _ HR9.out size_did rfl (by simp [Value.oneCell']) ?_))
          have hz := setRow_heap w9 w.heap.size _ (#[.bool cb, .slice u1 n1 k1, .slice u2 n2 k2, .int .i64 cx, .int .i64 cy, .string cs, .slice u3 n3 k3] : Array Value) _ _ HR9.out
          rw [HDD.out]
          exact bodyPost_ret (v := .agg #[.bool cb, .slice u1 n1 k1, .slice u2 n2 k2, .int .i64 cx, .int .i64 cy, .string cs, .slice u3 n3 k3]) (results_cell_row Tryd.results31 _ _ w.heap.size _ _ _ _ rfl hz Tryd.underlying35 rfl (by kernel_rfl)) rfl ⟨_, rfl, HD9.out.imp (fun _ hb => hb) (fun _ _ => trivial) (by simp) (fun b hb _ => setRow_other w9 w.heap.size b _ (by rcases hb with hb | hb; (· have h : w.heap.size < b := hb; omega); (· exact hb))), below_row HB9.out (Nat.le_refl _)⟩
      · have d3 : (y.k != 2) = true := by simpa using hy2
        have HY2 := Lib.hid hy2
        clear hy2
        have HDD := Lib.hid (show _ = Dd.wr (formalE 13 (⟨#[105, 110, 116, 101, 103, 101, 114]⟩ : ByteArray) y) by show codeD x y = _; unfold codeD; rw [if_neg HC.out, if_neg (fun h => h HK1.out), if_neg HY1.out, if_pos HY2.out])
        go_wp2_with fail
        refine (r16_Wrong 13 (⟨#[105, 110, 116, 101, 103, 101, 114]⟩ : ByteArray) y _ (fun b => b < w.heap.size) _ (by omega) HY3.out).mono ?_
        rintro e9 w9 ⟨v9, rfl, hd9, hb9⟩
        replace hd9 := hd9.wrE (fun b => w.heap.size < b)
        obtain ⟨cb, u1, u2, u3, n1, k1, n2, k2, n3, k3, cx, cy, cs, rfl⟩ := hd9.cells
        have HD9 := Lib.hid (hd9.imp (Pi' := fun b => w.heap.size < b) (Pt' := fun b => b ≠ w.heap.size) (fun b hb => by omega) (fun b hb => by rcases hb with hb | hb <;> omega) (Nat.le_refl _) (fun _ _ _ => rfl))
        have HR9 := Lib.hid (row_on HR3.out hb9)
        have HB9 := Lib.hid (HB3.out.trans (hb9.mono HB3.out.size))
        clear hd9 hb9
        go_wp2_with (with_reducible show wpList _ _ _ (⟨none, .store _ (.tmp 4) _, _, _, _, _⟩ :: _) _ _
                     go_must (refine wpList_store_row rfl 35 (.tmp 4) (.tmp 128) rfl w.heap.size #[.bool cb, .slice u1 n1 k1, .slice u2 n2 k2, .int .i64 cx, .int .i64 cy, .string cs, .slice u3 n3 k3] rfl rfl _ _ HR9.out size_did rfl (by simp [Value.oneCell']) ?_))
        have hz := setRow_heap w9 w.heap.size _ (#[.bool cb, .slice u1 n1 k1, .slice u2 n2 k2, .int .i64 cx, .int .i64 cy, .string cs, .slice u3 n3 k3] : Array Value) _ _ HR9.out
        rw [HDD.out]
        exact bodyPost_ret (v := .agg #[.bool cb, .slice u1 n1 k1, .slice u2 n2 k2, .int .i64 cx, .int .i64 cy, .string cs, .slice u3 n3 k3]) (results_cell_row Tryd.results31 _ _ w.heap.size _ _ _ _ rfl hz Tryd.underlying35 rfl (by kernel_rfl)) rfl ⟨_, rfl, HD9.out.imp (fun _ hb => hb) (fun _ _ => trivial) (by simp) (fun b hb _ => setRow_other w9 w.heap.size b _ (by rcases hb with hb | hb; (· have h : w.heap.size < b := hb; omega); (· exact hb))), below_row HB9.out (Nat.le_refl _)⟩
    · have d1 : (x.k != 1) = true := by simpa using hk1
      have HK1 := Lib.hid hk1
      clear hk1
      rcases hck with ⟨hk3, c1, c2, c3⟩ | ⟨hk3, c1⟩
      · clear hk3
        have HDD := Lib.hid (show _ = Dd.wr (formalE 13 (⟨#[99, 104, 97, 114, 97, 99, 116, 101, 114]⟩ : ByteArray) x) by show codeD x y = _; unfold codeD; rw [if_neg HC.out, if_pos HK1.out])
        go_wp2_with fail
        refine (r16_Wrong 13 (⟨#[99, 104, 97, 114, 97, 99, 116, 101, 114]⟩ : ByteArray) x _ (fun b => b < w.heap.size) _ (by omega) HX3.out).mono ?_
        rintro e9 w9 ⟨v9, rfl, hd9, hb9⟩
        replace hd9 := hd9.wrE (fun b => w.heap.size < b)
        obtain ⟨cb, u1, u2, u3, n1, k1, n2, k2, n3, k3, cx, cy, cs, rfl⟩ := hd9.cells
        have HD9 := Lib.hid (hd9.imp (Pi' := fun b => w.heap.size < b) (Pt' := fun b => b ≠ w.heap.size) (fun b hb => by omega) (fun b hb => by rcases hb with hb | hb <;> omega) (Nat.le_refl _) (fun _ _ _ => rfl))
        have HR9 := Lib.hid (row_on HR3.out hb9)
        have HB9 := Lib.hid (HB3.out.trans (hb9.mono HB3.out.size))
        clear hd9 hb9
        go_wp2_with (with_reducible show wpList _ _ _ (⟨none, .store _ (.tmp 4) _, _, _, _, _⟩ :: _) _ _
                     go_must (refine wpList_store_row rfl 35 (.tmp 4) (.tmp 116) rfl w.heap.size #[.bool cb, .slice u1 n1 k1, .slice u2 n2 k2, .int .i64 cx, .int .i64 cy, .string cs, .slice u3 n3 k3] rfl rfl _ _ HR9.out size_did rfl (by simp [Value.oneCell']) ?_))
        have hz := setRow_heap w9 w.heap.size _ (#[.bool cb, .slice u1 n1 k1, .slice u2 n2 k2, .int .i64 cx, .int .i64 cy, .string cs, .slice u3 n3 k3] : Array Value) _ _ HR9.out
        rw [HDD.out]
        exact bodyPost_ret (v := .agg #[.bool cb, .slice u1 n1 k1, .slice u2 n2 k2, .int .i64 cx, .int .i64 cy, .string cs, .slice u3 n3 k3]) (results_cell_row Tryd.results31 _ _ w.heap.size _ _ _ _ rfl hz Tryd.underlying35 rfl (by kernel_rfl)) rfl ⟨_, rfl, HD9.out.imp (fun _ hb => hb) (fun _ _ => trivial) (by simp) (fun b hb _ => setRow_other w9 w.heap.size b _ (by rcases hb with hb | hb; (· have h : w.heap.size < b := hb; omega); (· exact hb))), below_row HB9.out (Nat.le_refl _)⟩
      · clear hk3
        have HDD := Lib.hid (show _ = Dd.wr (formalE 13 (⟨#[99, 104, 97, 114, 97, 99, 116, 101, 114]⟩ : ByteArray) x) by show codeD x y = _; unfold codeD; rw [if_neg HC.out, if_pos HK1.out])
        go_wp2_with fail
        refine (r16_Wrong 13 (⟨#[99, 104, 97, 114, 97, 99, 116, 101, 114]⟩ : ByteArray) x _ (fun b => b < w.heap.size) _ (by omega) HX3.out).mono ?_
        rintro e9 w9 ⟨v9, rfl, hd9, hb9⟩
        replace hd9 := hd9.wrE (fun b => w.heap.size < b)
        obtain ⟨cb, u1, u2, u3, n1, k1, n2, k2, n3, k3, cx, cy, cs, rfl⟩ := hd9.cells
        have HD9 := Lib.hid (hd9.imp (Pi' := fun b => w.heap.size < b) (Pt' := fun b => b ≠ w.heap.size) (fun b hb => by omega) (fun b hb => by rcases hb with hb | hb <;> omega) (Nat.le_refl _) (fun _ _ _ => rfl))
        have HR9 := Lib.hid (row_on HR3.out hb9)
        have HB9 := Lib.hid (HB3.out.trans (hb9.mono HB3.out.size))
        clear hd9 hb9
        go_wp2_with (with_reducible show wpList _ _ _ (⟨none, .store _ (.tmp 4) _, _, _, _, _⟩ :: _) _ _
                     go_must (refine wpList_store_row rfl 35 (.tmp 4) (.tmp 116) rfl w.heap.size #[.bool cb, .slice u1 n1 k1, .slice u2 n2 k2, .int .i64 cx, .int .i64 cy, .string cs, .slice u3 n3 k3] rfl rfl _ _ HR9.out size_did rfl (by simp [Value.oneCell']) ?_))
        have hz := setRow_heap w9 w.heap.size _ (#[.bool cb, .slice u1 n1 k1, .slice u2 n2 k2, .int .i64 cx, .int .i64 cy, .string cs, .slice u3 n3 k3] : Array Value) _ _ HR9.out
        rw [HDD.out]
        exact bodyPost_ret (v := .agg #[.bool cb, .slice u1 n1 k1, .slice u2 n2 k2, .int .i64 cx, .int .i64 cy, .string cs, .slice u3 n3 k3]) (results_cell_row Tryd.results31 _ _ w.heap.size _ _ _ _ rfl hz Tryd.underlying35 rfl (by kernel_rfl)) rfl ⟨_, rfl, HD9.out.imp (fun _ hb => hb) (fun _ _ => trivial) (by simp) (fun b hb _ => setRow_other w9 w.heap.size b _ (by rcases hb with hb | hb; (· have h : w.heap.size < b := hb; omega); (· exact hb))), below_row HB9.out (Nat.le_refl _)⟩
set_option maxRecDepth 100000 in
set_option maxHeartbeats 8000000 in
theorem r16_do_number (x y : Tm) (P : Nat → Prop) (w : World) (a : Option Addr) (c : Nat) (h : IsSl w P (.slice a 2 c) [x, y]) (hM : x.size ≤ 1000000) (hM' : y.size ≤ 1000000) (hf : Num.Fit x.n) (hf' : Num.Fit y.n) (hs1 : x.s.size ≤ 100000) (hs2 : y.s.size ≤ 100000) (hkx : x.k = 1 ∨ x.k = 2 ∨ x.k = 3 ∨ x.k = 4) (hoy : y.ok = true) : Calls Tryd.prog 31 #[.string ⟨#[110, 117, 109, 98, 101, 114, 95, 99, 111, 100, 101, 115]⟩, .slice a 2 c] w (RdPost (numberD x y) w) := by
  have hrw := heap_alloc_new w (.cells #[.bool false, .slice none 0 0, .slice none 0 0, .int .i64 0, .int .i64 0, .string ⟨#[]⟩, .slice none 0 0] 35 (0, 0))
  have hal := (Below.refl w.heap.size w).alloc (Nat.le_refl _) (.cells #[.bool false, .slice none 0 0, .slice none 0 0, .int .i64 0, .int .i64 0, .string ⟨#[]⟩, .slice none 0 0] 35 (0, 0))
  have HR := Lib.hid hrw
  have HB := Lib.hid hal
  have HZ := Lib.hid (show (w.alloc (.cells #[.bool false, .slice none 0 0, .slice none 0 0, .int .i64 0, .int .i64 0, .string ⟨#[]⟩, .slice none 0 0] 35 (0, 0))).heap.size = w.heap.size + 1 by simp)
  have H := Lib.hid ((h.lt2.imp (P' := (fun b => b < w.heap.size)) (fun b hb => hb.2) fun _ _ _ => rfl).below hal)
  obtain ⟨b, off, e1, -⟩ := H.out.at 0 (by simp)
  subst e1
  clear h hrw hal
  have HF := Lib.hid (And.intro hf hf')
  have HKX := Lib.hid hkx
  have HOY := Lib.hid hoy
  clear hf hf' hkx hoy
  go_enter Tryd.func31, Tryd.ntmps31
  go_upto_region 1 with fail
  generalize w.alloc (.cells #[.bool false, .slice none 0 0, .slice none 0 0, .int .i64 0, .int .i64 0, .string ⟨#[]⟩, .slice none 0 0] 35 (0, 0)) = W1 at *
  go_cut [5, 6] from 16 to 22 (fun v5 v6 wx => Args2 x y (fun b => b < w.heap.size) W1 v5 v6 wx)
  case first =>
    refine wp_region_rest (by kernel_rfl) ?_
    have hd := (Below.refl W1.heap.size W1).drew
    have hs2 : W1.drew.heap.size = w.heap.size + 1 := HZ.out
    have h0 := H.out.below hd
    have HD := Lib.hid hd
    have HS2 := Lib.hid hs2
    clear HR HB H hd HZ hs2
    generalize W1.drew = W2 at *
    obtain ⟨qa, qc, y0, y1, y2, y3, hit, hl1⟩ := (h0.atb 0 (by simp)).read
    obtain ⟨za, zc, z0, z1, z2, z3, hit', hl2⟩ := (h0.atb 1 (by simp)).read
    simp only [List.getElem_cons_zero, List.getElem_cons_succ, Nat.zero_mul, Nat.add_zero, Nat.one_mul] at y0 y1 y2 y3 z0 z1 z2 z3 hit hit'
    have HI1 := Lib.hid hit.args
    have HI2 := Lib.hid hit'.args
    have HQ := Lib.hid (show ∀ b, (fun b => b < w.heap.size) b → b < W2.heap.size from fun b hb => by have := HS2.out; have hb2 : b < w.heap.size := hb; omega)
    clear hit hit' h0
    refine rest_chainP (fun u => Below W2.heap.size W2 u) 0 10 (.soft 0 (.soft 1 (.soft 2 (.soft 3 (.soft 4 (.soft 5 (.two 6 7 (.one 7 (.one 8 (.one 9 .nil))) (.one 6 (.one 8 (.one 9 .nil)))))))))) (.soft _ (.soft _ (.soft _ (.soft _ (.soft _ (.soft _ (.two _ _ (.one _ (.one _ (.one _ .nil))) (.one _ (.one _ (.one _ .nil)))))))))) ⟨rfl, ⟨rfl, ⟨rfl, ⟨rfl, ⟨rfl, ⟨rfl, ⟨rfl, rfl, ⟨rfl, ⟨rfl, ⟨rfl, trivial⟩⟩⟩, ⟨rfl, ⟨rfl, ⟨rfl, trivial⟩⟩⟩⟩⟩⟩⟩⟩⟩⟩ (by kernel_rfl) (by kernel_rfl) (by kernel_rfl) (by kernel_rfl) (.inl rfl) (Below.refl _ _) ?_
    refine chainP_soft (a1 := ?ma25) (by kernel_rfl) (by kernel_rfl) ?mh25 ?mr25
    case mh25 =>
      intro u hu E hE
      go_wp2
      rfl
    refine chainP_soft (a1 := ?ma26) (by kernel_rfl) (by kernel_rfl) ?mh26 ?mr26
    case mh26 =>
      intro u hu E hE
      go_wp2
      rfl
    refine chainP_soft (a1 := ?ma27) (by kernel_rfl) (by kernel_rfl) ?mh27 ?mr27
    case mh27 =>
      intro u hu E hE
      have c0 := (hu.cell (p := ⟨b, off, none⟩) hl1).trans y0
      have c1 := (hu.cell (p := ⟨b, off + 1, none⟩) hl1).trans y1
      have c2 := (hu.cell (p := ⟨b, off + 2, none⟩) hl1).trans y2
      have c3 := (hu.cell (p := ⟨b, off + 3, none⟩) hl1).trans y3
      go_wp2
      rfl
    refine chainP_soft (a1 := ?ma28) (by kernel_rfl) (by kernel_rfl) ?mh28 ?mr28
    case mh28 =>
      intro u hu E hE
      go_wp2
      rfl
    refine chainP_soft (a1 := ?ma29) (by kernel_rfl) (by kernel_rfl) ?mh29 ?mr29
    case mh29 =>
      intro u hu E hE
      go_wp2
      rfl
    refine chainP_soft (a1 := ?ma30) (by kernel_rfl) (by kernel_rfl) ?mh30 ?mr30
    case mh30 =>
      intro u hu E hE
      have c0 := (hu.cell (p := ⟨b, off + 4, none⟩) hl1).trans z0
      have c1 := (hu.cell (p := ⟨b, off + 4 + 1, none⟩) hl1).trans z1
      have c2 := (hu.cell (p := ⟨b, off + 4 + 2, none⟩) hl1).trans z2
      have c3 := (hu.cell (p := ⟨b, off + 4 + 3, none⟩) hl1).trans z3
      go_wp2
      rfl
    clear y0 y1 y2 y3 z0 z1 z2 z3
    refine chainP_two ?_ ?_
    · intro E hE
      go_wp2
      refine ⟨(Below.refl W2.heap.size W2).alloc (Nat.le_refl _) _, ?_⟩
      refine chainP_one ?_
      intro E hE
      go_wp2
      have HK := Lib.hid (two W2 (.cells #[.int .i64 0, .int .i64 0, .string ⟨#[]⟩, .slice none 0 0] 28 (0, 0)) (.cells #[.int .i64 0, .int .i64 0, .string ⟨#[]⟩, .slice none 0 0] 28 (0, 0)))
      refine ⟨HK.out.2.2.2, ?_⟩
      refine chainP_one ?_
      intro E hE
      go_wp2_with (refine wpList_store_row rfl 28 (.tmp 5) (.tmp 18) rfl W2.heap.size #[.int .i64 x.k, .int .i64 x.n, .string x.s, .slice qa x.args.length qc] rfl rfl _ _ HK.out.1 size_term rfl (one4 _ _ _ _ _ _) ?_)
      refine ⟨(below_row HK.out.2.2.2 (by omega)), ?_⟩
      refine chainP_one ?_
      intro E hE
      go_wp2_with (refine wpList_store_row rfl 28 (.tmp 6) (.tmp 21) rfl (W2.heap.size + 1) #[.int .i64 y.k, .int .i64 y.n, .string y.s, .slice za y.args.length zc] rfl rfl _ _ ((setRow_other _ _ _ _ (by omega)).trans HK.out.2.1) size_term rfl (one4 _ _ _ _ _ _) ?_)
      refine ⟨(below_row (below_row HK.out.2.2.2 (by omega)) (by omega)), ?_⟩
      have HFIN := Lib.hid (args_two (g := W2.heap.size) (g' := (W2.heap.size + 1)) HK.out.2.2.2 (by omega) (by omega) (by omega) HQ.out HK.out.1 HK.out.2.1 (HI1.out.below HK.out.2.2.2) (HI2.out.below HK.out.2.2.2))
      clear HK
      refine chainP_nil (rest_end (by decide) ?_)
      go_wp2
      go_meet
      exact Args2.lift HD.out HFIN.out
    · intro E hE
      go_wp2
      refine ⟨(Below.refl W2.heap.size W2).alloc (Nat.le_refl _) _, ?_⟩
      refine chainP_one ?_
      intro E hE
      go_wp2
      have HK := Lib.hid (two W2 (.cells #[.int .i64 0, .int .i64 0, .string ⟨#[]⟩, .slice none 0 0] 28 (0, 0)) (.cells #[.int .i64 0, .int .i64 0, .string ⟨#[]⟩, .slice none 0 0] 28 (0, 0)))
      refine ⟨HK.out.2.2.2, ?_⟩
      refine chainP_one ?_
      intro E hE
      go_wp2_with (refine wpList_store_row rfl 28 (.tmp 5) (.tmp 18) rfl (W2.heap.size + 1) #[.int .i64 x.k, .int .i64 x.n, .string x.s, .slice qa x.args.length qc] rfl rfl _ _ HK.out.2.1 size_term rfl (one4 _ _ _ _ _ _) ?_)
      refine ⟨(below_row HK.out.2.2.2 (by omega)), ?_⟩
      refine chainP_one ?_
      intro E hE
      go_wp2_with (refine wpList_store_row rfl 28 (.tmp 6) (.tmp 21) rfl W2.heap.size #[.int .i64 y.k, .int .i64 y.n, .string y.s, .slice za y.args.length zc] rfl rfl _ _ ((setRow_other _ _ _ _ (by omega)).trans HK.out.1) size_term rfl (one4 _ _ _ _ _ _) ?_)
      refine ⟨(below_row (below_row HK.out.2.2.2 (by omega)) (by omega)), ?_⟩
      have HFIN := Lib.hid (args_two (g := (W2.heap.size + 1)) (g' := W2.heap.size) HK.out.2.2.2 (by omega) (by omega) (by omega) HQ.out HK.out.2.1 HK.out.1 (HI1.out.below HK.out.2.2.2) (HI2.out.below HK.out.2.2.2))
      clear HK
      refine chainP_nil (rest_end (by decide) ?_)
      go_wp2
      go_meet
      exact Args2.lift HD.out HFIN.out
  case rest =>
    obtain ⟨b5, b6, rfl, rfl, ⟨a3, c3, r3, i3⟩, ⟨a4, c4, r4, i4⟩, hbc⟩ := hcut
    have HR3 := Lib.hid (row_on HR.out hbc)
    have HB3 := Lib.hid (HB.out.trans (hbc.mono HB.out.size))
    have hs3 : w.heap.size < wc.heap.size := by have := HZ.out; have := hbc.size; omega
    have HX3 := Lib.hid (show IsTm wc (fun b => b < w.heap.size) (.agg #[.int .i64 x.k, .int .i64 x.n, .string x.s, .slice a3 x.args.length c3]) x from IsTm.mk' i3)
    have HY3 := Lib.hid (show IsTm wc (fun b => b < w.heap.size) (.agg #[.int .i64 y.k, .int .i64 y.n, .string y.s, .slice a4 y.args.length c4]) y from IsTm.mk' i4)
    have RX3 := Lib.hid r3
    have RY3 := Lib.hid r4
    obtain ⟨y0, y1, y2, y3⟩ := row4 r3
    obtain ⟨z0, z1, z2, z3⟩ := row4 r4
    clear i3 i4 HR HZ H HB hbc r3 r4
    by_cases hk2 : x.k = 2
    · have c1 : (x.k == 2) = true := by rw [hk2]; rfl
      have HN := Lib.hid (show nameT x = some ⟨(Lib.itoa x.n).toArray⟩ by unfold nameT; rw [if_pos hk2])
      have HDD := Lib.hid (show numberD x y = .is 1 (listT (charsT true (Lib.itoa x.n)) nilT) by unfold numberD; rw [if_pos hk2])
      have hsn : (⟨(Lib.itoa x.n).toArray⟩ : ByteArray).size ≤ 100000 := name_size HN.out HF.out.1 hs1
      clear hk2
      go_wp2_with fail
      refine (r16_name _ _ _ HX3.out HF.out.1 HN.out).mono ?_
      rintro e6 w6 ⟨rfl, hb6⟩
      have HR6 := Lib.hid (row_on HR3.out hb6)
      have HB6 := Lib.hid (HB3.out.trans (hb6.mono HB3.out.size))
      have hs6 : w.heap.size < w6.heap.size := by have := hb6.size; omega
      have HX6 := Lib.hid (HX3.out.below hb6)
      have HY6 := Lib.hid (HY3.out.below hb6)
      have RX6 := Lib.hid (row_on RX3.out hb6)
      have RY6 := Lib.hid (row_on RY3.out hb6)
      clear y0 y1 y2 y3 z0 z1 z2 z3
      obtain ⟨y0, y1, y2, y3⟩ := row4 RX6.out
      obtain ⟨z0, z1, z2, z3⟩ := row4 RY6.out
      clear hb6 HR3 HB3 HX3 HY3 RX3 RY3 hs3
      go_wp2_with fail
      refine (r16_list ⟨(Lib.itoa x.n).toArray⟩ true _ hsn).mono ?_
      rintro e7 w7 ⟨v7, rfl, hi7, hb7⟩
      have HR7 := Lib.hid (row_on HR6.out hb7)
      have HB7 := Lib.hid (HB6.out.trans (hb7.mono HB6.out.size))
      have hs7 : w.heap.size < w7.heap.size := by have := hb7.size; omega
      have HX7 := Lib.hid (HX6.out.below hb7)
      have HY7 := Lib.hid (HY6.out.below hb7)
      have RX7 := Lib.hid (row_on RX6.out hb7)
      have RY7 := Lib.hid (row_on RY6.out hb7)
      clear y0 y1 y2 y3 z0 z1 z2 z3
      obtain ⟨y0, y1, y2, y3⟩ := row4 RX7.out
      obtain ⟨z0, z1, z2, z3⟩ := row4 RY7.out
      clear hb7 HR6 HB6 HX6 HY6 RX6 RY6 hs6
      go_wp2_with fail
      refine (r16_Is 1 (listT (charsT true (Lib.itoa x.n)) nilT) _ (fun b => b ≠ w.heap.size) _ ((IsTm.avoidC (t := listT (charsT true (Lib.itoa x.n)) nilT) (zrow_did HR7.out) (list_ok16 true ⟨(Lib.itoa x.n).toArray⟩) hi7).imp (fun b hb => hb.2) fun _ _ _ => rfl)).mono ?_
      rintro e9 w9 ⟨v9, rfl, hd9, hb9⟩
      obtain ⟨cb, u1, u2, u3, n1, k1, n2, k2, n3, k3, cx, cy, cs, rfl⟩ := hd9.cells
      have HD9 := Lib.hid (hd9.imp (Pi' := fun b => w.heap.size < b) (Pt' := fun b => b ≠ w.heap.size) (fun b hb => by omega) (fun b hb => by rcases hb with hb | hb <;> omega) (Nat.le_refl _) (fun _ _ _ => rfl))
      have HR9 := Lib.hid (row_on HR7.out hb9)
      have HB9 := Lib.hid (HB7.out.trans (hb9.mono HB7.out.size))
      clear hd9 hb9
      go_wp2_with (with_reducible show wpList _ _ _ (⟨none, .store _ (.tmp 4) _, _, _, _, _⟩ :: _) _ _
                   go_must (refine wpList_store_row rfl 35 (.tmp 4) (.tmp 155) rfl w.heap.size #[.bool cb, .slice u1 n1 k1, .slice u2 n2 k2, .int .i64 cx, .int .i64 cy, .string cs, .slice u3 n3 k3] rfl rfl _ _ HR9.out size_did rfl (by simp [Value.oneCell']) ?_))
      have hz := setRow_heap w9 w.heap.size _ (#[.bool cb, .slice u1 n1 k1, .slice u2 n2 k2, .int .i64 cx, .int .i64 cy, .string cs, .slice u3 n3 k3] : Array Value) _ _ HR9.out
      rw [HDD.out]
      exact bodyPost_ret (v := .agg #[.bool cb, .slice u1 n1 k1, .slice u2 n2 k2, .int .i64 cx, .int .i64 cy, .string cs, .slice u3 n3 k3]) (results_cell_row Tryd.results31 _ _ w.heap.size _ _ _ _ rfl hz Tryd.underlying35 rfl (by kernel_rfl)) rfl ⟨_, rfl, HD9.out.imp (fun _ hb => hb) (fun _ _ => trivial) (by simp) (fun b hb _ => setRow_other w9 w.heap.size b _ (by rcases hb with hb | hb; (· have h : w.heap.size < b := hb; omega); (· exact hb))), below_row HB9.out (Nat.le_refl _)⟩
    have c1 : (x.k == 2) = false := by simpa using hk2
    have HK2 := Lib.hid hk2
    clear hk2
    by_cases hk1 : x.k = 1
    · have d1 : (x.k != 1) = false := by rw [hk1]; rfl
      have HK1 := Lib.hid hk1
      clear hk1
      have HSD := Lib.hid (show numberD x y = (match textT true y with | (some x, _) => .wr x | (none, l) => if (numberT l).2 = true then .is 0 (intT (numberT l).1) else .wr (compT (⟨#[115, 121, 110, 116, 97, 120, 95, 101, 114, 114, 111, 114]⟩ : ByteArray) [atomT (⟨#[105, 108, 108, 101, 103, 97, 108, 95, 110, 117, 109, 98, 101, 114]⟩ : ByteArray)])) by unfold numberD; rw [if_neg HK2.out, if_neg (fun h => h HK1.out)]; rfl)
      cases hr : textT true y with
      | mk bo l =>
      rw [hr] at HSD
      have hll := textT_len hr
      have hct := fun W v h => r16_text y true v (fun b => b < w.heap.size) W hM' HOY.out h
      rw [hr] at hct
      have HCT := Lib.hid hct
      clear hr hct
      cases bo with
      | none =>
        have HDD := HSD
        simp only [] at HDD
        have hl2 : (⟨l.toArray⟩ : ByteArray).size ≤ 1000000 := by show l.toArray.size ≤ _; simp; omega
        go_wp2_with fail
        refine (HCT.out _ _ HY3.out).mono ?_
        rintro e6 w6 ⟨hb6, he⟩
        replace he : e6 = .returned (.tuple #[.string ⟨l.toArray⟩, .agg #[.bool false, .slice none 0 0, .slice none 0 0, .int .i64 0, .int .i64 0, .string ⟨#[]⟩, .slice none 0 0], .bool true]) := he
        subst he
        have HR6 := Lib.hid (row_on HR3.out hb6)
        have HB6 := Lib.hid (HB3.out.trans (hb6.mono HB3.out.size))
        have hs6 : w.heap.size < w6.heap.size := by have := hb6.size; omega
        have HX6 := Lib.hid (HX3.out.below hb6)
        have HY6 := Lib.hid (HY3.out.below hb6)
        have RX6 := Lib.hid (row_on RX3.out hb6)
        have RY6 := Lib.hid (row_on RY3.out hb6)
        clear y0 y1 y2 y3 z0 z1 z2 z3
        obtain ⟨y0, y1, y2, y3⟩ := row4 RX6.out
        obtain ⟨z0, z1, z2, z3⟩ := row4 RY6.out
        clear hb6 HR3 HB3 HX3 HY3 RX3 RY3 hs3
        have hal := (Below.refl w6.heap.size w6).alloc (Nat.le_refl _) (.cells #[.bool false, .slice none 0 0, .slice none 0 0, .int .i64 0, .int .i64 0, .string ⟨#[]⟩, .slice none 0 0] 35 (0, 0))
        have HR7 := Lib.hid (row_on HR6.out hal)
        have HB7 := Lib.hid (HB6.out.trans (hal.mono HB6.out.size))
        clear hal
        have hnb := r16_number ⟨l.toArray⟩ hl2
        rw [show (⟨l.toArray⟩ : ByteArray).data.toList = l from by simp] at hnb
        have HNB := Lib.hid hnb
        clear hnb
        go_wp2_with fail
        generalize w6.alloc (.cells #[.bool false, .slice none 0 0, .slice none 0 0, .int .i64 0, .int .i64 0, .string ⟨#[]⟩, .slice none 0 0] 35 (0, 0)) = w7 at *
        refine (HNB.out w7).mono ?_
        rintro e8 w8 ⟨m, rfl, hmv, hb8⟩
        have HR8 := Lib.hid (row_on HR7.out hb8)
        have HB8 := Lib.hid (HB7.out.trans (hb8.mono HB7.out.size))
        have hs8 : w.heap.size < w8.heap.size := (Array.getElem?_eq_some_iff.1 HR8.out).1
        clear hb8
        by_cases hok : (numberT l).2 = true
        · have HOK := Lib.hid hok
          have HMV := Lib.hid (hmv hok)
          rw [hok]
          have HDE := Lib.hid (show numberD x y = .is 0 (intT m) by rw [HDD.out, if_pos HOK.out, HMV.out])
          clear HDD hok hmv
          have HDD := HDE
          clear HDE
          go_wp2_with fail
          refine (r16_Is 0 (intT m) _ (fun b => b ≠ w.heap.size) _ (int_is _ _ _)).mono ?_
          rintro e9 w9 ⟨v9, rfl, hd9, hb9⟩
          obtain ⟨cb, u1, u2, u3, n1, k1, n2, k2, n3, k3, cx, cy, cs, rfl⟩ := hd9.cells
          have HD9 := Lib.hid (hd9.imp (Pi' := fun b => w.heap.size < b) (Pt' := fun b => b ≠ w.heap.size) (fun b hb => by omega) (fun b hb => by rcases hb with hb | hb <;> omega) (Nat.le_refl _) (fun _ _ _ => rfl))
          have HR9 := Lib.hid (row_on HR8.out hb9)
          have HB9 := Lib.hid (HB8.out.trans (hb9.mono HB8.out.size))
          clear hd9 hb9
          go_wp2_with (with_reducible show wpList _ _ _ (⟨none, .store _ (.tmp 4) _, _, _, _, _⟩ :: _) _ _
                       go_must (refine wpList_store_row rfl 35 (.tmp 4) (.tmp 183) rfl w.heap.size #[.bool cb, .slice u1 n1 k1, .slice u2 n2 k2, .int .i64 cx, .int .i64 cy, .string cs, .slice u3 n3 k3] rfl rfl _ _ HR9.out size_did rfl (by simp [Value.oneCell']) ?_))
          have hz := setRow_heap w9 w.heap.size _ (#[.bool cb, .slice u1 n1 k1, .slice u2 n2 k2, .int .i64 cx, .int .i64 cy, .string cs, .slice u3 n3 k3] : Array Value) _ _ HR9.out
          rw [HDD.out]
          exact bodyPost_ret (v := .agg #[.bool cb, .slice u1 n1 k1, .slice u2 n2 k2, .int .i64 cx, .int .i64 cy, .string cs, .slice u3 n3 k3]) (results_cell_row Tryd.results31 _ _ w.heap.size _ _ _ _ rfl hz Tryd.underlying35 rfl (by kernel_rfl)) rfl ⟨_, rfl, HD9.out.imp (fun _ hb => hb) (fun _ _ => trivial) (by simp) (fun b hb _ => setRow_other w9 w.heap.size b _ (by rcases hb with hb | hb; (· have h : w.heap.size < b := hb; omega); (· exact hb))), below_row HB9.out (Nat.le_refl _)⟩
        · have hok' : (numberT l).2 = false := by simpa using hok
          have HDE := Lib.hid (show numberD x y = .wr (compT (⟨#[115, 121, 110, 116, 97, 120, 95, 101, 114, 114, 111, 114]⟩ : ByteArray) [atomT (⟨#[105, 108, 108, 101, 103, 97, 108, 95, 110, 117, 109, 98, 101, 114]⟩ : ByteArray)]) by rw [HDD.out, if_neg hok])
          rw [hok']
          clear HDD hok hok' hmv
          have HDD := HDE
          clear HDE
          go_wp2_with fail
          refine (ref_atom _ _).mono ?_
          rintro e5 w5 ⟨rfl, hb5⟩
          have hbt := (Below.refl w5.heap.size w5).alloc (Nat.le_refl _) (.cells #[.int .i64 3, .int .i64 0, .string (⟨#[105, 108, 108, 101, 103, 97, 108, 95, 110, 117, 109, 98, 101, 114]⟩ : ByteArray), .slice none 0 0] 28 (0, 0))
          have HIA := Lib.hid (atom_in (P := fun b => b ≠ w.heap.size) (⟨#[105, 108, 108, 101, 103, 97, 108, 95, 110, 117, 109, 98, 101, 114]⟩ : ByteArray) (heap_alloc_new w5 (.cells #[.int .i64 3, .int .i64 0, .string (⟨#[105, 108, 108, 101, 103, 97, 108, 95, 110, 117, 109, 98, 101, 114]⟩ : ByteArray), .slice none 0 0] 28 (0, 0))) (by have := hb5.size; omega))
          have hb5b := hb5.trans (hbt.mono hb5.size)
          have HRG := Lib.hid (row_on HR8.out hb5b)
          have HBG := Lib.hid (HB8.out.trans (hb5b.mono HB8.out.size))
          clear hbt hb5 hb5b
          go_wp2_with fail
          refine (ref_comp _ _ _ _ _).mono ?_
          rintro e9 w9 ⟨rfl, hb9⟩
          have HR9 := Lib.hid (row_on HRG.out hb9)
          have HB9 := Lib.hid (HBG.out.trans (hb9.mono HBG.out.size))
          have HI9 := Lib.hid (HIA.out.below hb9)
          clear hb9 HIA HRG HBG
          simp only [compV]
          go_wp2_with (with_reducible show wpList _ _ _ (⟨none, .store _ (.tmp 4) _, _, _, _, _⟩ :: _) _ _
                       go_must (refine wpList_store_row rfl 35 (.tmp 4) (.tmp 180) rfl w.heap.size #[.bool false, .slice none 0 0, .slice none 0 0, .int .i64 4, .int .i64 0, .string (⟨#[115, 121, 110, 116, 97, 120, 95, 101, 114, 114, 111, 114]⟩ : ByteArray), .slice (some ⟨w5.heap.size, 0, none⟩) 1 1] rfl rfl _ _ HR9.out size_did rfl (by simp [Value.oneCell']) ?_))
          have hz := setRow_heap w9 w.heap.size _ (#[.bool false, .slice none 0 0, .slice none 0 0, .int .i64 4, .int .i64 0, .string (⟨#[115, 121, 110, 116, 97, 120, 95, 101, 114, 114, 111, 114]⟩ : ByteArray), .slice (some ⟨w5.heap.size, 0, none⟩) 1 1] : Array Value) _ _ HR9.out
          rw [HDD.out]
          exact bodyPost_ret (v := .agg #[.bool false, .slice none 0 0, .slice none 0 0, .int .i64 4, .int .i64 0, .string (⟨#[115, 121, 110, 116, 97, 120, 95, 101, 114, 114, 111, 114]⟩ : ByteArray), .slice (some ⟨w5.heap.size, 0, none⟩) 1 1]) (results_cell_row Tryd.results31 _ _ w.heap.size _ _ _ _ rfl hz Tryd.underlying35 rfl (by kernel_rfl)) rfl ⟨_, rfl, ⟨_, _, rfl, IsTm.mk' (t := compT (⟨#[115, 121, 110, 116, 97, 120, 95, 101, 114, 114, 111, 114]⟩ : ByteArray) [atomT (⟨#[105, 108, 108, 101, 103, 97, 108, 95, 110, 117, 109, 98, 101, 114]⟩ : ByteArray)]) (HI9.out.imp (P' := AnyB) (fun _ _ => trivial) (fun b hb _ => setRow_other w9 w.heap.size b _ hb))⟩, below_row HB9.out (Nat.le_refl _)⟩
      | some bx =>
        have HDD := Lib.hid (show numberD x y = .wr bx from HSD.out)
        go_wp2_with fail
        refine (HCT.out _ _ HY3.out).mono ?_
        rintro e6 w6 ⟨hb6, hok, v6, rfl, hd6⟩
        obtain ⟨q9, k9, rfl⟩ := hd6.wr_cells
        have HR6 := Lib.hid (row_on HR3.out hb6)
        have HB6 := Lib.hid (HB3.out.trans (hb6.mono HB3.out.size))
        have hs6 : w.heap.size < w6.heap.size := by have := hb6.size; omega
        have hal := (Below.refl w6.heap.size w6).alloc (Nat.le_refl _) (.cells #[.bool false, .slice none 0 0, .slice none 0 0, .int .i64 bx.k, .int .i64 bx.n, .string bx.s, .slice q9 bx.args.length k9] 35 (0, 0))
        have HI6 := Lib.hid ((IsDd.avoidW (g := w.heap.size) (zrow_did HR6.out) hok hd6).below hal)
        have HR7 := Lib.hid (row_on HR6.out hal)
        have HB7 := Lib.hid (HB6.out.trans (hal.mono HB6.out.size))
        obtain ⟨d0, e1', e2', e3', e4', e5', e6'⟩ := row7 (heap_alloc_new w6 (.cells #[.bool false, .slice none 0 0, .slice none 0 0, .int .i64 bx.k, .int .i64 bx.n, .string bx.s, .slice q9 bx.args.length k9] 35 (0, 0)))
        clear hal hb6 hd6 HR6 HB6 y0 y1 y2 y3 z0 z1 z2 z3
        go_wp2_with (with_reducible show wpList _ _ _ (⟨none, .store _ (.tmp 4) _, _, _, _, _⟩ :: _) _ _
                     go_must (refine wpList_store_row rfl 35 (.tmp 4) (.tmp 169) rfl w.heap.size #[.bool false, .slice none 0 0, .slice none 0 0, .int .i64 bx.k, .int .i64 bx.n, .string bx.s, .slice q9 bx.args.length k9] rfl rfl _ _ HR7.out size_did rfl (by simp [Value.oneCell']) ?_))
        have hz := setRow_heap _ w.heap.size _ (#[.bool false, .slice none 0 0, .slice none 0 0, .int .i64 bx.k, .int .i64 bx.n, .string bx.s, .slice q9 bx.args.length k9] : Array Value) _ _ HR7.out
        rw [HDD.out]
        exact bodyPost_ret (v := .agg #[.bool false, .slice none 0 0, .slice none 0 0, .int .i64 bx.k, .int .i64 bx.n, .string bx.s, .slice q9 bx.args.length k9]) (results_cell_row Tryd.results31 _ _ w.heap.size _ _ _ _ rfl hz Tryd.underlying35 rfl (by kernel_rfl)) rfl ⟨_, rfl, (IsDd.imp (P' := AnyB) HI6.out (fun _ _ => trivial) (by simp) (fun b hb _ => setRow_other _ w.heap.size b _ hb.2)).wrE _, below_row HB7.out (Nat.le_refl _)⟩
    · have d1 : (x.k != 1) = true := by simpa using hk1
      have HK1 := Lib.hid hk1
      clear hk1
      have HDD := Lib.hid (show _ = Dd.wr (formalE 13 (⟨#[105, 110, 116, 101, 103, 101, 114]⟩ : ByteArray) x) by show numberD x y = _; unfold numberD; rw [if_neg HK2.out, if_pos HK1.out])
      go_wp2_with fail
      refine (r16_Wrong 13 (⟨#[105, 110, 116, 101, 103, 101, 114]⟩ : ByteArray) x _ (fun b => b < w.heap.size) _ (by omega) HX3.out).mono ?_
      rintro e9 w9 ⟨v9, rfl, hd9, hb9⟩
      replace hd9 := hd9.wrE (fun b => w.heap.size < b)
      obtain ⟨cb, u1, u2, u3, n1, k1, n2, k2, n3, k3, cx, cy, cs, rfl⟩ := hd9.cells
      have HD9 := Lib.hid (hd9.imp (Pi' := fun b => w.heap.size < b) (Pt' := fun b => b ≠ w.heap.size) (fun b hb => by omega) (fun b hb => by rcases hb with hb | hb <;> omega) (Nat.le_refl _) (fun _ _ _ => rfl))
      have HR9 := Lib.hid (row_on HR3.out hb9)
      have HB9 := Lib.hid (HB3.out.trans (hb9.mono HB3.out.size))
      clear hd9 hb9
      go_wp2_with (with_reducible show wpList _ _ _ (⟨none, .store _ (.tmp 4) _, _, _, _, _⟩ :: _) _ _
                   go_must (refine wpList_store_row rfl 35 (.tmp 4) (.tmp 160) rfl w.heap.size #[.bool cb, .slice u1 n1 k1, .slice u2 n2 k2, .int .i64 cx, .int .i64 cy, .string cs, .slice u3 n3 k3] rfl rfl _ _ HR9.out size_did rfl (by simp [Value.oneCell']) ?_))
      have hz := setRow_heap w9 w.heap.size _ (#[.bool cb, .slice u1 n1 k1, .slice u2 n2 k2, .int .i64 cx, .int .i64 cy, .string cs, .slice u3 n3 k3] : Array Value) _ _ HR9.out
      rw [HDD.out]
      exact bodyPost_ret (v := .agg #[.bool cb, .slice u1 n1 k1, .slice u2 n2 k2, .int .i64 cx, .int .i64 cy, .string cs, .slice u3 n3 k3]) (results_cell_row Tryd.results31 _ _ w.heap.size _ _ _ _ rfl hz Tryd.underlying35 rfl (by kernel_rfl)) rfl ⟨_, rfl, HD9.out.imp (fun _ hb => hb) (fun _ _ => trivial) (by simp) (fun b hb _ => setRow_other w9 w.heap.size b _ (by rcases hb with hb | hb; (· have h : w.heap.size < b := hb; omega); (· exact hb))), below_row HB9.out (Nat.le_refl _)⟩
end Go.Proofs.YtkhchmgdaolojaaDoor.Tms
namespace Go.Proofs.YtkhchmgdaolojaaDoor.Tms
open Go Go.RowKit Go.Proofs.YtkhchmgdaolojaaDoor.Reg Go.Proofs.YtkhchmgdaolojaaDoor.Rws Go.Proofs.YtkhchmgdaolojaaDoor.Maps Go.Instr
set_option linter.unusedVariables false
set_option linter.unusedSimpArgs false

set_option maxRecDepth 100000 in
set_option maxHeartbeats 8000000 in
theorem r16_do_concat (x y z : Tm) (P : Nat → Prop) (w : World) (a : Option Addr) (c : Nat) (h : IsSl w P (.slice a 3 c) [x, y, z]) (hM : x.size ≤ 1000000) (hM' : y.size ≤ 1000000) (hM'' : z.size ≤ 1000000) (hf : Num.Fit x.n) (hf' : Num.Fit y.n) (hs1 : x.s.size ≤ 100000) (hs2 : y.s.size ≤ 100000) (hkz : z.k = 1 ∨ z.k = 2 ∨ z.k = 3 ∨ z.k = 4) : Calls Tryd.prog 31 #[.string ⟨#[97, 116, 111, 109, 95, 99, 111, 110, 99, 97, 116]⟩, .slice a 3 c] w (RdPost (concatD x y z) w) := by
  have hrw := heap_alloc_new w (.cells #[.bool false, .slice none 0 0, .slice none 0 0, .int .i64 0, .int .i64 0, .string ⟨#[]⟩, .slice none 0 0] 35 (0, 0))
  have hal := (Below.refl w.heap.size w).alloc (Nat.le_refl _) (.cells #[.bool false, .slice none 0 0, .slice none 0 0, .int .i64 0, .int .i64 0, .string ⟨#[]⟩, .slice none 0 0] 35 (0, 0))
  have HR := Lib.hid hrw
  have HB := Lib.hid hal
  have HZ := Lib.hid (show (w.alloc (.cells #[.bool false, .slice none 0 0, .slice none 0 0, .int .i64 0, .int .i64 0, .string ⟨#[]⟩, .slice none 0 0] 35 (0, 0))).heap.size = w.heap.size + 1 by simp)
  have H := Lib.hid ((h.lt2.imp (P' := (fun b => b < w.heap.size)) (fun b hb => hb.2) fun _ _ _ => rfl).below hal)
  obtain ⟨b, off, e1, -⟩ := H.out.at 0 (by simp)
  subst e1
  clear h hrw hal
  have HF := Lib.hid (And.intro hf hf')
  have HKZ := Lib.hid hkz
  clear hf hf' hkz
  go_enter Tryd.func31, Tryd.ntmps31
  go_upto_region 1 with fail
  generalize w.alloc (.cells #[.bool false, .slice none 0 0, .slice none 0 0, .int .i64 0, .int .i64 0, .string ⟨#[]⟩, .slice none 0 0] 35 (0, 0)) = W1 at *
  go_cut [5, 6] from 16 to 22 (fun v5 v6 wx => Args2 x y (fun b => b < w.heap.size) W1 v5 v6 wx)
  case first =>
    refine wp_region_rest (by kernel_rfl) ?_
    have hd := (Below.refl W1.heap.size W1).drew
    have hs2 : W1.drew.heap.size = w.heap.size + 1 := HZ.out
    have h0 := H.out.below hd
    have HD := Lib.hid hd
    have HS2 := Lib.hid hs2
    clear HR HB H hd HZ hs2
    generalize W1.drew = W2 at *
    obtain ⟨qa, qc, y0, y1, y2, y3, hit, hl1⟩ := (h0.atb 0 (by simp)).read
    obtain ⟨za, zc, z0, z1, z2, z3, hit', hl2⟩ := (h0.atb 1 (by simp)).read
    simp only [List.getElem_cons_zero, List.getElem_cons_succ, Nat.zero_mul, Nat.add_zero, Nat.one_mul] at y0 y1 y2 y3 z0 z1 z2 z3 hit hit'
    have HI1 := Lib.hid hit.args
    have HI2 := Lib.hid hit'.args
    have HQ := Lib.hid (show ∀ b, (fun b => b < w.heap.size) b → b < W2.heap.size from fun b hb => by have := HS2.out; have hb2 : b < w.heap.size := hb; omega)
    clear hit hit' h0
    refine rest_chainP (fun u => Below W2.heap.size W2 u) 0 10 (.soft 0 (.soft 1 (.soft 2 (.soft 3 (.soft 4 (.soft 5 (.two 6 7 (.one 7 (.one 8 (.one 9 .nil))) (.one 6 (.one 8 (.one 9 .nil)))))))))) (.soft _ (.soft _ (.soft _ (.soft _ (.soft _ (.soft _ (.two _ _ (.one _ (.one _ (.one _ .nil))) (.one _ (.one _ (.one _ .nil)))))))))) ⟨rfl, ⟨rfl, ⟨rfl, ⟨rfl, ⟨rfl, ⟨rfl, ⟨rfl, rfl, ⟨rfl, ⟨rfl, ⟨rfl, trivial⟩⟩⟩, ⟨rfl, ⟨rfl, ⟨rfl, trivial⟩⟩⟩⟩⟩⟩⟩⟩⟩⟩ (by kernel_rfl) (by kernel_rfl) (by kernel_rfl) (by kernel_rfl) (.inl rfl) (Below.refl _ _) ?_
    refine chainP_soft (a1 := ?ma31) (by kernel_rfl) (by kernel_rfl) ?mh31 ?mr31
    case mh31 =>
      intro u hu E hE
      go_wp2
      rfl
    refine chainP_soft (a1 := ?ma32) (by kernel_rfl) (by kernel_rfl) ?mh32 ?mr32
    case mh32 =>
      intro u hu E hE
      go_wp2
      rfl
    refine chainP_soft (a1 := ?ma33) (by kernel_rfl) (by kernel_rfl) ?mh33 ?mr33
    case mh33 =>
      intro u hu E hE
      have c0 := (hu.cell (p := ⟨b, off, none⟩) hl1).trans y0
      have c1 := (hu.cell (p := ⟨b, off + 1, none⟩) hl1).trans y1
      have c2 := (hu.cell (p := ⟨b, off + 2, none⟩) hl1).trans y2
      have c3 := (hu.cell (p := ⟨b, off + 3, none⟩) hl1).trans y3
      go_wp2
      rfl
    refine chainP_soft (a1 := ?ma34) (by kernel_rfl) (by kernel_rfl) ?mh34 ?mr34
    case mh34 =>
      intro u hu E hE
      go_wp2
      rfl
    refine chainP_soft (a1 := ?ma35) (by kernel_rfl) (by kernel_rfl) ?mh35 ?mr35
    case mh35 =>
      intro u hu E hE
      go_wp2
      rfl
    refine chainP_soft (a1 := ?ma36) (by kernel_rfl) (by kernel_rfl) ?mh36 ?mr36
    case mh36 =>
      intro u hu E hE
      have c0 := (hu.cell (p := ⟨b, off + 4, none⟩) hl1).trans z0
      have c1 := (hu.cell (p := ⟨b, off + 4 + 1, none⟩) hl1).trans z1
      have c2 := (hu.cell (p := ⟨b, off + 4 + 2, none⟩) hl1).trans z2
      have c3 := (hu.cell (p := ⟨b, off + 4 + 3, none⟩) hl1).trans z3
      go_wp2
      rfl
    clear y0 y1 y2 y3 z0 z1 z2 z3
    refine chainP_two ?_ ?_
    · intro E hE
      go_wp2
      refine ⟨(Below.refl W2.heap.size W2).alloc (Nat.le_refl _) _, ?_⟩
      refine chainP_one ?_
      intro E hE
      go_wp2
      have HK := Lib.hid (two W2 (.cells #[.int .i64 0, .int .i64 0, .string ⟨#[]⟩, .slice none 0 0] 28 (0, 0)) (.cells #[.int .i64 0, .int .i64 0, .string ⟨#[]⟩, .slice none 0 0] 28 (0, 0)))
      refine ⟨HK.out.2.2.2, ?_⟩
      refine chainP_one ?_
      intro E hE
      go_wp2_with (refine wpList_store_row rfl 28 (.tmp 5) (.tmp 18) rfl W2.heap.size #[.int .i64 x.k, .int .i64 x.n, .string x.s, .slice qa x.args.length qc] rfl rfl _ _ HK.out.1 size_term rfl (one4 _ _ _ _ _ _) ?_)
      refine ⟨(below_row HK.out.2.2.2 (by omega)), ?_⟩
      refine chainP_one ?_
      intro E hE
      go_wp2_with (refine wpList_store_row rfl 28 (.tmp 6) (.tmp 21) rfl (W2.heap.size + 1) #[.int .i64 y.k, .int .i64 y.n, .string y.s, .slice za y.args.length zc] rfl rfl _ _ ((setRow_other _ _ _ _ (by omega)).trans HK.out.2.1) size_term rfl (one4 _ _ _ _ _ _) ?_)
      refine ⟨(below_row (below_row HK.out.2.2.2 (by omega)) (by omega)), ?_⟩
      have HFIN := Lib.hid (args_two (g := W2.heap.size) (g' := (W2.heap.size + 1)) HK.out.2.2.2 (by omega) (by omega) (by omega) HQ.out HK.out.1 HK.out.2.1 (HI1.out.below HK.out.2.2.2) (HI2.out.below HK.out.2.2.2))
      clear HK
      refine chainP_nil (rest_end (by decide) ?_)
      go_wp2
      go_meet
      exact Args2.lift HD.out HFIN.out
    · intro E hE
      go_wp2
      refine ⟨(Below.refl W2.heap.size W2).alloc (Nat.le_refl _) _, ?_⟩
      refine chainP_one ?_
      intro E hE
      go_wp2
      have HK := Lib.hid (two W2 (.cells #[.int .i64 0, .int .i64 0, .string ⟨#[]⟩, .slice none 0 0] 28 (0, 0)) (.cells #[.int .i64 0, .int .i64 0, .string ⟨#[]⟩, .slice none 0 0] 28 (0, 0)))
      refine ⟨HK.out.2.2.2, ?_⟩
      refine chainP_one ?_
      intro E hE
      go_wp2_with (refine wpList_store_row rfl 28 (.tmp 5) (.tmp 18) rfl (W2.heap.size + 1) #[.int .i64 x.k, .int .i64 x.n, .string x.s, .slice qa x.args.length qc] rfl rfl _ _ HK.out.2.1 size_term rfl (one4 _ _ _ _ _ _) ?_)
      refine ⟨(below_row HK.out.2.2.2 (by omega)), ?_⟩
      refine chainP_one ?_
      intro E hE
      go_wp2_with (refine wpList_store_row rfl 28 (.tmp 6) (.tmp 21) rfl W2.heap.size #[.int .i64 y.k, .int .i64 y.n, .string y.s, .slice za y.args.length zc] rfl rfl _ _ ((setRow_other _ _ _ _ (by omega)).trans HK.out.1) size_term rfl (one4 _ _ _ _ _ _) ?_)
      refine ⟨(below_row (below_row HK.out.2.2.2 (by omega)) (by omega)), ?_⟩
      have HFIN := Lib.hid (args_two (g := (W2.heap.size + 1)) (g' := W2.heap.size) HK.out.2.2.2 (by omega) (by omega) (by omega) HQ.out HK.out.2.1 HK.out.1 (HI1.out.below HK.out.2.2.2) (HI2.out.below HK.out.2.2.2))
      clear HK
      refine chainP_nil (rest_end (by decide) ?_)
      go_wp2
      go_meet
      exact Args2.lift HD.out HFIN.out
  case rest =>
    obtain ⟨b5, b6, rfl, rfl, ⟨a3, c3, r3, i3⟩, ⟨a4, c4, r4, i4⟩, hbc⟩ := hcut
    have HR3 := Lib.hid (row_on HR.out hbc)
    have HB3 := Lib.hid (HB.out.trans (hbc.mono HB.out.size))
    have hs3 : w.heap.size < wc.heap.size := by have := HZ.out; have := hbc.size; omega
    have HX3 := Lib.hid (show IsTm wc (fun b => b < w.heap.size) (.agg #[.int .i64 x.k, .int .i64 x.n, .string x.s, .slice a3 x.args.length c3]) x from IsTm.mk' i3)
    have HY3 := Lib.hid (show IsTm wc (fun b => b < w.heap.size) (.agg #[.int .i64 y.k, .int .i64 y.n, .string y.s, .slice a4 y.args.length c4]) y from IsTm.mk' i4)
    have RX3 := Lib.hid r3
    have RY3 := Lib.hid r4
    have HZT := Lib.hid (H.out.below hbc)
    obtain ⟨y0, y1, y2, y3⟩ := row4 r3
    obtain ⟨z0, z1, z2, z3⟩ := row4 r4
    clear i3 i4 HR HZ H HB hbc r3 r4
    obtain ⟨va, vc, t0, t1, t2, t3, hit, hl⟩ := (HZT.out.atb 2 (by simp)).read
    simp only [List.getElem_cons_zero, List.getElem_cons_succ] at t0 t1 t2 t3 hit
    have hal := (Below.refl wc.heap.size wc).alloc (Nat.le_refl _) (.cells #[.int .i64 z.k, .int .i64 z.n, .string z.s, .slice va z.args.length vc] 28 (0, 0))
    have HW4 := Lib.hid (hit.below hal)
    have RZ4 := Lib.hid (heap_alloc_new wc (.cells #[.int .i64 z.k, .int .i64 z.n, .string z.s, .slice va z.args.length vc] 28 (0, 0)))
    have HR4 := Lib.hid (row_on HR3.out hal)
    have HB4 := Lib.hid (HB3.out.trans (hal.mono HB3.out.size))
    have hs4 : w.heap.size < (wc.alloc (.cells #[.int .i64 z.k, .int .i64 z.n, .string z.s, .slice va z.args.length vc] 28 (0, 0))).heap.size := by have := hal.size; omega
    have HX4 := Lib.hid (HX3.out.below hal)
    have HY4 := Lib.hid (HY3.out.below hal)
    have RX4 := Lib.hid (row_on RX3.out hal)
    have RY4 := Lib.hid (row_on RY3.out hal)
    have h4 := Lib.hid (And.intro y0 z0)
    clear y0 y1 y2 y3 z0 z1 z2 z3 hal hit HZT HR3 HB3 hs3 HX3 HY3 RX3 RY3 h4
    go_upto_region 49 with fail
    clear t0 t1 t2 t3 hl
    generalize wc.alloc (.cells #[.int .i64 z.k, .int .i64 z.n, .string z.s, .slice va z.args.length vc] 28 (0, 0)) = w4 at *
    obtain ⟨y0, y1, y2, y3⟩ := row4 RX4.out
    obtain ⟨z0, z1, z2, z3⟩ := row4 RY4.out
    obtain ⟨t0, t1, t2, t3⟩ := row4 RZ4.out
    by_cases hv : x.k = 1 ∨ y.k = 1
    · have HK := Lib.hid hv
      by_cases h1 : x.k = 1
      · have c1 : (x.k == 1) = true := by rw [h1]; rfl
        clear hv h1
        have HDD := Lib.hid (show _ = Dd.wr (formalE 12 ⟨#[]⟩ x) by show concatD x y z = _; unfold concatD; rw [if_pos HK.out])
        go_wp2_with fail
        refine (r16_Wrong 12 ⟨#[]⟩ x _ (fun b => b < w.heap.size) _ (by omega) HX4.out).mono ?_
        rintro e9 w9 ⟨v9, rfl, hd9, hb9⟩
        replace hd9 := hd9.wrE (fun b => w.heap.size < b)
        obtain ⟨cb, u1, u2, u3, n1, k1, n2, k2, n3, k3, cx, cy, cs, rfl⟩ := hd9.cells
        have HD9 := Lib.hid (hd9.imp (Pi' := fun b => w.heap.size < b) (Pt' := fun b => b ≠ w.heap.size) (fun b hb => by omega) (fun b hb => by rcases hb with hb | hb <;> omega) (Nat.le_refl _) (fun _ _ _ => rfl))
        have HR9 := Lib.hid (row_on HR4.out hb9)
        have HB9 := Lib.hid (HB4.out.trans (hb9.mono HB4.out.size))
        clear hd9 hb9
        go_wp2_with (with_reducible show wpList _ _ _ (⟨none, .store _ (.tmp 4) _, _, _, _, _⟩ :: _) _ _
                     go_must (refine wpList_store_row rfl 35 (.tmp 4) (.tmp 197) rfl w.heap.size #[.bool cb, .slice u1 n1 k1, .slice u2 n2 k2, .int .i64 cx, .int .i64 cy, .string cs, .slice u3 n3 k3] rfl rfl _ _ HR9.out size_did rfl (by simp [Value.oneCell']) ?_))
        have hz := setRow_heap w9 w.heap.size _ (#[.bool cb, .slice u1 n1 k1, .slice u2 n2 k2, .int .i64 cx, .int .i64 cy, .string cs, .slice u3 n3 k3] : Array Value) _ _ HR9.out
        rw [HDD.out]
        exact bodyPost_ret (v := .agg #[.bool cb, .slice u1 n1 k1, .slice u2 n2 k2, .int .i64 cx, .int .i64 cy, .string cs, .slice u3 n3 k3]) (results_cell_row Tryd.results31 _ _ w.heap.size _ _ _ _ rfl hz Tryd.underlying35 rfl (by kernel_rfl)) rfl ⟨_, rfl, HD9.out.imp (fun _ hb => hb) (fun _ _ => trivial) (by simp) (fun b hb _ => setRow_other w9 w.heap.size b _ (by rcases hb with hb | hb; (· have h : w.heap.size < b := hb; omega); (· exact hb))), below_row HB9.out (Nat.le_refl _)⟩
      · have c1 : (x.k == 1) = false := by simpa using h1
        have c2 : (y.k == 1) = true := by rw [hv.resolve_left h1]; rfl
        clear hv h1
        have HDD := Lib.hid (show _ = Dd.wr (formalE 12 ⟨#[]⟩ x) by show concatD x y z = _; unfold concatD; rw [if_pos HK.out])
        go_wp2_with fail
        refine (r16_Wrong 12 ⟨#[]⟩ x _ (fun b => b < w.heap.size) _ (by omega) HX4.out).mono ?_
        rintro e9 w9 ⟨v9, rfl, hd9, hb9⟩
        replace hd9 := hd9.wrE (fun b => w.heap.size < b)
        obtain ⟨cb, u1, u2, u3, n1, k1, n2, k2, n3, k3, cx, cy, cs, rfl⟩ := hd9.cells
        have HD9 := Lib.hid (hd9.imp (Pi' := fun b => w.heap.size < b) (Pt' := fun b => b ≠ w.heap.size) (fun b hb => by omega) (fun b hb => by rcases hb with hb | hb <;> omega) (Nat.le_refl _) (fun _ _ _ => rfl))
        have HR9 := Lib.hid (row_on HR4.out hb9)
        have HB9 := Lib.hid (HB4.out.trans (hb9.mono HB4.out.size))
        clear hd9 hb9
        go_wp2_with (with_reducible show wpList _ _ _ (⟨none, .store _ (.tmp 4) _, _, _, _, _⟩ :: _) _ _
                     go_must (refine wpList_store_row rfl 35 (.tmp 4) (.tmp 197) rfl w.heap.size #[.bool cb, .slice u1 n1 k1, .slice u2 n2 k2, .int .i64 cx, .int .i64 cy, .string cs, .slice u3 n3 k3] rfl rfl _ _ HR9.out size_did rfl (by simp [Value.oneCell']) ?_))
        have hz := setRow_heap w9 w.heap.size _ (#[.bool cb, .slice u1 n1 k1, .slice u2 n2 k2, .int .i64 cx, .int .i64 cy, .string cs, .slice u3 n3 k3] : Array Value) _ _ HR9.out
        rw [HDD.out]
        exact bodyPost_ret (v := .agg #[.bool cb, .slice u1 n1 k1, .slice u2 n2 k2, .int .i64 cx, .int .i64 cy, .string cs, .slice u3 n3 k3]) (results_cell_row Tryd.results31 _ _ w.heap.size _ _ _ _ rfl hz Tryd.underlying35 rfl (by kernel_rfl)) rfl ⟨_, rfl, HD9.out.imp (fun _ hb => hb) (fun _ _ => trivial) (by simp) (fun b hb _ => setRow_other w9 w.heap.size b _ (by rcases hb with hb | hb; (· have h : w.heap.size < b := hb; omega); (· exact hb))), below_row HB9.out (Nat.le_refl _)⟩
    have HK := Lib.hid hv
    have c1 : (x.k == 1) = false := by simpa using fun h => hv (.inl h)
    have c2 : (y.k == 1) = false := by simpa using fun h => hv (.inr h)
    clear hv
    cases hnx : nameT x with
    | none =>
      have HN := Lib.hid hnx
      have HA := Lib.hid (name_not hnx)
      clear hnx
      go_wp2_with fail
      refine (r16_atomic x _ _ _ HX4.out).mono ?_
      rintro e5 w5 ⟨rfl, hb5⟩
      have HR5 := Lib.hid (row_on HR4.out hb5)
      have HB5 := Lib.hid (HB4.out.trans (hb5.mono HB4.out.size))
      have hs5 : w.heap.size < w5.heap.size := by have := hb5.size; omega
      have HX5 := Lib.hid (HX4.out.below hb5)
      have HY5 := Lib.hid (HY4.out.below hb5)
      have RX5 := Lib.hid (row_on RX4.out hb5)
      have RY5 := Lib.hid (row_on RY4.out hb5)
      clear y0 y1 y2 y3 z0 z1 z2 z3
      obtain ⟨y0, y1, y2, y3⟩ := row4 RX5.out
      obtain ⟨z0, z1, z2, z3⟩ := row4 RY5.out
      clear hb5 HR4 HB4 HX4 HY4 RX4 RY4 hs4
      rw [HA.out]
      have HDD := Lib.hid (show _ = Dd.wr (formalE 13 (⟨#[97, 116, 111, 109, 105, 99]⟩ : ByteArray) x) by show concatD x y z = _; unfold concatD; rw [if_neg HK.out, HN.out])
      go_wp2_with fail
      refine (r16_Wrong 13 (⟨#[97, 116, 111, 109, 105, 99]⟩ : ByteArray) x _ (fun b => b < w.heap.size) _ (by omega) HX5.out).mono ?_
      rintro e9 w9 ⟨v9, rfl, hd9, hb9⟩
      replace hd9 := hd9.wrE (fun b => w.heap.size < b)
      obtain ⟨cb, u1, u2, u3, n1, k1, n2, k2, n3, k3, cx, cy, cs, rfl⟩ := hd9.cells
      have HD9 := Lib.hid (hd9.imp (Pi' := fun b => w.heap.size < b) (Pt' := fun b => b ≠ w.heap.size) (fun b hb => by omega) (fun b hb => by rcases hb with hb | hb <;> omega) (Nat.le_refl _) (fun _ _ _ => rfl))
      have HR9 := Lib.hid (row_on HR5.out hb9)
      have HB9 := Lib.hid (HB5.out.trans (hb9.mono HB5.out.size))
      clear hd9 hb9
      go_wp2_with (with_reducible show wpList _ _ _ (⟨none, .store _ (.tmp 4) _, _, _, _, _⟩ :: _) _ _
                   go_must (refine wpList_store_row rfl 35 (.tmp 4) (.tmp 203) rfl w.heap.size #[.bool cb, .slice u1 n1 k1, .slice u2 n2 k2, .int .i64 cx, .int .i64 cy, .string cs, .slice u3 n3 k3] rfl rfl _ _ HR9.out size_did rfl (by simp [Value.oneCell']) ?_))
      have hz := setRow_heap w9 w.heap.size _ (#[.bool cb, .slice u1 n1 k1, .slice u2 n2 k2, .int .i64 cx, .int .i64 cy, .string cs, .slice u3 n3 k3] : Array Value) _ _ HR9.out
      rw [HDD.out]
      exact bodyPost_ret (v := .agg #[.bool cb, .slice u1 n1 k1, .slice u2 n2 k2, .int .i64 cx, .int .i64 cy, .string cs, .slice u3 n3 k3]) (results_cell_row Tryd.results31 _ _ w.heap.size _ _ _ _ rfl hz Tryd.underlying35 rfl (by kernel_rfl)) rfl ⟨_, rfl, HD9.out.imp (fun _ hb => hb) (fun _ _ => trivial) (by simp) (fun b hb _ => setRow_other w9 w.heap.size b _ (by rcases hb with hb | hb; (· have h : w.heap.size < b := hb; omega); (· exact hb))), below_row HB9.out (Nat.le_refl _)⟩
    | some sx =>
      have HNX := Lib.hid hnx
      have HA := Lib.hid (name_atomic hnx)
      have hlx : sx.size ≤ 100000 := name_size hnx HF.out.1 hs1
      clear hnx
      go_wp2_with fail
      refine (r16_atomic x _ _ _ HX4.out).mono ?_
      rintro e5 w5 ⟨rfl, hb5⟩
      have HR5 := Lib.hid (row_on HR4.out hb5)
      have HB5 := Lib.hid (HB4.out.trans (hb5.mono HB4.out.size))
      have hs5 : w.heap.size < w5.heap.size := by have := hb5.size; omega
      have HX5 := Lib.hid (HX4.out.below hb5)
      have HY5 := Lib.hid (HY4.out.below hb5)
      have RX5 := Lib.hid (row_on RX4.out hb5)
      have RY5 := Lib.hid (row_on RY4.out hb5)
      clear y0 y1 y2 y3 z0 z1 z2 z3
      obtain ⟨y0, y1, y2, y3⟩ := row4 RX5.out
      obtain ⟨z0, z1, z2, z3⟩ := row4 RY5.out
      have HW5 := Lib.hid (HW4.out.below hb5)
      have RZ5 := Lib.hid (row_on RZ4.out hb5)
      clear t0 t1 t2 t3
      obtain ⟨t0, t1, t2, t3⟩ := row4 RZ5.out
      clear HW4 RZ4 hb5 HR4 HB4 HX4 HY4 RX4 RY4 hs4
      rw [HA.out]
      clear HA
      cases hny : nameT y with
      | none =>
        have HN := Lib.hid hny
        have HA := Lib.hid (name_not hny)
        clear hny
        go_wp2_with fail
        refine (r16_atomic y _ _ _ HY5.out).mono ?_
        rintro e6 w6 ⟨rfl, hb6⟩
        have HR6 := Lib.hid (row_on HR5.out hb6)
        have HB6 := Lib.hid (HB5.out.trans (hb6.mono HB5.out.size))
        have hs6 : w.heap.size < w6.heap.size := by have := hb6.size; omega
        have HX6 := Lib.hid (HX5.out.below hb6)
        have HY6 := Lib.hid (HY5.out.below hb6)
        have RX6 := Lib.hid (row_on RX5.out hb6)
        have RY6 := Lib.hid (row_on RY5.out hb6)
        clear y0 y1 y2 y3 z0 z1 z2 z3
        obtain ⟨y0, y1, y2, y3⟩ := row4 RX6.out
        obtain ⟨z0, z1, z2, z3⟩ := row4 RY6.out
        clear hb6 HR5 HB5 HX5 HY5 RX5 RY5 hs5
        rw [HA.out]
        have HDD := Lib.hid (show _ = Dd.wr (formalE 13 (⟨#[97, 116, 111, 109, 105, 99]⟩ : ByteArray) y) by show concatD x y z = _; unfold concatD; rw [if_neg HK.out, HNX.out, HN.out])
        go_wp2_with fail
        refine (r16_Wrong 13 (⟨#[97, 116, 111, 109, 105, 99]⟩ : ByteArray) y _ (fun b => b < w.heap.size) _ (by omega) HY6.out).mono ?_
        rintro e9 w9 ⟨v9, rfl, hd9, hb9⟩
        replace hd9 := hd9.wrE (fun b => w.heap.size < b)
        obtain ⟨cb, u1, u2, u3, n1, k1, n2, k2, n3, k3, cx, cy, cs, rfl⟩ := hd9.cells
        have HD9 := Lib.hid (hd9.imp (Pi' := fun b => w.heap.size < b) (Pt' := fun b => b ≠ w.heap.size) (fun b hb => by omega) (fun b hb => by rcases hb with hb | hb <;> omega) (Nat.le_refl _) (fun _ _ _ => rfl))
        have HR9 := Lib.hid (row_on HR6.out hb9)
        have HB9 := Lib.hid (HB6.out.trans (hb9.mono HB6.out.size))
        clear hd9 hb9
        go_wp2_with (with_reducible show wpList _ _ _ (⟨none, .store _ (.tmp 4) _, _, _, _, _⟩ :: _) _ _
                     go_must (refine wpList_store_row rfl 35 (.tmp 4) (.tmp 209) rfl w.heap.size #[.bool cb, .slice u1 n1 k1, .slice u2 n2 k2, .int .i64 cx, .int .i64 cy, .string cs, .slice u3 n3 k3] rfl rfl _ _ HR9.out size_did rfl (by simp [Value.oneCell']) ?_))
        have hz := setRow_heap w9 w.heap.size _ (#[.bool cb, .slice u1 n1 k1, .slice u2 n2 k2, .int .i64 cx, .int .i64 cy, .string cs, .slice u3 n3 k3] : Array Value) _ _ HR9.out
        rw [HDD.out]
        exact bodyPost_ret (v := .agg #[.bool cb, .slice u1 n1 k1, .slice u2 n2 k2, .int .i64 cx, .int .i64 cy, .string cs, .slice u3 n3 k3]) (results_cell_row Tryd.results31 _ _ w.heap.size _ _ _ _ rfl hz Tryd.underlying35 rfl (by kernel_rfl)) rfl ⟨_, rfl, HD9.out.imp (fun _ hb => hb) (fun _ _ => trivial) (by simp) (fun b hb _ => setRow_other w9 w.heap.size b _ (by rcases hb with hb | hb; (· have h : w.heap.size < b := hb; omega); (· exact hb))), below_row HB9.out (Nat.le_refl _)⟩
      | some sy =>
        have HNY := Lib.hid hny
        have HA := Lib.hid (name_atomic hny)
        have hly : sy.size ≤ 100000 := name_size hny HF.out.2 hs2
        clear hny
        go_wp2_with fail
        refine (r16_atomic y _ _ _ HY5.out).mono ?_
        rintro e6 w6 ⟨rfl, hb6⟩
        have HR6 := Lib.hid (row_on HR5.out hb6)
        have HB6 := Lib.hid (HB5.out.trans (hb6.mono HB5.out.size))
        have hs6 : w.heap.size < w6.heap.size := by have := hb6.size; omega
        have HX6 := Lib.hid (HX5.out.below hb6)
        have HY6 := Lib.hid (HY5.out.below hb6)
        have RX6 := Lib.hid (row_on RX5.out hb6)
        have RY6 := Lib.hid (row_on RY5.out hb6)
        clear y0 y1 y2 y3 z0 z1 z2 z3
        obtain ⟨y0, y1, y2, y3⟩ := row4 RX6.out
        obtain ⟨z0, z1, z2, z3⟩ := row4 RY6.out
        have HW6 := Lib.hid (HW5.out.below hb6)
        have RZ6 := Lib.hid (row_on RZ5.out hb6)
        clear t0 t1 t2 t3
        obtain ⟨t0, t1, t2, t3⟩ := row4 RZ6.out
        clear HW5 RZ5 hb6 HR5 HB5 HX5 HY5 RX5 RY5 hs5
        rw [HA.out]
        clear HA
        by_cases hz4 : z.k = 4
        · have d1 : (z.k == 4) = true := by rw [hz4]; rfl
          have HG := Lib.hid (show z.k ≠ 1 ∧ nameT z = none from ⟨by omega, by unfold nameT; rw [if_neg (by omega), if_neg (by omega)]⟩)
          clear hz4
          have HDD := Lib.hid (show _ = Dd.wr (formalE 13 (⟨#[97, 116, 111, 109, 105, 99]⟩ : ByteArray) z) by show concatD x y z = _; unfold concatD; rw [if_neg HK.out, HNX.out, HNY.out]; simp only []; rw [if_pos HG.out])
          go_wp2_with fail
          refine (r16_Wrong 13 (⟨#[97, 116, 111, 109, 105, 99]⟩ : ByteArray) z _ (fun b => b < w.heap.size) _ (by omega) HW6.out).mono ?_
          rintro e9 w9 ⟨v9, rfl, hd9, hb9⟩
          replace hd9 := hd9.wrE (fun b => w.heap.size < b)
          obtain ⟨cb, u1, u2, u3, n1, k1, n2, k2, n3, k3, cx, cy, cs, rfl⟩ := hd9.cells
          have HD9 := Lib.hid (hd9.imp (Pi' := fun b => w.heap.size < b) (Pt' := fun b => b ≠ w.heap.size) (fun b hb => by omega) (fun b hb => by rcases hb with hb | hb <;> omega) (Nat.le_refl _) (fun _ _ _ => rfl))
          have HR9 := Lib.hid (row_on HR6.out hb9)
          have HB9 := Lib.hid (HB6.out.trans (hb9.mono HB6.out.size))
          clear hd9 hb9
          go_wp2_with (with_reducible show wpList _ _ _ (⟨none, .store _ (.tmp 4) _, _, _, _, _⟩ :: _) _ _
                       go_must (refine wpList_store_row rfl 35 (.tmp 4) (.tmp 215) rfl w.heap.size #[.bool cb, .slice u1 n1 k1, .slice u2 n2 k2, .int .i64 cx, .int .i64 cy, .string cs, .slice u3 n3 k3] rfl rfl _ _ HR9.out size_did rfl (by simp [Value.oneCell']) ?_))
          have hz := setRow_heap w9 w.heap.size _ (#[.bool cb, .slice u1 n1 k1, .slice u2 n2 k2, .int .i64 cx, .int .i64 cy, .string cs, .slice u3 n3 k3] : Array Value) _ _ HR9.out
          rw [HDD.out]
          exact bodyPost_ret (v := .agg #[.bool cb, .slice u1 n1 k1, .slice u2 n2 k2, .int .i64 cx, .int .i64 cy, .string cs, .slice u3 n3 k3]) (results_cell_row Tryd.results31 _ _ w.heap.size _ _ _ _ rfl hz Tryd.underlying35 rfl (by kernel_rfl)) rfl ⟨_, rfl, HD9.out.imp (fun _ hb => hb) (fun _ _ => trivial) (by simp) (fun b hb _ => setRow_other w9 w.heap.size b _ (by rcases hb with hb | hb; (· have h : w.heap.size < b := hb; omega); (· exact hb))), below_row HB9.out (Nat.le_refl _)⟩
        · have d1 : (z.k == 4) = false := by simpa using hz4
          have HG := Lib.hid (show ¬ (z.k ≠ 1 ∧ nameT z = none) from fun h => by
            have h2 := h.2
            unfold nameT at h2
            rcases HKZ.out with h1 | h1 | h1 | h1
            · exact h.1 h1
            · rw [if_pos h1] at h2; cases h2
            · rw [if_neg (by omega), if_pos h1] at h2; cases h2
            · exact hz4 h1)
          have HDD := Lib.hid (show concatD x y z = if 1000 < (sx ++ sy).size then .wr (formalE 3 (⟨#[109, 97, 120, 95, 97, 116, 111, 109, 95, 108, 101, 110, 103, 116, 104]⟩ : ByteArray) zeroT0) else .is 2 (atomT (sx ++ sy)) by
            unfold concatD; rw [if_neg HK.out, HNX.out, HNY.out]; simp only []; rw [if_neg HG.out, formal3 z zeroT0, ByteArray.size_append])
          clear hz4
          go_upto_region 57 with fail
          clear y0 y1 y2 y3 z0 z1 z2 z3 t0 t1 t2 t3 RZ6 HW6
          refine wp_region_rest (by kernel_rfl) ?_
          have hd := (Below.refl w6.heap.size w6).drew
          have HR7 := Lib.hid (row_on HR6.out hd)
          have HB7 := Lib.hid (HB6.out.trans (hd.mono HB6.out.size))
          have HX7 := Lib.hid (HX6.out.below hd)
          have HY7 := Lib.hid (HY6.out.below hd)
          have hrx := row_on RX6.out hd
          have hry := row_on RY6.out hd
          clear hd HR6 HB6 HX6 HY6 RX6 RY6 hs6
          generalize w6.drew = w7 at *
          obtain ⟨y0, y1, y2, y3⟩ := row4 hrx
          obtain ⟨z0, z1, z2, z3⟩ := row4 hry
          have hl5 := (Array.getElem?_eq_some_iff.1 hrx).1
          have hl6 := (Array.getElem?_eq_some_iff.1 hry).1
          clear hrx hry
          refine rest_chainP (fun u => Below w7.heap.size w7 u) 0 3 (.soft 0 (.soft 2 (.one 1 .nil))) (.soft _ (.soft _ (.one _ .nil))) ⟨rfl, ⟨rfl, ⟨rfl, trivial⟩⟩⟩ (by kernel_rfl) (by kernel_rfl) (by kernel_rfl) (by kernel_rfl) (.inr (by kernel_rfl)) (Below.refl _ _) ?_
          refine chainP_soft (a1 := ?ma37) (by kernel_rfl) (by kernel_rfl) ?mh37 ?mr37
          case mh37 =>
            intro u hu E hE
            have e0 := (hu.cell (p := ⟨b5, 0, none⟩) hl5).trans y0
            have e1 := (hu.cell (p := ⟨b5, 1, none⟩) hl5).trans y1
            have e2 := (hu.cell (p := ⟨b5, 2, none⟩) hl5).trans y2
            have e3 := (hu.cell (p := ⟨b5, 3, none⟩) hl5).trans y3
            go_wp2
            rfl
          refine chainP_soft (a1 := ?ma38) (by kernel_rfl) (by kernel_rfl) ?mh38 ?mr38
          case mh38 =>
            intro u hu E hE
            have e0 := (hu.cell (p := ⟨b6, 0, none⟩) hl6).trans z0
            have e1 := (hu.cell (p := ⟨b6, 1, none⟩) hl6).trans z1
            have e2 := (hu.cell (p := ⟨b6, 2, none⟩) hl6).trans z2
            have e3 := (hu.cell (p := ⟨b6, 3, none⟩) hl6).trans z3
            go_wp2
            rfl
          clear y0 y1 y2 y3 z0 z1 z2 z3 hl5 hl6
          refine chainP_one ?_
          intro E hE
          go_wp2_with (refine (r16_name _ _ _ HX7.out HF.out.1 HNX.out).mono ?_; rintro e8 w8 ⟨rfl, hb8⟩)
          refine ⟨hb8, ?_⟩
          have HR8 := Lib.hid (row_on HR7.out hb8)
          have HB8 := Lib.hid (HB7.out.trans (hb8.mono HB7.out.size))
          have HY8 := Lib.hid (HY7.out.below hb8)
          clear hb8 HR7 HB7 HX7 HY7
          refine chainP_nil ?_
          refine rest_lineL 3 7 [_, _, _, _] rfl (by kernel_rfl) (by decide) (by decide) (by kernel_rfl) ?_
          go_wp2_with fail
          refine (r16_name _ _ _ HY8.out HF.out.2 HNY.out).mono ?_
          rintro e5 w5 ⟨rfl, hb5⟩
          have HR5 := Lib.hid (row_on HR8.out hb5)
          have HB5 := Lib.hid (HB8.out.trans (hb5.mono HB8.out.size))
          have hs5 : w.heap.size < w5.heap.size := (Array.getElem?_eq_some_iff.1 HR5.out).1
          have hap : (sx ++ sy).size = sx.size + sy.size := ByteArray.size_append
          have HAP := Lib.hid hap
          clear hb5 HR8 HB8 HY8 hap
          go_wp2_with fail
          refine (r16_atom 2 (sx ++ sy) _ (by have := HAP.out; omega)).mono ?_
          rintro e9 w9 ⟨v9, rfl, hd9, hb9⟩
          obtain ⟨cb, u1, u2, u3, n1, k1, n2, k2, n3, k3, cx, cy, cs, rfl⟩ := hd9.cells
          have HD9 := Lib.hid (hd9.imp (Pi' := fun b => w.heap.size < b) (Pt' := fun b => b ≠ w.heap.size) (fun b hb => by omega) (fun b hb => by rcases hb with hb | hb; (· exact hb.elim); (· omega)) (Nat.le_refl _) (fun _ _ _ => rfl))
          have HR9 := Lib.hid (row_on HR5.out hb9)
          have HB9 := Lib.hid (HB5.out.trans (hb9.mono HB5.out.size))
          clear hd9 hb9
          go_wp2_with (with_reducible show wpList _ _ _ (⟨none, .store _ (.tmp 4) _, _, _, _, _⟩ :: _) _ _
                       go_must (refine wpList_store_row rfl 35 (.tmp 4) (.tmp 221) rfl w.heap.size #[.bool cb, .slice u1 n1 k1, .slice u2 n2 k2, .int .i64 cx, .int .i64 cy, .string cs, .slice u3 n3 k3] rfl rfl _ _ HR9.out size_did rfl (by simp [Value.oneCell']) ?_))
          refine then_rest (rest_end (by decide) ?_)
          go_wp2
          have hz := setRow_heap w9 w.heap.size _ (#[.bool cb, .slice u1 n1 k1, .slice u2 n2 k2, .int .i64 cx, .int .i64 cy, .string cs, .slice u3 n3 k3] : Array Value) _ _ HR9.out
          rw [HDD.out]
          exact bodyPost_ret (v := .agg #[.bool cb, .slice u1 n1 k1, .slice u2 n2 k2, .int .i64 cx, .int .i64 cy, .string cs, .slice u3 n3 k3]) (results_cell_row Tryd.results31 _ _ w.heap.size _ _ _ _ rfl hz Tryd.underlying35 rfl (by kernel_rfl)) rfl ⟨_, rfl, HD9.out.imp (fun _ hb => hb) (fun _ _ => trivial) (by simp) (fun b hb _ => setRow_other w9 w.heap.size b _ (by rcases hb with hb | hb; (· have h : w.heap.size < b := hb; omega); (· exact hb))), below_row HB9.out (Nat.le_refl _)⟩
end Go.Proofs.YtkhchmgdaolojaaDoor.Tms
