
/-
  UnifyThree, plain and walked over the program.
-/
import Derived.Test.YtoklbeogmcdgaaaRnd
namespace Go.Proofs.Ytoklbeogmcdgaaa.Tms
open Go Go.RowKit Go.Proofs.Ytoklbeogmcdgaaa.Reg Go.Proofs.Ytoklbeogmcdgaaa.Rws Go.Proofs.Ytoklbeogmcdgaaa.Maps
set_option linter.unusedVariables false
set_option linter.unusedSimpArgs false

/-- two pairs, one behind the other: what is told -/
def thM (r x : Option Bool) : Option Bool := match r with
  | none => none
  | some false => some false
  | some true => x
noncomputable def thR (S : Sto) (p q p' q' : Nat) : Option Bool := thM (uniR S false p q) (uniR (uniW S false p q) false p' q')
noncomputable def thW (S : Sto) (p q p' q' : Nat) : Sto := uniW (uniW S false p q) false p' q'
theorem thR_yes {S : Sto} {p q p' q' : Nat} (h : thR S p q p' q' = some true) : uniR S false p q = some true ∧ uniR (uniW S false p q) false p' q' = some true := by
  unfold thR at h
  cases e : uniR S false p q with
  | none => rw [e] at h; cases h
  | some o =>
    rw [e] at h
    cases o with
    | false => cases h
    | true => exact ⟨rfl, h⟩
theorem th_alike {S : Sto} (hS : Inv S) {p q p' q' : Nat} (hp : p < S.cells.length) (hq : q < S.cells.length) (hp' : p' < S.cells.length) (hq' : q' < S.cells.length) (h : thR S p q p' q' = some true) :
    Ext S (thW S p q p' q') ∧ (∀ f, AlF (thW S p q p' q') f p q) ∧ ∀ f, AlF (thW S p q p' q') f p' q' := by
  obtain ⟨h1, h2⟩ := thR_yes h
  have x1 := uniW_ext hS (sf := false) hp hq
  have l1 := x1.len
  have x2 := uniW_ext x1.inv (sf := false) (a := p') (b := q') (by omega) (by omega)
  obtain ⟨R, r1, r2⟩ := uni_closed hS hp hq h1
  exact ⟨x1.trans x2, fun f => (r2.ext x1.inv x2).alike f p q r1, uni_alike x1.inv (by omega) (by omega) h2⟩
theorem th_sol {S : Sto} (hS : Inv S) {E : Nat → Nat → Prop} (hE : Sol S E) {p q p' q' : Nat} (hp : p < S.cells.length) (hq : q < S.cells.length) (hp' : p' < S.cells.length) (hq' : q' < S.cells.length) (h1 : E p q) (h2 : E p' q') (hn : thR S p q p' q' ≠ none) : thR S p q p' q' = some true := by
  unfold thR at hn ⊢
  rcases uni_sol hS hE hp hq h1 with ⟨g1, g2⟩ | g1
  · rw [g1] at hn ⊢
    replace hn : uniR (uniW S false p q) false p' q' ≠ none := hn
    show uniR (uniW S false p q) false p' q' = some true
    have x1 := uniW_ext hS (sf := false) hp hq
    have l1 := x1.len
    rcases uni_sol x1.inv g2 (a := p') (b := q') (by omega) (by omega) h2 with ⟨g3, -⟩ | g3
    · exact g3
    · exact absurd g3 hn
  · rw [g1] at hn
    exact absurd rfl hn
/-- in whatever order -/
theorem th_ways {S : Sto} (hS : Inv S) {a b c : Nat} (ha : a < S.cells.length) (hb : b < S.cells.length) (hc : c < S.cells.length) (h1 : thR S a b b c ≠ none) (h2 : thR S b c a b ≠ none) : hasB (thR S a b b c) = hasB (thR S b c a b) := by
  have k1 : thR S a b b c = some true → thR S b c a b = some true := fun h => by
    obtain ⟨x, g1, g2⟩ := th_alike hS ha hb hb hc h
    exact th_sol hS (alike_sol hS x) hb hc ha hb g2 g1 h2
  have k2 : thR S b c a b = some true → thR S a b b c = some true := fun h => by
    obtain ⟨x, g1, g2⟩ := th_alike hS hb hc ha hb h
    exact th_sol hS (alike_sol hS x) ha hb hb hc g2 g1 h1
  cases e1 : hasB (thR S a b b c) with
  | true => rw [k1 (hasB_yes e1)]; rfl
  | false =>
    cases e2 : hasB (thR S b c a b) with
    | true => rw [k2 (hasB_yes e2)] at e1; simp [hasB] at e1
    | false => rfl
theorem th_get {S : Sto} (hS : Inv S) {a b c : Nat} (ha : a < S.cells.length) (hb : b < S.cells.length) (hc : c < S.cells.length) {p q p' q' : Nat} (hw : (p = a ∧ q = b ∧ p' = b ∧ q' = c) ∨ (p = b ∧ q = c ∧ p' = a ∧ q' = b)) (h : thR S p q p' q' = some true) :
    (getT (thW S p q p' q') a = getT (thW S p q p' q') b ∧ getE (thW S p q p' q') a = getE (thW S p q p' q') b) ∧ getT (thW S p q p' q') b = getT (thW S p q p' q') c ∧ getE (thW S p q p' q') b = getE (thW S p q p' q') c := by
  rcases hw with ⟨rfl, rfl, rfl, rfl⟩ | ⟨rfl, rfl, rfl, rfl⟩
  · obtain ⟨-, g1, g2⟩ := th_alike hS ha hb hb hc h
    exact ⟨alike_get g1, alike_get g2⟩
  · obtain ⟨-, g1, g2⟩ := th_alike hS hb hc ha hb h
    exact ⟨alike_get g2, alike_get g1⟩
theorem row2c {w : World} {g : Nat} {y0 y1 : Value} {T : TypeId} {fr : Nat × Nat} (h : w.heap[g]? = some (.cells #[y0, y1] T fr)) : w.cell? ⟨g, 0, none⟩ = some y0 ∧ w.cell? ⟨g, 1, none⟩ = some y1 :=
  ⟨by simpa using cell_of_row w g 0 _ _ _ h, by simpa using cell_of_row w g 1 _ _ _ h⟩
theorem size_i2 : (Try.prog.info? 83).map (·.size) = some 2 := by kernel_rfl
theorem one2 (x y : Int) : (#[Value.int .i64 x, .int .i64 y].all fun v => v.oneCell') = true := by simp [Value.oneCell']
set_option maxRecDepth 100000 in
set_option maxHeartbeats 32000000 in
theorem law_three (A B C : List Pt) (u1 u2 u3 : Value) (w : World) (h1 : PtSl w u1 A) (h2 : PtSl w u2 B) (h3 : PtSl w u3 C) : Calls Try.prog 10 #[.agg #[u1, u2], u3] w (Says true w) := by
  obtain ⟨a1, c1, rfl, hc1, hm1⟩ := h1.form
  obtain ⟨a2, c2, rfl, hc2, hm2⟩ := h2.form
  obtain ⟨a3, c3, rfl, hc3, hm3⟩ := h3.form
  unfold maxLen at hm1 hm2 hm3
  have H1 := Lib.hid h1
  have H2 := Lib.hid h2
  have H3 := Lib.hid h3
  have hbN := below_new w (.cells #[.slice a1 A.length c1, .slice a2 B.length c2] 78 (0, 0))
  have hrN := heap_alloc_new w (.cells #[.slice a1 A.length c1, .slice a2 B.length c2] 78 (0, 0))
  have HBN := Lib.hid hbN
  have HRN := Lib.hid hrN
  clear h1 h2 h3 hbN hrN
  go_enter Try.func10, Try.ntmps10
  go_wp2_with fail
  generalize w.alloc (.cells #[.slice a1 A.length c1, .slice a2 B.length c2] 78 (0, 0)) = w0 at *
  refine (alive9 _).mono ?_
  rintro e1 w1 ⟨rfl, hb1⟩
  have hlt0 : w.heap.size < w0.heap.size := (Array.getElem?_eq_some_iff.1 HRN.out).1
  have hbx := (hb1.block w.heap.size hlt0).trans HRN.out
  have z0 : w1.cell? ⟨w.heap.size, 0, none⟩ = some (.slice a1 A.length c1) := cell_of_row w1 w.heap.size 0 _ _ _ hbx
  have z1 : w1.cell? ⟨w.heap.size, 1, none⟩ = some (.slice a2 B.length c2) := cell_of_row w1 w.heap.size 1 _ _ _ hbx
  have hb1' := HBN.out.trans (hb1.mono HBN.out.size)
  have hbP := below_new w1 (.cells #[.slice a1 A.length c1, .slice a2 B.length c2] 78 (0, 0))
  have hrP := heap_alloc_new w1 (.cells #[.slice a1 A.length c1, .slice a2 B.length c2] 78 (0, 0))
  have hb2 := hb1'.trans (hbP.mono hb1'.size)
  have hbx2 := (hbP.block w.heap.size (by have := hb1.size; omega)).trans hbx
  have hps := PrSl.one (H1.out.below hb2) (H2.out.below hb2) hrP
  have HPS := Lib.hid hps
  have HB2 := Lib.hid hb2
  have HBX := Lib.hid hbx2
  clear hb1 hbx hb1' hbP hrP hb2 hbx2 hps HBN HRN
  go_wp2_with fail
  generalize w1.alloc (.cells #[.slice a1 A.length c1, .slice a2 B.length c2] 78 (0, 0)) = w2 at *
  refine (great9 [(A, B)] _ _ HPS.out).mono ?_
  rintro e3 w3 ⟨rfl, hb3⟩
  have HB3 := Lib.hid (HB2.out.trans (hb3.mono HB2.out.size))
  have HBX3 := Lib.hid ((hb3.block _ (Array.getElem?_eq_some_iff.1 HBX.out).1).trans HBX.out)
  clear hb3 HPS HB2 HBX z0 z1
  cases hg : grP [(A, B)] with
  | true =>
    clear hg
    go_wp2
    go_ret
    exact ⟨rfl, HB3.out⟩
  | false =>
  obtain ⟨hA, hB⟩ := grP_one hg
  clear hg
  go_wp2_with fail
  refine (ref_great C _ _ (H3.out.below HB3.out)).mono ?_
  rintro e4 w4' ⟨rfl, rfl⟩
  by_cases hC : 60 < C.length
  · have d1 : decide (60 < (C.length : Int)) = true := by simp; omega
    go_wp2
    go_ret
    exact ⟨rfl, HB3.out⟩
  have d1 : decide (60 < (C.length : Int)) = false := by simp; omega
  obtain ⟨a, S1, M1, b, S2, M2, c, ec, S3, M3, hp1, hp2, hp3⟩ := three_put A B C hA hB (by omega)
  have sA := goodT_size A
  have sB := goodT_size B
  have sC := goodT_size C
  have haS : a < S3.cells.length := by have := hp1.lt; have := hp2.le.1; have := hp3.le.1; omega
  have hbS : b < S3.cells.length := by have := hp2.lt; have := hp3.le.1; omega
  have hcS : c < S3.cells.length := hp3.lt
  have HP1 := Lib.hid hp1
  have HP2 := Lib.hid hp2
  have HP3 := Lib.hid hp3
  clear hp1 hp2 hp3
  have hbx3 := HBX3.out
  have hl3 : w.heap.size < w3.heap.size := (Array.getElem?_eq_some_iff.1 hbx3).1
  have hbO := below_new w3 (.cells #[.bool false, .bool false] 81 (0, 0))
  have hst : SmRel9 w w.heap.size w3.heap.size (.slice a1 A.length c1) (.slice a2 B.length c2) (thR S3 a b b c) (thR S3 b c a b) (.int .i64 ((0 : Nat) : Int)) (w3.alloc (.cells #[.bool false, .bool false] 81 (0, 0))) :=
    .inl ⟨rfl, HB3.out.trans (hbO.mono HB3.out.size), (hbO.block _ hl3).trans hbx3, heap_alloc_new w3 _, by omega, by omega⟩
  have HST := Lib.hid hst
  clear hst hbO hbx3 HB3 HBX3
  go_wp2
  generalize w3.alloc (.cells #[.bool false, .bool false] 81 (0, 0)) = w4 at *
  generalize w3.heap.size = ob at *
  obtain ⟨pb, hpb⟩ : ∃ pb, pb = w.heap.size := ⟨_, rfl⟩
  rw [← hpb] at HST hl3 ⊢
  have HPBW := Lib.hid hpb
  clear hpb
  go_loopw [37] (fun v37 wr => SmRel9 w pb ob (.slice a1 A.length c1) (.slice a2 B.length c2) (thR S3 a b b c) (thR S3 b c a b) v37 wr) (fun v37 _ => 2 - (intOf v37).toNat)
  case atStart => exact HST.out
  case round =>
    clear HST
    rcases hrel with ⟨rfl, hat⟩ | ⟨rfl, hr0, hat⟩ | ⟨rfl, hr0, hr1, hat⟩
    · have HAT := Lib.hid hat
      have b1 : decide (((0 : Nat) : Int) < 2) = true := by simp
      have b2 : (((0 : Nat) : Int) == 1) = false := by simp
      clear hat
      go_wp2_with fail
      refine (law_NewF w wr HAT.out.bel 1000 (by decide) (by decide)).mono ?_
      rintro e5 w5 ⟨rfl, D5, hl5, hb5, hf5⟩
      have hpl := (Array.getElem?_eq_some_iff.1 HAT.out.box).1
      have hol := (Array.getElem?_eq_some_iff.1 HAT.out.oks).1
      have hR5 : RndAt w wr.heap.size pb ob (.slice a1 A.length c1) (.slice a2 B.length c2) false false st0 D5 w5 :=
        ⟨hl5, ⟨hf5 pb hpl, (hb5.block pb hpl).trans HAT.out.box⟩, ⟨hf5 ob hol, (hb5.block ob hol).trans HAT.out.oks⟩, HAT.out.ne, HAT.out.ob⟩
      obtain ⟨h6, s6, f6, -⟩ := hl5.alloc (.map #[] 0)
      have hv6 : VarsAt w D5 w5.heap.size [] (w5.alloc (.map #[] 0)) := ⟨⟨[], IMapB.made w5, List.Perm.refl _⟩, f6.1, hl5.bel.size⟩
      have hR6 : RndAt w wr.heap.size pb ob (.slice a1 A.length c1) (.slice a2 B.length c2) false false st0 D5 (w5.alloc (.map #[] 0)) := hR5.step h6 s6
      have HR6 := Lib.hid hR6
      have HV6 := Lib.hid hv6
      have npm : pb ≠ w5.heap.size := by have := hb5.size; omega
      have nom : ob ≠ w5.heap.size := by have := hb5.size; omega
      clear hl5 hb5 hf5 h6 s6 f6 hv6 hpl hol hR5 hR6 HAT
      generalize wr.heap.size = p at *
      dsimp only
      go_wp2_with (with_reducible show wpList _ _ _ (⟨some 44, _, _, _, _, _⟩ :: _) _ _
                   refine wpList_imap_made rfl _ rfl ?_
                   generalize w5.alloc (.map #[] 0) = w6 at *
                   generalize w5.heap.size = mb at *
                   obtain ⟨⟨z0, z1⟩, -⟩ := HR6.out.cells)
      refine (ref_good A _ _ (by omega) (H1.out.below HR6.out.law.bel)).mono ?_
      rintro e7 w7 ⟨v7, rfl, hi7, hb7⟩
      obtain ⟨q7, k7, rfl⟩ := hi7.form
      obtain ⟨-, -, n7⟩ := HR6.out.law.below hb7
      have HR7 := Lib.hid (HR6.out.below hb7)
      have HV7 := Lib.hid (HV6.out.below hb7)
      have HI7 := Lib.hid (hi7.low.imp (P' := fun b => ¬ D5 b) (fun b hb => by rcases hb with ⟨hb | hb, hb2⟩; exact hb.elim; exact (n7 b hb hb2).1) fun _ _ _ => rfl)
      clear hi7 hb7 n7 z0 z1 HR6 HV6
      go_wp2_with fail
      have hput := law_PutM HR7.out.law st0_inv HV7.out (by simp) HI7.out (fun b hb => hb) (by omega)
      rw [HP1.out.a, HP1.out.w, HP1.out.n] at hput
      refine hput.mono ?_
      rintro e8 w8 ⟨rfl, D8, hl8, hv8, hz8, hk8⟩
      have HR8 := Lib.hid (HR7.out.put hl8 hk8 npm nom)
      have HV8 := Lib.hid hv8
      obtain ⟨⟨z0, z1⟩, -⟩ := HR8.out.cells
      clear hput hl8 hv8 hz8 hk8 HR7 HV7 HI7
      dsimp only
      go_wp2_with fail
      refine (ref_good B _ _ (by omega) (H2.out.below HR8.out.law.bel)).mono ?_
      rintro e9 w9 ⟨v9, rfl, hi9, hb9⟩
      obtain ⟨q9, k9, rfl⟩ := hi9.form
      obtain ⟨-, -, n9⟩ := HR8.out.law.below hb9
      have HR9 := Lib.hid (HR8.out.below hb9)
      have HV9 := Lib.hid (HV8.out.below hb9)
      have HI9 := Lib.hid (hi9.low.imp (P' := fun b => ¬ D8 b) (fun b hb => by rcases hb with ⟨hb | hb, hb2⟩; exact hb.elim; exact (n9 b hb hb2).1) fun _ _ _ => rfl)
      clear hi9 hb9 n9 z0 z1 HR8 HV8
      go_wp2_with fail
      have hput := law_PutM HR9.out.law HP1.out.inv HV9.out HP1.out.mok.nd HI9.out (fun b hb => hb) (by omega)
      rw [HP2.out.a, HP2.out.w, HP2.out.n] at hput
      refine hput.mono ?_
      rintro e10 w10 ⟨rfl, D10, hl10, hv10, hz10, hk10⟩
      have HR10 := Lib.hid (HR9.out.put hl10 hk10 npm nom)
      have HV10 := Lib.hid hv10
      obtain ⟨⟨z0, z1⟩, -⟩ := HR10.out.cells
      clear hput hl10 hv10 hz10 hk10 HR9 HV9 HI9
      dsimp only
      go_wp2_with fail
      refine (ref_good C _ _ (by omega) (H3.out.below HR10.out.law.bel)).mono ?_
      rintro e11 w11 ⟨v11, rfl, hi11, hb11⟩
      obtain ⟨q11, k11, rfl⟩ := hi11.form
      obtain ⟨-, -, n11⟩ := HR10.out.law.below hb11
      have HR11 := Lib.hid (HR10.out.below hb11)
      have HV11 := Lib.hid (HV10.out.below hb11)
      have HI11 := Lib.hid (hi11.low.imp (P' := fun b => ¬ D10 b) (fun b hb => by rcases hb with ⟨hb | hb, hb2⟩; exact hb.elim; exact (n11 b hb hb2).1) fun _ _ _ => rfl)
      clear hi11 hb11 n11 z0 z1 HR10 HV10
      go_wp2_with fail
      have hput := law_PutM HR11.out.law HP2.out.inv HV11.out HP2.out.mok.nd HI11.out (fun b hb => hb) (by omega)
      rw [HP3.out.a, HP3.out.w, HP3.out.n] at hput
      refine hput.mono ?_
      rintro e12 w12 ⟨rfl, D12, hl12, hv12, hz12, hk12⟩
      have HR12 := Lib.hid (HR11.out.put hl12 hk12 npm nom)
      have HV12 := Lib.hid hv12
      obtain ⟨⟨z0, z1⟩, -⟩ := HR12.out.cells
      clear hput hl12 hv12 hz12 hk12 HR11 HV11 HI11
      dsimp only
      go_upto_region 15 with fail
      have hbE := below_new w12 (.cells #[.int .i64 a, .int .i64 b] 83 (0, 0))
      have hrE := heap_alloc_new w12 (.cells #[.int .i64 a, .int .i64 b] 83 (0, 0))
      have hbF := below_new (w12.alloc (.cells #[.int .i64 a, .int .i64 b] 83 (0, 0))) (.cells #[.int .i64 b, .int .i64 c] 83 (0, 0))
      have hrF := heap_alloc_new (w12.alloc (.cells #[.int .i64 a, .int .i64 b] 83 (0, 0))) (.cells #[.int .i64 b, .int .i64 c] 83 (0, 0))
      have hzE : (w12.alloc (.cells #[.int .i64 a, .int .i64 b] 83 (0, 0))).heap.size = w12.heap.size + 1 := by simp
      rw [hzE] at hrF hbF
      have hbEF := hbE.trans (hbF.mono (Nat.le_succ _))
      have hrE2 := (hbF.block w12.heap.size (by omega)).trans hrE
      have HR13 := Lib.hid (HR12.out.below hbEF)
      obtain ⟨-, -, nEF⟩ := HR12.out.law.below hbEF
      have hfE := nEF w12.heap.size (Nat.le_refl _) (by simp; omega)
      have hfF := nEF (w12.heap.size + 1) (by omega) (by simp)
      have hxo : ob < w12.heap.size ∧ pb < w12.heap.size := ⟨HR12.out.oks.1.2, HR12.out.box.1.2⟩
      have hwx : w.heap.size ≤ w12.heap.size := HR12.out.law.bel.size
      have HRE : Hid (RowF D12 ((w12.alloc (.cells #[.int .i64 a, .int .i64 b] 83 (0, 0))).alloc (.cells #[.int .i64 b, .int .i64 c] 83 (0, 0))) w12.heap.size _) := Lib.hid ⟨hfE, hrE2⟩
      have HRF : Hid (RowF D12 ((w12.alloc (.cells #[.int .i64 a, .int .i64 b] 83 (0, 0))).alloc (.cells #[.int .i64 b, .int .i64 c] 83 (0, 0))) (w12.heap.size + 1) _) := Lib.hid ⟨hfF, hrF⟩
      clear hbE hrE hbF hrF hzE hbEF hrE2 nEF hfE hfF HR12 HV12 z0 z1
      generalize (w12.alloc (.cells #[.int .i64 a, .int .i64 b] 83 (0, 0))).alloc (.cells #[.int .i64 b, .int .i64 c] 83 (0, 0)) = w13 at *
      generalize w12.heap.size = gb at *
      have HR14 := HR13
      clear HR13
      have hw14 : w13 = w13 := rfl
      clear hw14
      obtain ⟨e0, e1⟩ := row2c HRE.out.2
      obtain ⟨r1, hr1⟩ : ∃ r, r = uniR S3 false a b := ⟨_, rfl⟩
      obtain ⟨T1, hT1⟩ : ∃ T, T = uniW S3 false a b := ⟨_, rfl⟩
      have hun := un_Unify HR14.out.law HP3.out.inv a b haS hbS
      rw [← hr1, ← hT1] at hun
      have hext1 := uniW_ext HP3.out.inv (sf := false) haS hbS
      rw [← hT1] at hext1
      have hTa : a < T1.cells.length := by rw [hext1.len]; exact haS
      have hTb : b < T1.cells.length := by rw [hext1.len]; exact hbS
      have hTc : c < T1.cells.length := by rw [hext1.len]; exact hcS
      have HTI := Lib.hid hext1.inv
      have hdef : thR S3 a b b c = thM r1 (uniR T1 false b c) := by rw [hr1, hT1]; rfl
      have HDEF := Lib.hid hdef
      have hthw : thW S3 a b b c = uniW T1 false b c := by rw [hT1]; rfl
      have HTHW := Lib.hid hthw
      clear hext1 hr1 hT1 hdef hthw
      go_wp2_with fail
      refine hun.mono ?_
      rintro e15 w15 ⟨rfl, D15, l15, s15⟩
      have HR15 := Lib.hid (HR14.out.step l15 s15)
      have HRF15 := Lib.hid (HRF.out.step s15)
      clear hun l15 s15 HR14 HRE HRF e0 e1
      cases r1 with
      | none =>
        simp only [hasB, hasE]
        go_wp2
        go_ret
        exact ⟨by simp, HR15.out.law.bel⟩
      | some ok1 =>
      cases ok1 with
      | false =>
        have hTR : thR S3 a b b c = some false := HDEF.out
        have HTR := Lib.hid hTR
        clear hTR
        simp only [hasB, hasE]
        obtain ⟨-, ⟨o0, o1⟩, fz0, fz1⟩ := HR15.out.cells
        have hkeep := HR15.out.keep (o := 0) (v := .bool false) (y0 := false) (y1 := false) (fun h => by rw [h]; rfl)
        have HR16 := Lib.hid hkeep.1
        clear hkeep HR15
        go_wp2_with fail
        clear o0 o1 fz0 fz1
        generalize w15.setCell ⟨ob, 0, none⟩ (.bool false) = w16 at *
        refine (law_GetE HR16.out.law HTI.out a hTa).mono ?_
        rintro e17 w17 ⟨qX, cX, heX, lX, sX, hiX⟩
        obtain ⟨X, hX⟩ : ∃ X, X = getT T1 a := ⟨_, rfl⟩
        obtain ⟨EX, hEX⟩ : ∃ E, E = getE T1 a := ⟨_, rfl⟩
        rw [← hX, ← hEX] at heX
        rw [← hX] at hiX
        obtain rfl : e17 = .returned (.tuple #[.agg #[.int .i64 X.k, .int .i64 X.n, .string X.s, .slice qX X.args.length cX], .int .i64 EX]) := heX
        have hbB := below_new w17 (.cells #[.int .i64 X.k, .int .i64 X.n, .string X.s, .slice qX X.args.length cX] 33 (0, 0))
        have hrB := heap_alloc_new w17 (.cells #[.int .i64 X.k, .int .i64 X.n, .string X.s, .slice qX X.args.length cX] 33 (0, 0))
        obtain ⟨lB, sB', nB⟩ := lX.below hbB
        have HR18 := Lib.hid ((HR16.out.step lX sX).step lB sB')
        have HIX := Lib.hid ((hiX.imp (P' := Free D15 w17) (fun b hb => hb.1) fun _ _ _ => rfl).step sB')
        have HXX : Hid (RowF D15 (w17.alloc (.cells #[.int .i64 X.k, .int .i64 X.n, .string X.s, .slice qX X.args.length cX] 33 (0, 0))) w17.heap.size _) := Lib.hid ⟨nB _ (Nat.le_refl _) (by simp), hrB⟩
        have HEX := Lib.hid hEX
        have HTX := Lib.hid hX
        clear hbB hrB lB nB hiX hEX hX HR16
        clear sB' sX lX
        go_wp2_with fail
        generalize w17.alloc (.cells #[.int .i64 X.k, .int .i64 X.n, .string X.s, .slice qX X.args.length cX] 33 (0, 0)) = w18 at *
        generalize w17.heap.size = bX at *
        refine (law_GetE HR18.out.law HTI.out b hTb).mono ?_
        rintro e19 w19 ⟨qY, cY, heY, lY, sY, hiY⟩
        obtain ⟨Y, hY⟩ : ∃ X, X = getT T1 b := ⟨_, rfl⟩
        obtain ⟨EY, hEY⟩ : ∃ E, E = getE T1 b := ⟨_, rfl⟩
        rw [← hY, ← hEY] at heY
        rw [← hY] at hiY
        obtain rfl : e19 = .returned (.tuple #[.agg #[.int .i64 Y.k, .int .i64 Y.n, .string Y.s, .slice qY Y.args.length cY], .int .i64 EY]) := heY
        have hbB := below_new w19 (.cells #[.int .i64 Y.k, .int .i64 Y.n, .string Y.s, .slice qY Y.args.length cY] 33 (0, 0))
        have hrB := heap_alloc_new w19 (.cells #[.int .i64 Y.k, .int .i64 Y.n, .string Y.s, .slice qY Y.args.length cY] 33 (0, 0))
        obtain ⟨lB, sB', nB⟩ := lY.below hbB
        have HR20 := Lib.hid ((HR18.out.step lY sY).step lB sB')
        have HIY := Lib.hid ((hiY.imp (P' := Free D15 w19) (fun b hb => hb.1) fun _ _ _ => rfl).step sB')
        have HXY : Hid (RowF D15 (w19.alloc (.cells #[.int .i64 Y.k, .int .i64 Y.n, .string Y.s, .slice qY Y.args.length cY] 33 (0, 0))) w19.heap.size _) := Lib.hid ⟨nB _ (Nat.le_refl _) (by simp), hrB⟩
        have HEY := Lib.hid hEY
        have HTY := Lib.hid hY
        replace HIX := Lib.hid ((HIX.out.step sY).step sB')
        replace HXX := Lib.hid ((HXX.out.step sY).step sB')
        clear hbB hrB lB nB hiY hEY hY HR18
        clear sB' sY lY
        go_wp2_with fail
        generalize w19.alloc (.cells #[.int .i64 Y.k, .int .i64 Y.n, .string Y.s, .slice qY Y.args.length cY] 33 (0, 0)) = w20 at *
        generalize w19.heap.size = bY at *
        refine (law_GetE HR20.out.law HTI.out c hTc).mono ?_
        rintro e21 w21 ⟨qZ, cZ, heZ, lZ, sZ, hiZ⟩
        obtain ⟨Z, hZ⟩ : ∃ X, X = getT T1 c := ⟨_, rfl⟩
        obtain ⟨EZ, hEZ⟩ : ∃ E, E = getE T1 c := ⟨_, rfl⟩
        rw [← hZ, ← hEZ] at heZ
        rw [← hZ] at hiZ
        obtain rfl : e21 = .returned (.tuple #[.agg #[.int .i64 Z.k, .int .i64 Z.n, .string Z.s, .slice qZ Z.args.length cZ], .int .i64 EZ]) := heZ
        have hbB := below_new w21 (.cells #[.int .i64 Z.k, .int .i64 Z.n, .string Z.s, .slice qZ Z.args.length cZ] 33 (0, 0))
        have hrB := heap_alloc_new w21 (.cells #[.int .i64 Z.k, .int .i64 Z.n, .string Z.s, .slice qZ Z.args.length cZ] 33 (0, 0))
        obtain ⟨lB, sB', nB⟩ := lZ.below hbB
        have HR22 := Lib.hid ((HR20.out.step lZ sZ).step lB sB')
        have HIZ := Lib.hid ((hiZ.imp (P' := Free D15 w21) (fun b hb => hb.1) fun _ _ _ => rfl).step sB')
        have HXZ : Hid (RowF D15 (w21.alloc (.cells #[.int .i64 Z.k, .int .i64 Z.n, .string Z.s, .slice qZ Z.args.length cZ] 33 (0, 0))) w21.heap.size _) := Lib.hid ⟨nB _ (Nat.le_refl _) (by simp), hrB⟩
        have HEZ := Lib.hid hEZ
        have HTZ := Lib.hid hZ
        replace HIX := Lib.hid ((HIX.out.step sZ).step sB')
        replace HXX := Lib.hid ((HXX.out.step sZ).step sB')
        replace HIY := Lib.hid ((HIY.out.step sZ).step sB')
        replace HXY := Lib.hid ((HXY.out.step sZ).step sB')
        clear hbB hrB lB nB hiZ hEZ hZ HR20
        clear sB' sZ lZ
        go_upto_region 27 with fail
        generalize w21.alloc (.cells #[.int .i64 Z.k, .int .i64 Z.n, .string Z.s, .slice qZ Z.args.length cZ] 33 (0, 0)) = w22 at *
        generalize w21.heap.size = bZ at *
        obtain ⟨-, ⟨o0, o1⟩, -, -⟩ := HR22.out.cells
        obtain ⟨x0, x1, x2, x3⟩ := row4 HXX.out.2
        obtain ⟨y0, y1, y2, y3⟩ := row4 HXY.out.2
        obtain ⟨t0, t1, t2, t3⟩ := row4 HXZ.out.2
        have hrel : SmRel9 w pb ob (.slice a1 A.length c1) (.slice a2 B.length c2) (thR S3 a b b c) (thR S3 b c a b) (.int .i64 ((1 : Nat) : Int)) w22 := by
          unfold SmRel9
          rw [HTR.out]
          exact .inr (.inl ⟨rfl, by simp, HR22.out.end_⟩)
        have HREL := Lib.hid hrel
        clear hrel
        go_wp2
        go_roundw
        case measure => simp [intOf]
        case rel => exact HREL.out
      | true =>
        obtain ⟨f0, f1⟩ := row2c HRF15.out.2
        obtain ⟨r2, hr2⟩ : ∃ r, r = uniR T1 false b c := ⟨_, rfl⟩
        obtain ⟨T2, hT2⟩ : ∃ T, T = uniW T1 false b c := ⟨_, rfl⟩
        have hun := un_Unify HR15.out.law HTI.out b c hTb hTc
        rw [← hr2, ← hT2] at hun
        have hdef : thR S3 a b b c = uniR T1 false b c := HDEF.out
        rw [← hr2] at hdef
        have hthw := HTHW.out
        rw [← hT2] at hthw
        have hext2 := uniW_ext HTI.out (sf := false) hTb hTc
        rw [← hT2] at hext2
        have hg := fun h => th_get HP3.out.inv haS hbS hcS (p := a) (q := b) (p' := b) (q' := c) (.inl ⟨rfl, rfl, rfl, rfl⟩) h
        rw [hthw, hdef] at hg
        have HG := Lib.hid hg
        have HTR := Lib.hid hdef
        replace hTa : a < T2.cells.length := by rw [hext2.len]; exact hTa
        replace hTb : b < T2.cells.length := by rw [hext2.len]; exact hTb
        replace hTc : c < T2.cells.length := by rw [hext2.len]; exact hTc
        replace HTI := Lib.hid hext2.inv
        clear hext2 hr2 hT2 hdef hthw hg HDEF HTHW
        simp only [hasB, hasE]
        go_wp2_with fail
        refine hun.mono ?_
        rintro e16 w16 ⟨rfl, D16, l16, s16⟩
        have HR16 := Lib.hid (HR15.out.step l16 s16)
        clear hun l16 s16 HR15 HRF15 f0 f1
        cases r2 with
        | none =>
          simp only [hasB, hasE]
          go_wp2
          go_ret
          exact ⟨by simp, HR16.out.law.bel⟩
        | some ok2 =>
        cases ok2 with
        | false =>
          simp only [hasB, hasE]
          obtain ⟨-, ⟨o0, o1⟩, fz0, fz1⟩ := HR16.out.cells
          have hkeep := HR16.out.keep (o := 0) (v := .bool false) (y0 := false) (y1 := false) (fun h => by rw [h]; rfl)
          have HR17 := Lib.hid hkeep.1
          clear hkeep HR16
          go_wp2_with fail
          clear o0 o1 fz0 fz1
          generalize w16.setCell ⟨ob, 0, none⟩ (.bool false) = w17 at *
          refine (law_GetE HR17.out.law HTI.out a hTa).mono ?_
          rintro e18 w18 ⟨qX, cX, heX, lX, sX, hiX⟩
          obtain ⟨X, hX⟩ : ∃ X, X = getT T2 a := ⟨_, rfl⟩
          obtain ⟨EX, hEX⟩ : ∃ E, E = getE T2 a := ⟨_, rfl⟩
          rw [← hX, ← hEX] at heX
          rw [← hX] at hiX
          obtain rfl : e18 = .returned (.tuple #[.agg #[.int .i64 X.k, .int .i64 X.n, .string X.s, .slice qX X.args.length cX], .int .i64 EX]) := heX
          have hbB := below_new w18 (.cells #[.int .i64 X.k, .int .i64 X.n, .string X.s, .slice qX X.args.length cX] 33 (0, 0))
          have hrB := heap_alloc_new w18 (.cells #[.int .i64 X.k, .int .i64 X.n, .string X.s, .slice qX X.args.length cX] 33 (0, 0))
          obtain ⟨lB, sB', nB⟩ := lX.below hbB
          have HR19 := Lib.hid ((HR17.out.step lX sX).step lB sB')
          have HIX := Lib.hid ((hiX.imp (P' := Free D16 w18) (fun b hb => hb.1) fun _ _ _ => rfl).step sB')
          have HXX : Hid (RowF D16 (w18.alloc (.cells #[.int .i64 X.k, .int .i64 X.n, .string X.s, .slice qX X.args.length cX] 33 (0, 0))) w18.heap.size _) := Lib.hid ⟨nB _ (Nat.le_refl _) (by simp), hrB⟩
          have HEX := Lib.hid hEX
          have HTX := Lib.hid hX
          clear hbB hrB lB nB hiX hEX hX HR17
          clear sB' sX lX
          go_wp2_with fail
          generalize w18.alloc (.cells #[.int .i64 X.k, .int .i64 X.n, .string X.s, .slice qX X.args.length cX] 33 (0, 0)) = w19 at *
          generalize w18.heap.size = bX at *
          refine (law_GetE HR19.out.law HTI.out b hTb).mono ?_
          rintro e20 w20 ⟨qY, cY, heY, lY, sY, hiY⟩
          obtain ⟨Y, hY⟩ : ∃ X, X = getT T2 b := ⟨_, rfl⟩
          obtain ⟨EY, hEY⟩ : ∃ E, E = getE T2 b := ⟨_, rfl⟩
          rw [← hY, ← hEY] at heY
          rw [← hY] at hiY
          obtain rfl : e20 = .returned (.tuple #[.agg #[.int .i64 Y.k, .int .i64 Y.n, .string Y.s, .slice qY Y.args.length cY], .int .i64 EY]) := heY
          have hbB := below_new w20 (.cells #[.int .i64 Y.k, .int .i64 Y.n, .string Y.s, .slice qY Y.args.length cY] 33 (0, 0))
          have hrB := heap_alloc_new w20 (.cells #[.int .i64 Y.k, .int .i64 Y.n, .string Y.s, .slice qY Y.args.length cY] 33 (0, 0))
          obtain ⟨lB, sB', nB⟩ := lY.below hbB
          have HR21 := Lib.hid ((HR19.out.step lY sY).step lB sB')
          have HIY := Lib.hid ((hiY.imp (P' := Free D16 w20) (fun b hb => hb.1) fun _ _ _ => rfl).step sB')
          have HXY : Hid (RowF D16 (w20.alloc (.cells #[.int .i64 Y.k, .int .i64 Y.n, .string Y.s, .slice qY Y.args.length cY] 33 (0, 0))) w20.heap.size _) := Lib.hid ⟨nB _ (Nat.le_refl _) (by simp), hrB⟩
          have HEY := Lib.hid hEY
          have HTY := Lib.hid hY
          replace HIX := Lib.hid ((HIX.out.step sY).step sB')
          replace HXX := Lib.hid ((HXX.out.step sY).step sB')
          clear hbB hrB lB nB hiY hEY hY HR19
          clear sB' sY lY
          go_wp2_with fail
          generalize w20.alloc (.cells #[.int .i64 Y.k, .int .i64 Y.n, .string Y.s, .slice qY Y.args.length cY] 33 (0, 0)) = w21 at *
          generalize w20.heap.size = bY at *
          refine (law_GetE HR21.out.law HTI.out c hTc).mono ?_
          rintro e22 w22 ⟨qZ, cZ, heZ, lZ, sZ, hiZ⟩
          obtain ⟨Z, hZ⟩ : ∃ X, X = getT T2 c := ⟨_, rfl⟩
          obtain ⟨EZ, hEZ⟩ : ∃ E, E = getE T2 c := ⟨_, rfl⟩
          rw [← hZ, ← hEZ] at heZ
          rw [← hZ] at hiZ
          obtain rfl : e22 = .returned (.tuple #[.agg #[.int .i64 Z.k, .int .i64 Z.n, .string Z.s, .slice qZ Z.args.length cZ], .int .i64 EZ]) := heZ
          have hbB := below_new w22 (.cells #[.int .i64 Z.k, .int .i64 Z.n, .string Z.s, .slice qZ Z.args.length cZ] 33 (0, 0))
          have hrB := heap_alloc_new w22 (.cells #[.int .i64 Z.k, .int .i64 Z.n, .string Z.s, .slice qZ Z.args.length cZ] 33 (0, 0))
          obtain ⟨lB, sB', nB⟩ := lZ.below hbB
          have HR23 := Lib.hid ((HR21.out.step lZ sZ).step lB sB')
          have HIZ := Lib.hid ((hiZ.imp (P' := Free D16 w22) (fun b hb => hb.1) fun _ _ _ => rfl).step sB')
          have HXZ : Hid (RowF D16 (w22.alloc (.cells #[.int .i64 Z.k, .int .i64 Z.n, .string Z.s, .slice qZ Z.args.length cZ] 33 (0, 0))) w22.heap.size _) := Lib.hid ⟨nB _ (Nat.le_refl _) (by simp), hrB⟩
          have HEZ := Lib.hid hEZ
          have HTZ := Lib.hid hZ
          replace HIX := Lib.hid ((HIX.out.step sZ).step sB')
          replace HXX := Lib.hid ((HXX.out.step sZ).step sB')
          replace HIY := Lib.hid ((HIY.out.step sZ).step sB')
          replace HXY := Lib.hid ((HXY.out.step sZ).step sB')
          clear hbB hrB lB nB hiZ hEZ hZ HR21
          clear sB' sZ lZ
          go_upto_region 27 with fail
          generalize w22.alloc (.cells #[.int .i64 Z.k, .int .i64 Z.n, .string Z.s, .slice qZ Z.args.length cZ] 33 (0, 0)) = w23 at *
          generalize w22.heap.size = bZ at *
          obtain ⟨-, ⟨o0, o1⟩, -, -⟩ := HR23.out.cells
          obtain ⟨x0, x1, x2, x3⟩ := row4 HXX.out.2
          obtain ⟨y0, y1, y2, y3⟩ := row4 HXY.out.2
          obtain ⟨t0, t1, t2, t3⟩ := row4 HXZ.out.2
          have hrel : SmRel9 w pb ob (.slice a1 A.length c1) (.slice a2 B.length c2) (thR S3 a b b c) (thR S3 b c a b) (.int .i64 ((1 : Nat) : Int)) w23 := by
            unfold SmRel9
            rw [HTR.out]
            exact .inr (.inl ⟨rfl, by simp, HR23.out.end_⟩)
          have HREL := Lib.hid hrel
          clear hrel
          go_wp2
          go_roundw
          case measure => simp [intOf]
          case rel => exact HREL.out
        | true =>
          have HEQ := Lib.hid (HG.out (by first | rfl | trivial))
          simp only [hasB, hasE]
          obtain ⟨-, ⟨o0, o1⟩, fz0, fz1⟩ := HR16.out.cells
          have hkeep := HR16.out.keep (o := 0) (v := .bool true) (y0 := true) (y1 := false) (fun h => by rw [h]; rfl)
          have HR17 := Lib.hid hkeep.1
          clear hkeep HR16
          go_wp2_with fail
          clear o0 o1 fz0 fz1
          generalize w16.setCell ⟨ob, 0, none⟩ (.bool true) = w17 at *
          refine (law_GetE HR17.out.law HTI.out a hTa).mono ?_
          rintro e18 w18 ⟨qX, cX, heX, lX, sX, hiX⟩
          obtain ⟨X, hX⟩ : ∃ X, X = getT T2 a := ⟨_, rfl⟩
          obtain ⟨EX, hEX⟩ : ∃ E, E = getE T2 a := ⟨_, rfl⟩
          rw [← hX, ← hEX] at heX
          rw [← hX] at hiX
          obtain rfl : e18 = .returned (.tuple #[.agg #[.int .i64 X.k, .int .i64 X.n, .string X.s, .slice qX X.args.length cX], .int .i64 EX]) := heX
          have hbB := below_new w18 (.cells #[.int .i64 X.k, .int .i64 X.n, .string X.s, .slice qX X.args.length cX] 33 (0, 0))
          have hrB := heap_alloc_new w18 (.cells #[.int .i64 X.k, .int .i64 X.n, .string X.s, .slice qX X.args.length cX] 33 (0, 0))
          obtain ⟨lB, sB', nB⟩ := lX.below hbB
          have HR19 := Lib.hid ((HR17.out.step lX sX).step lB sB')
          have HIX := Lib.hid ((hiX.imp (P' := Free D16 w18) (fun b hb => hb.1) fun _ _ _ => rfl).step sB')
          have HXX : Hid (RowF D16 (w18.alloc (.cells #[.int .i64 X.k, .int .i64 X.n, .string X.s, .slice qX X.args.length cX] 33 (0, 0))) w18.heap.size _) := Lib.hid ⟨nB _ (Nat.le_refl _) (by simp), hrB⟩
          have HEX := Lib.hid hEX
          have HTX := Lib.hid hX
          clear hbB hrB lB nB hiX hEX hX HR17
          clear sB' sX lX
          go_wp2_with fail
          generalize w18.alloc (.cells #[.int .i64 X.k, .int .i64 X.n, .string X.s, .slice qX X.args.length cX] 33 (0, 0)) = w19 at *
          generalize w18.heap.size = bX at *
          refine (law_GetE HR19.out.law HTI.out b hTb).mono ?_
          rintro e20 w20 ⟨qY, cY, heY, lY, sY, hiY⟩
          obtain ⟨Y, hY⟩ : ∃ X, X = getT T2 b := ⟨_, rfl⟩
          obtain ⟨EY, hEY⟩ : ∃ E, E = getE T2 b := ⟨_, rfl⟩
          rw [← hY, ← hEY] at heY
          rw [← hY] at hiY
          obtain rfl : e20 = .returned (.tuple #[.agg #[.int .i64 Y.k, .int .i64 Y.n, .string Y.s, .slice qY Y.args.length cY], .int .i64 EY]) := heY
          have hbB := below_new w20 (.cells #[.int .i64 Y.k, .int .i64 Y.n, .string Y.s, .slice qY Y.args.length cY] 33 (0, 0))
          have hrB := heap_alloc_new w20 (.cells #[.int .i64 Y.k, .int .i64 Y.n, .string Y.s, .slice qY Y.args.length cY] 33 (0, 0))
          obtain ⟨lB, sB', nB⟩ := lY.below hbB
          have HR21 := Lib.hid ((HR19.out.step lY sY).step lB sB')
          have HIY := Lib.hid ((hiY.imp (P' := Free D16 w20) (fun b hb => hb.1) fun _ _ _ => rfl).step sB')
          have HXY : Hid (RowF D16 (w20.alloc (.cells #[.int .i64 Y.k, .int .i64 Y.n, .string Y.s, .slice qY Y.args.length cY] 33 (0, 0))) w20.heap.size _) := Lib.hid ⟨nB _ (Nat.le_refl _) (by simp), hrB⟩
          have HEY := Lib.hid hEY
          have HTY := Lib.hid hY
          replace HIX := Lib.hid ((HIX.out.step sY).step sB')
          replace HXX := Lib.hid ((HXX.out.step sY).step sB')
          clear hbB hrB lB nB hiY hEY hY HR19
          clear sB' sY lY
          go_wp2_with fail
          generalize w20.alloc (.cells #[.int .i64 Y.k, .int .i64 Y.n, .string Y.s, .slice qY Y.args.length cY] 33 (0, 0)) = w21 at *
          generalize w20.heap.size = bY at *
          refine (law_GetE HR21.out.law HTI.out c hTc).mono ?_
          rintro e22 w22 ⟨qZ, cZ, heZ, lZ, sZ, hiZ⟩
          obtain ⟨Z, hZ⟩ : ∃ X, X = getT T2 c := ⟨_, rfl⟩
          obtain ⟨EZ, hEZ⟩ : ∃ E, E = getE T2 c := ⟨_, rfl⟩
          rw [← hZ, ← hEZ] at heZ
          rw [← hZ] at hiZ
          obtain rfl : e22 = .returned (.tuple #[.agg #[.int .i64 Z.k, .int .i64 Z.n, .string Z.s, .slice qZ Z.args.length cZ], .int .i64 EZ]) := heZ
          have hbB := below_new w22 (.cells #[.int .i64 Z.k, .int .i64 Z.n, .string Z.s, .slice qZ Z.args.length cZ] 33 (0, 0))
          have hrB := heap_alloc_new w22 (.cells #[.int .i64 Z.k, .int .i64 Z.n, .string Z.s, .slice qZ Z.args.length cZ] 33 (0, 0))
          obtain ⟨lB, sB', nB⟩ := lZ.below hbB
          have HR23 := Lib.hid ((HR21.out.step lZ sZ).step lB sB')
          have HIZ := Lib.hid ((hiZ.imp (P' := Free D16 w22) (fun b hb => hb.1) fun _ _ _ => rfl).step sB')
          have HXZ : Hid (RowF D16 (w22.alloc (.cells #[.int .i64 Z.k, .int .i64 Z.n, .string Z.s, .slice qZ Z.args.length cZ] 33 (0, 0))) w22.heap.size _) := Lib.hid ⟨nB _ (Nat.le_refl _) (by simp), hrB⟩
          have HEZ := Lib.hid hEZ
          have HTZ := Lib.hid hZ
          replace HIX := Lib.hid ((HIX.out.step sZ).step sB')
          replace HXX := Lib.hid ((HXX.out.step sZ).step sB')
          replace HIY := Lib.hid ((HIY.out.step sZ).step sB')
          replace HXY := Lib.hid ((HXY.out.step sZ).step sB')
          clear hbB hrB lB nB hiZ hEZ hZ HR21
          clear sB' sZ lZ
          go_upto_region 27 with fail
          generalize w22.alloc (.cells #[.int .i64 Z.k, .int .i64 Z.n, .string Z.s, .slice qZ Z.args.length cZ] 33 (0, 0)) = w23 at *
          generalize w22.heap.size = bZ at *
          obtain ⟨-, ⟨o0, o1⟩, -, -⟩ := HR23.out.cells
          obtain ⟨x0, x1, x2, x3⟩ := row4 HXX.out.2
          obtain ⟨y0, y1, y2, y3⟩ := row4 HXY.out.2
          obtain ⟨t0, t1, t2, t3⟩ := row4 HXZ.out.2
          obtain ⟨⟨hxy, hexy⟩, hyz, heyz⟩ := HEQ.out
          have hX1 : Y = X := by rw [HTY.out, HTX.out, hxy]
          have hZ1 : Z = X := by rw [HTZ.out, HTX.out, hxy, hyz]
          have hE1 : EY = EX := by rw [HEY.out, HEX.out, hexy]
          have hE2 : EZ = EX := by rw [HEZ.out, HEX.out, hexy, heyz]
          subst hX1 hE1 hZ1 hE2
          have hbe : (EZ != EZ) = false := by simp
          have hsz : Z.size ≤ 1000000000 := by have := getT_size (T2) a; rw [HTX.out]; omega
          clear hxy hexy hyz heyz
          go_wp2_with fail
          refine (ref_same Z.size Z Z _ _ _ _ _ (Nat.le_refl _) hsz HIX.out HIY.out).mono ?_
          rintro e24 w24 ⟨rfl, hb24⟩
          rw [sameT_refl]
          obtain ⟨-, sS, -⟩ := HR23.out.law.below hb24
          replace HR23 := Lib.hid (HR23.out.below hb24)
          replace HIX := Lib.hid (HIX.out.step sS)
          replace HIY := Lib.hid (HIY.out.step sS)
          replace HIZ := Lib.hid (HIZ.out.step sS)
          clear x0 x1 x2 x3 y0 y1 y2 y3 t0 t1 t2 t3 o0 o1
          obtain ⟨y0, y1, y2, y3⟩ := row4 (HXY.out.step sS).2
          obtain ⟨t0, t1, t2, t3⟩ := row4 (HXZ.out.step sS).2
          clear sS hb24
          go_wp2_with fail
          refine (ref_same Z.size Z Z _ _ _ _ _ (Nat.le_refl _) hsz HIY.out HIZ.out).mono ?_
          rintro e25 w25 ⟨rfl, hb25⟩
          rw [sameT_refl]
          replace HR23 := Lib.hid (HR23.out.below hb25)
          clear hb25 y0 y1 y2 y3 t0 t1 t2 t3
          have hrel : SmRel9 w pb ob (.slice a1 A.length c1) (.slice a2 B.length c2) (thR S3 a b b c) (thR S3 b c a b) (.int .i64 ((1 : Nat) : Int)) w25 := by
            unfold SmRel9
            rw [HTR.out]
            exact .inr (.inl ⟨rfl, by simp, HR23.out.end_⟩)
          have HREL := Lib.hid hrel
          clear hrel
          go_wp2
          go_roundw
          case measure => simp [intOf]
          case rel => exact HREL.out
    · have HAT := Lib.hid hat
      have HR0 := Lib.hid hr0
      clear hr0
      have b1 : decide (((1 : Nat) : Int) < 2) = true := by simp
      have b2 : (((1 : Nat) : Int) == 1) = true := by simp
      clear hat
      go_wp2_with fail
      refine (law_NewF w wr HAT.out.bel 1000 (by decide) (by decide)).mono ?_
      rintro e5 w5 ⟨rfl, D5, hl5, hb5, hf5⟩
      have hpl := (Array.getElem?_eq_some_iff.1 HAT.out.box).1
      have hol := (Array.getElem?_eq_some_iff.1 HAT.out.oks).1
      have hR5 : RndAt w wr.heap.size pb ob (.slice a1 A.length c1) (.slice a2 B.length c2) (hasB (thR S3 a b b c)) false st0 D5 w5 :=
        ⟨hl5, ⟨hf5 pb hpl, (hb5.block pb hpl).trans HAT.out.box⟩, ⟨hf5 ob hol, (hb5.block ob hol).trans HAT.out.oks⟩, HAT.out.ne, HAT.out.ob⟩
      obtain ⟨h6, s6, f6, -⟩ := hl5.alloc (.map #[] 0)
      have hv6 : VarsAt w D5 w5.heap.size [] (w5.alloc (.map #[] 0)) := ⟨⟨[], IMapB.made w5, List.Perm.refl _⟩, f6.1, hl5.bel.size⟩
      have hR6 : RndAt w wr.heap.size pb ob (.slice a1 A.length c1) (.slice a2 B.length c2) (hasB (thR S3 a b b c)) false st0 D5 (w5.alloc (.map #[] 0)) := hR5.step h6 s6
      have HR6 := Lib.hid hR6
      have HV6 := Lib.hid hv6
      have npm : pb ≠ w5.heap.size := by have := hb5.size; omega
      have nom : ob ≠ w5.heap.size := by have := hb5.size; omega
      clear hl5 hb5 hf5 h6 s6 f6 hv6 hpl hol hR5 hR6 HAT
      generalize wr.heap.size = p at *
      dsimp only
      go_wp2_with (with_reducible show wpList _ _ _ (⟨some 44, _, _, _, _, _⟩ :: _) _ _
                   refine wpList_imap_made rfl _ rfl ?_
                   generalize w5.alloc (.map #[] 0) = w6 at *
                   generalize w5.heap.size = mb at *
                   obtain ⟨⟨z0, z1⟩, -⟩ := HR6.out.cells)
      refine (ref_good A _ _ (by omega) (H1.out.below HR6.out.law.bel)).mono ?_
      rintro e7 w7 ⟨v7, rfl, hi7, hb7⟩
      obtain ⟨q7, k7, rfl⟩ := hi7.form
      obtain ⟨-, -, n7⟩ := HR6.out.law.below hb7
      have HR7 := Lib.hid (HR6.out.below hb7)
      have HV7 := Lib.hid (HV6.out.below hb7)
      have HI7 := Lib.hid (hi7.low.imp (P' := fun b => ¬ D5 b) (fun b hb => by rcases hb with ⟨hb | hb, hb2⟩; exact hb.elim; exact (n7 b hb hb2).1) fun _ _ _ => rfl)
      clear hi7 hb7 n7 z0 z1 HR6 HV6
      go_wp2_with fail
      have hput := law_PutM HR7.out.law st0_inv HV7.out (by simp) HI7.out (fun b hb => hb) (by omega)
      rw [HP1.out.a, HP1.out.w, HP1.out.n] at hput
      refine hput.mono ?_
      rintro e8 w8 ⟨rfl, D8, hl8, hv8, hz8, hk8⟩
      have HR8 := Lib.hid (HR7.out.put hl8 hk8 npm nom)
      have HV8 := Lib.hid hv8
      obtain ⟨⟨z0, z1⟩, -⟩ := HR8.out.cells
      clear hput hl8 hv8 hz8 hk8 HR7 HV7 HI7
      dsimp only
      go_wp2_with fail
      refine (ref_good B _ _ (by omega) (H2.out.below HR8.out.law.bel)).mono ?_
      rintro e9 w9 ⟨v9, rfl, hi9, hb9⟩
      obtain ⟨q9, k9, rfl⟩ := hi9.form
      obtain ⟨-, -, n9⟩ := HR8.out.law.below hb9
      have HR9 := Lib.hid (HR8.out.below hb9)
      have HV9 := Lib.hid (HV8.out.below hb9)
      have HI9 := Lib.hid (hi9.low.imp (P' := fun b => ¬ D8 b) (fun b hb => by rcases hb with ⟨hb | hb, hb2⟩; exact hb.elim; exact (n9 b hb hb2).1) fun _ _ _ => rfl)
      clear hi9 hb9 n9 z0 z1 HR8 HV8
      go_wp2_with fail
      have hput := law_PutM HR9.out.law HP1.out.inv HV9.out HP1.out.mok.nd HI9.out (fun b hb => hb) (by omega)
      rw [HP2.out.a, HP2.out.w, HP2.out.n] at hput
      refine hput.mono ?_
      rintro e10 w10 ⟨rfl, D10, hl10, hv10, hz10, hk10⟩
      have HR10 := Lib.hid (HR9.out.put hl10 hk10 npm nom)
      have HV10 := Lib.hid hv10
      obtain ⟨⟨z0, z1⟩, -⟩ := HR10.out.cells
      clear hput hl10 hv10 hz10 hk10 HR9 HV9 HI9
      dsimp only
      go_wp2_with fail
      refine (ref_good C _ _ (by omega) (H3.out.below HR10.out.law.bel)).mono ?_
      rintro e11 w11 ⟨v11, rfl, hi11, hb11⟩
      obtain ⟨q11, k11, rfl⟩ := hi11.form
      obtain ⟨-, -, n11⟩ := HR10.out.law.below hb11
      have HR11 := Lib.hid (HR10.out.below hb11)
      have HV11 := Lib.hid (HV10.out.below hb11)
      have HI11 := Lib.hid (hi11.low.imp (P' := fun b => ¬ D10 b) (fun b hb => by rcases hb with ⟨hb | hb, hb2⟩; exact hb.elim; exact (n11 b hb hb2).1) fun _ _ _ => rfl)
      clear hi11 hb11 n11 z0 z1 HR10 HV10
      go_wp2_with fail
      have hput := law_PutM HR11.out.law HP2.out.inv HV11.out HP2.out.mok.nd HI11.out (fun b hb => hb) (by omega)
      rw [HP3.out.a, HP3.out.w, HP3.out.n] at hput
      refine hput.mono ?_
      rintro e12 w12 ⟨rfl, D12, hl12, hv12, hz12, hk12⟩
      have HR12 := Lib.hid (HR11.out.put hl12 hk12 npm nom)
      have HV12 := Lib.hid hv12
      obtain ⟨⟨z0, z1⟩, -⟩ := HR12.out.cells
      clear hput hl12 hv12 hz12 hk12 HR11 HV11 HI11
      dsimp only
      go_upto_region 15 with fail
      have hbE := below_new w12 (.cells #[.int .i64 a, .int .i64 b] 83 (0, 0))
      have hrE := heap_alloc_new w12 (.cells #[.int .i64 a, .int .i64 b] 83 (0, 0))
      have hbF := below_new (w12.alloc (.cells #[.int .i64 a, .int .i64 b] 83 (0, 0))) (.cells #[.int .i64 b, .int .i64 c] 83 (0, 0))
      have hrF := heap_alloc_new (w12.alloc (.cells #[.int .i64 a, .int .i64 b] 83 (0, 0))) (.cells #[.int .i64 b, .int .i64 c] 83 (0, 0))
      have hzE : (w12.alloc (.cells #[.int .i64 a, .int .i64 b] 83 (0, 0))).heap.size = w12.heap.size + 1 := by simp
      rw [hzE] at hrF hbF
      have hbEF := hbE.trans (hbF.mono (Nat.le_succ _))
      have hrE2 := (hbF.block w12.heap.size (by omega)).trans hrE
      have HR13 := Lib.hid (HR12.out.below hbEF)
      obtain ⟨-, -, nEF⟩ := HR12.out.law.below hbEF
      have hfE := nEF w12.heap.size (Nat.le_refl _) (by simp; omega)
      have hfF := nEF (w12.heap.size + 1) (by omega) (by simp)
      have hxo : ob < w12.heap.size ∧ pb < w12.heap.size := ⟨HR12.out.oks.1.2, HR12.out.box.1.2⟩
      have hwx : w.heap.size ≤ w12.heap.size := HR12.out.law.bel.size
      have HRE : Hid (RowF D12 ((w12.alloc (.cells #[.int .i64 a, .int .i64 b] 83 (0, 0))).alloc (.cells #[.int .i64 b, .int .i64 c] 83 (0, 0))) w12.heap.size _) := Lib.hid ⟨hfE, hrE2⟩
      have HRF : Hid (RowF D12 ((w12.alloc (.cells #[.int .i64 a, .int .i64 b] 83 (0, 0))).alloc (.cells #[.int .i64 b, .int .i64 c] 83 (0, 0))) (w12.heap.size + 1) _) := Lib.hid ⟨hfF, hrF⟩
      clear hbE hrE hbF hrF hzE hbEF hrE2 nEF hfE hfF HR12 HV12 z0 z1
      generalize (w12.alloc (.cells #[.int .i64 a, .int .i64 b] 83 (0, 0))).alloc (.cells #[.int .i64 b, .int .i64 c] 83 (0, 0)) = w13 at *
      generalize w12.heap.size = gb at *
      obtain ⟨e0, e1⟩ := row2c HRE.out.2
      obtain ⟨f0, f1⟩ := row2c HRF.out.2
      have hE1 := (setRow_other w13 gb (gb + 1) #[.int .i64 b, .int .i64 c] (by omega)).trans HRF.out.2
      have hE2 := setRow_heap w13 gb _ #[.int .i64 b, .int .i64 c] _ _ HRE.out.2
      have HE1 := Lib.hid hE1
      go_upto_region 17 with (first
        | (with_reducible show wpList _ _ _ (⟨none, .store _ (.tmp 16) _, _, _, _, _⟩ :: _) _ _
           refine wpList_store_row rfl 83 (.tmp 16) (.tmp 79) rfl gb #[.int .i64 b, .int .i64 c] rfl rfl _ _ HRE.out.2 size_i2 rfl (one2 _ _) ?_)
        | (with_reducible show wpList _ _ _ (⟨none, .store _ (.tmp 17) _, _, _, _, _⟩ :: _) _ _
           refine wpList_store_row rfl 83 (.tmp 17) (.tmp 80) rfl (gb + 1) #[.int .i64 a, .int .i64 b] rfl rfl _ _ HE1.out size_i2 rfl (one2 _ _) ?_))
      have hE3 := (setRow_other (w13.setRow gb #[.int .i64 b, .int .i64 c]) (gb + 1) gb #[.int .i64 a, .int .i64 b] (by omega)).trans hE2
      have hE4 := setRow_heap _ (gb + 1) _ #[.int .i64 a, .int .i64 b] _ _ HE1.out
      have hR14 := (HR13.out.set HRE.out.1 hwx (by omega) (by omega) #[.int .i64 b, .int .i64 c]).set (r := gb + 1) ⟨HRF.out.1.1, by have := HRF.out.1.2; simpa [World.setRow] using this⟩ (by omega) (by omega) (by omega) #[.int .i64 a, .int .i64 b]
      have HR14 := Lib.hid hR14
      have hfE : Free D12 ((w13.setRow gb #[.int .i64 b, .int .i64 c]).setRow (gb + 1) #[.int .i64 a, .int .i64 b]) gb := ⟨HRE.out.1.1, by have := HRE.out.1.2; simpa [World.setRow] using this⟩
      have hfF : Free D12 ((w13.setRow gb #[.int .i64 b, .int .i64 c]).setRow (gb + 1) #[.int .i64 a, .int .i64 b]) (gb + 1) := ⟨HRF.out.1.1, by have := HRF.out.1.2; simpa [World.setRow] using this⟩
      replace HRE := Lib.hid (show RowF D12 ((w13.setRow gb #[.int .i64 b, .int .i64 c]).setRow (gb + 1) #[.int .i64 a, .int .i64 b]) gb _ from ⟨hfE, hE3⟩)
      replace HRF := Lib.hid (show RowF D12 ((w13.setRow gb #[.int .i64 b, .int .i64 c]).setRow (gb + 1) #[.int .i64 a, .int .i64 b]) (gb + 1) _ from ⟨hfF, hE4⟩)
      clear e0 e1 f0 f1 hE1 hE2 HE1 hE3 hE4 hR14 hfE hfF HR13
      generalize (w13.setRow gb #[.int .i64 b, .int .i64 c]).setRow (gb + 1) #[.int .i64 a, .int .i64 b] = w14 at *
      obtain ⟨e0, e1⟩ := row2c HRE.out.2
      obtain ⟨r1, hr1⟩ : ∃ r, r = uniR S3 false b c := ⟨_, rfl⟩
      obtain ⟨T1, hT1⟩ : ∃ T, T = uniW S3 false b c := ⟨_, rfl⟩
      have hun := un_Unify HR14.out.law HP3.out.inv b c hbS hcS
      rw [← hr1, ← hT1] at hun
      have hext1 := uniW_ext HP3.out.inv (sf := false) hbS hcS
      rw [← hT1] at hext1
      have hTa : a < T1.cells.length := by rw [hext1.len]; exact haS
      have hTb : b < T1.cells.length := by rw [hext1.len]; exact hbS
      have hTc : c < T1.cells.length := by rw [hext1.len]; exact hcS
      have HTI := Lib.hid hext1.inv
      have hdef : thR S3 b c a b = thM r1 (uniR T1 false a b) := by rw [hr1, hT1]; rfl
      have HDEF := Lib.hid hdef
      have hthw : thW S3 b c a b = uniW T1 false a b := by rw [hT1]; rfl
      have HTHW := Lib.hid hthw
      clear hext1 hr1 hT1 hdef hthw
      go_wp2_with fail
      refine hun.mono ?_
      rintro e15 w15 ⟨rfl, D15, l15, s15⟩
      have HR15 := Lib.hid (HR14.out.step l15 s15)
      have HRF15 := Lib.hid (HRF.out.step s15)
      clear hun l15 s15 HR14 HRE HRF e0 e1
      cases r1 with
      | none =>
        simp only [hasB, hasE]
        go_wp2
        go_ret
        exact ⟨by simp, HR15.out.law.bel⟩
      | some ok1 =>
      cases ok1 with
      | false =>
        have hTR : thR S3 b c a b = some false := HDEF.out
        have HTR := Lib.hid hTR
        clear hTR
        simp only [hasB, hasE]
        obtain ⟨-, ⟨o0, o1⟩, fz0, fz1⟩ := HR15.out.cells
        have hkeep := HR15.out.keep (o := 1) (v := .bool false) (y0 := (hasB (thR S3 a b b c))) (y1 := false) (fun h => by rw [h]; rfl)
        have HR16 := Lib.hid hkeep.1
        clear hkeep HR15
        go_wp2_with fail
        clear o0 o1 fz0 fz1
        generalize w15.setCell ⟨ob, 1, none⟩ (.bool false) = w16 at *
        refine (law_GetE HR16.out.law HTI.out a hTa).mono ?_
        rintro e17 w17 ⟨qX, cX, heX, lX, sX, hiX⟩
        obtain ⟨X, hX⟩ : ∃ X, X = getT T1 a := ⟨_, rfl⟩
        obtain ⟨EX, hEX⟩ : ∃ E, E = getE T1 a := ⟨_, rfl⟩
        rw [← hX, ← hEX] at heX
        rw [← hX] at hiX
        obtain rfl : e17 = .returned (.tuple #[.agg #[.int .i64 X.k, .int .i64 X.n, .string X.s, .slice qX X.args.length cX], .int .i64 EX]) := heX
        have hbB := below_new w17 (.cells #[.int .i64 X.k, .int .i64 X.n, .string X.s, .slice qX X.args.length cX] 33 (0, 0))
        have hrB := heap_alloc_new w17 (.cells #[.int .i64 X.k, .int .i64 X.n, .string X.s, .slice qX X.args.length cX] 33 (0, 0))
        obtain ⟨lB, sB', nB⟩ := lX.below hbB
        have HR18 := Lib.hid ((HR16.out.step lX sX).step lB sB')
        have HIX := Lib.hid ((hiX.imp (P' := Free D15 w17) (fun b hb => hb.1) fun _ _ _ => rfl).step sB')
        have HXX : Hid (RowF D15 (w17.alloc (.cells #[.int .i64 X.k, .int .i64 X.n, .string X.s, .slice qX X.args.length cX] 33 (0, 0))) w17.heap.size _) := Lib.hid ⟨nB _ (Nat.le_refl _) (by simp), hrB⟩
        have HEX := Lib.hid hEX
        have HTX := Lib.hid hX
        clear hbB hrB lB nB hiX hEX hX HR16
        clear sB' sX lX
        go_wp2_with fail
        generalize w17.alloc (.cells #[.int .i64 X.k, .int .i64 X.n, .string X.s, .slice qX X.args.length cX] 33 (0, 0)) = w18 at *
        generalize w17.heap.size = bX at *
        refine (law_GetE HR18.out.law HTI.out b hTb).mono ?_
        rintro e19 w19 ⟨qY, cY, heY, lY, sY, hiY⟩
        obtain ⟨Y, hY⟩ : ∃ X, X = getT T1 b := ⟨_, rfl⟩
        obtain ⟨EY, hEY⟩ : ∃ E, E = getE T1 b := ⟨_, rfl⟩
        rw [← hY, ← hEY] at heY
        rw [← hY] at hiY
        obtain rfl : e19 = .returned (.tuple #[.agg #[.int .i64 Y.k, .int .i64 Y.n, .string Y.s, .slice qY Y.args.length cY], .int .i64 EY]) := heY
        have hbB := below_new w19 (.cells #[.int .i64 Y.k, .int .i64 Y.n, .string Y.s, .slice qY Y.args.length cY] 33 (0, 0))
        have hrB := heap_alloc_new w19 (.cells #[.int .i64 Y.k, .int .i64 Y.n, .string Y.s, .slice qY Y.args.length cY] 33 (0, 0))
        obtain ⟨lB, sB', nB⟩ := lY.below hbB
        have HR20 := Lib.hid ((HR18.out.step lY sY).step lB sB')
        have HIY := Lib.hid ((hiY.imp (P' := Free D15 w19) (fun b hb => hb.1) fun _ _ _ => rfl).step sB')
        have HXY : Hid (RowF D15 (w19.alloc (.cells #[.int .i64 Y.k, .int .i64 Y.n, .string Y.s, .slice qY Y.args.length cY] 33 (0, 0))) w19.heap.size _) := Lib.hid ⟨nB _ (Nat.le_refl _) (by simp), hrB⟩
        have HEY := Lib.hid hEY
        have HTY := Lib.hid hY
        replace HIX := Lib.hid ((HIX.out.step sY).step sB')
        replace HXX := Lib.hid ((HXX.out.step sY).step sB')
        clear hbB hrB lB nB hiY hEY hY HR18
        clear sB' sY lY
        go_wp2_with fail
        generalize w19.alloc (.cells #[.int .i64 Y.k, .int .i64 Y.n, .string Y.s, .slice qY Y.args.length cY] 33 (0, 0)) = w20 at *
        generalize w19.heap.size = bY at *
        refine (law_GetE HR20.out.law HTI.out c hTc).mono ?_
        rintro e21 w21 ⟨qZ, cZ, heZ, lZ, sZ, hiZ⟩
        obtain ⟨Z, hZ⟩ : ∃ X, X = getT T1 c := ⟨_, rfl⟩
        obtain ⟨EZ, hEZ⟩ : ∃ E, E = getE T1 c := ⟨_, rfl⟩
        rw [← hZ, ← hEZ] at heZ
        rw [← hZ] at hiZ
        obtain rfl : e21 = .returned (.tuple #[.agg #[.int .i64 Z.k, .int .i64 Z.n, .string Z.s, .slice qZ Z.args.length cZ], .int .i64 EZ]) := heZ
        have hbB := below_new w21 (.cells #[.int .i64 Z.k, .int .i64 Z.n, .string Z.s, .slice qZ Z.args.length cZ] 33 (0, 0))
        have hrB := heap_alloc_new w21 (.cells #[.int .i64 Z.k, .int .i64 Z.n, .string Z.s, .slice qZ Z.args.length cZ] 33 (0, 0))
        obtain ⟨lB, sB', nB⟩ := lZ.below hbB
        have HR22 := Lib.hid ((HR20.out.step lZ sZ).step lB sB')
        have HIZ := Lib.hid ((hiZ.imp (P' := Free D15 w21) (fun b hb => hb.1) fun _ _ _ => rfl).step sB')
        have HXZ : Hid (RowF D15 (w21.alloc (.cells #[.int .i64 Z.k, .int .i64 Z.n, .string Z.s, .slice qZ Z.args.length cZ] 33 (0, 0))) w21.heap.size _) := Lib.hid ⟨nB _ (Nat.le_refl _) (by simp), hrB⟩
        have HEZ := Lib.hid hEZ
        have HTZ := Lib.hid hZ
        replace HIX := Lib.hid ((HIX.out.step sZ).step sB')
        replace HXX := Lib.hid ((HXX.out.step sZ).step sB')
        replace HIY := Lib.hid ((HIY.out.step sZ).step sB')
        replace HXY := Lib.hid ((HXY.out.step sZ).step sB')
        clear hbB hrB lB nB hiZ hEZ hZ HR20
        clear sB' sZ lZ
        go_upto_region 27 with fail
        generalize w21.alloc (.cells #[.int .i64 Z.k, .int .i64 Z.n, .string Z.s, .slice qZ Z.args.length cZ] 33 (0, 0)) = w22 at *
        generalize w21.heap.size = bZ at *
        obtain ⟨-, ⟨o0, o1⟩, -, -⟩ := HR22.out.cells
        obtain ⟨x0, x1, x2, x3⟩ := row4 HXX.out.2
        obtain ⟨y0, y1, y2, y3⟩ := row4 HXY.out.2
        obtain ⟨t0, t1, t2, t3⟩ := row4 HXZ.out.2
        have hrel : SmRel9 w pb ob (.slice a1 A.length c1) (.slice a2 B.length c2) (thR S3 a b b c) (thR S3 b c a b) (.int .i64 ((2 : Nat) : Int)) w22 := by
          unfold SmRel9
          rw [HTR.out]
          exact .inr (.inr ⟨rfl, HR0.out, by simp, HR22.out.end_⟩)
        have HREL := Lib.hid hrel
        clear hrel
        go_wp2
        go_roundw
        case measure => simp [intOf]
        case rel => exact HREL.out
      | true =>
        obtain ⟨f0, f1⟩ := row2c HRF15.out.2
        obtain ⟨r2, hr2⟩ : ∃ r, r = uniR T1 false a b := ⟨_, rfl⟩
        obtain ⟨T2, hT2⟩ : ∃ T, T = uniW T1 false a b := ⟨_, rfl⟩
        have hun := un_Unify HR15.out.law HTI.out a b hTa hTb
        rw [← hr2, ← hT2] at hun
        have hdef : thR S3 b c a b = uniR T1 false a b := HDEF.out
        rw [← hr2] at hdef
        have hthw := HTHW.out
        rw [← hT2] at hthw
        have hext2 := uniW_ext HTI.out (sf := false) hTa hTb
        rw [← hT2] at hext2
        have hg := fun h => th_get HP3.out.inv haS hbS hcS (p := b) (q := c) (p' := a) (q' := b) (.inr ⟨rfl, rfl, rfl, rfl⟩) h
        rw [hthw, hdef] at hg
        have HG := Lib.hid hg
        have HTR := Lib.hid hdef
        replace hTa : a < T2.cells.length := by rw [hext2.len]; exact hTa
        replace hTb : b < T2.cells.length := by rw [hext2.len]; exact hTb
        replace hTc : c < T2.cells.length := by rw [hext2.len]; exact hTc
        replace HTI := Lib.hid hext2.inv
        clear hext2 hr2 hT2 hdef hthw hg HDEF HTHW
        simp only [hasB, hasE]
        go_wp2_with fail
        refine hun.mono ?_
        rintro e16 w16 ⟨rfl, D16, l16, s16⟩
        have HR16 := Lib.hid (HR15.out.step l16 s16)
        clear hun l16 s16 HR15 HRF15 f0 f1
        cases r2 with
        | none =>
          simp only [hasB, hasE]
          go_wp2
          go_ret
          exact ⟨by simp, HR16.out.law.bel⟩
        | some ok2 =>
        cases ok2 with
        | false =>
          simp only [hasB, hasE]
          obtain ⟨-, ⟨o0, o1⟩, fz0, fz1⟩ := HR16.out.cells
          have hkeep := HR16.out.keep (o := 1) (v := .bool false) (y0 := (hasB (thR S3 a b b c))) (y1 := false) (fun h => by rw [h]; rfl)
          have HR17 := Lib.hid hkeep.1
          clear hkeep HR16
          go_wp2_with fail
          clear o0 o1 fz0 fz1
          generalize w16.setCell ⟨ob, 1, none⟩ (.bool false) = w17 at *
          refine (law_GetE HR17.out.law HTI.out a hTa).mono ?_
          rintro e18 w18 ⟨qX, cX, heX, lX, sX, hiX⟩
          obtain ⟨X, hX⟩ : ∃ X, X = getT T2 a := ⟨_, rfl⟩
          obtain ⟨EX, hEX⟩ : ∃ E, E = getE T2 a := ⟨_, rfl⟩
          rw [← hX, ← hEX] at heX
          rw [← hX] at hiX
          obtain rfl : e18 = .returned (.tuple #[.agg #[.int .i64 X.k, .int .i64 X.n, .string X.s, .slice qX X.args.length cX], .int .i64 EX]) := heX
          have hbB := below_new w18 (.cells #[.int .i64 X.k, .int .i64 X.n, .string X.s, .slice qX X.args.length cX] 33 (0, 0))
          have hrB := heap_alloc_new w18 (.cells #[.int .i64 X.k, .int .i64 X.n, .string X.s, .slice qX X.args.length cX] 33 (0, 0))
          obtain ⟨lB, sB', nB⟩ := lX.below hbB
          have HR19 := Lib.hid ((HR17.out.step lX sX).step lB sB')
          have HIX := Lib.hid ((hiX.imp (P' := Free D16 w18) (fun b hb => hb.1) fun _ _ _ => rfl).step sB')
          have HXX : Hid (RowF D16 (w18.alloc (.cells #[.int .i64 X.k, .int .i64 X.n, .string X.s, .slice qX X.args.length cX] 33 (0, 0))) w18.heap.size _) := Lib.hid ⟨nB _ (Nat.le_refl _) (by simp), hrB⟩
          have HEX := Lib.hid hEX
          have HTX := Lib.hid hX
          clear hbB hrB lB nB hiX hEX hX HR17
          clear sB' sX lX
          go_wp2_with fail
          generalize w18.alloc (.cells #[.int .i64 X.k, .int .i64 X.n, .string X.s, .slice qX X.args.length cX] 33 (0, 0)) = w19 at *
          generalize w18.heap.size = bX at *
          refine (law_GetE HR19.out.law HTI.out b hTb).mono ?_
          rintro e20 w20 ⟨qY, cY, heY, lY, sY, hiY⟩
          obtain ⟨Y, hY⟩ : ∃ X, X = getT T2 b := ⟨_, rfl⟩
          obtain ⟨EY, hEY⟩ : ∃ E, E = getE T2 b := ⟨_, rfl⟩
          rw [← hY, ← hEY] at heY
          rw [← hY] at hiY
          obtain rfl : e20 = .returned (.tuple #[.agg #[.int .i64 Y.k, .int .i64 Y.n, .string Y.s, .slice qY Y.args.length cY], .int .i64 EY]) := heY
          have hbB := below_new w20 (.cells #[.int .i64 Y.k, .int .i64 Y.n, .string Y.s, .slice qY Y.args.length cY] 33 (0, 0))
          have hrB := heap_alloc_new w20 (.cells #[.int .i64 Y.k, .int .i64 Y.n, .string Y.s, .slice qY Y.args.length cY] 33 (0, 0))
          obtain ⟨lB, sB', nB⟩ := lY.below hbB
          have HR21 := Lib.hid ((HR19.out.step lY sY).step lB sB')
          have HIY := Lib.hid ((hiY.imp (P' := Free D16 w20) (fun b hb => hb.1) fun _ _ _ => rfl).step sB')
          have HXY : Hid (RowF D16 (w20.alloc (.cells #[.int .i64 Y.k, .int .i64 Y.n, .string Y.s, .slice qY Y.args.length cY] 33 (0, 0))) w20.heap.size _) := Lib.hid ⟨nB _ (Nat.le_refl _) (by simp), hrB⟩
          have HEY := Lib.hid hEY
          have HTY := Lib.hid hY
          replace HIX := Lib.hid ((HIX.out.step sY).step sB')
          replace HXX := Lib.hid ((HXX.out.step sY).step sB')
          clear hbB hrB lB nB hiY hEY hY HR19
          clear sB' sY lY
          go_wp2_with fail
          generalize w20.alloc (.cells #[.int .i64 Y.k, .int .i64 Y.n, .string Y.s, .slice qY Y.args.length cY] 33 (0, 0)) = w21 at *
          generalize w20.heap.size = bY at *
          refine (law_GetE HR21.out.law HTI.out c hTc).mono ?_
          rintro e22 w22 ⟨qZ, cZ, heZ, lZ, sZ, hiZ⟩
          obtain ⟨Z, hZ⟩ : ∃ X, X = getT T2 c := ⟨_, rfl⟩
          obtain ⟨EZ, hEZ⟩ : ∃ E, E = getE T2 c := ⟨_, rfl⟩
          rw [← hZ, ← hEZ] at heZ
          rw [← hZ] at hiZ
          obtain rfl : e22 = .returned (.tuple #[.agg #[.int .i64 Z.k, .int .i64 Z.n, .string Z.s, .slice qZ Z.args.length cZ], .int .i64 EZ]) := heZ
          have hbB := below_new w22 (.cells #[.int .i64 Z.k, .int .i64 Z.n, .string Z.s, .slice qZ Z.args.length cZ] 33 (0, 0))
          have hrB := heap_alloc_new w22 (.cells #[.int .i64 Z.k, .int .i64 Z.n, .string Z.s, .slice qZ Z.args.length cZ] 33 (0, 0))
          obtain ⟨lB, sB', nB⟩ := lZ.below hbB
          have HR23 := Lib.hid ((HR21.out.step lZ sZ).step lB sB')
          have HIZ := Lib.hid ((hiZ.imp (P' := Free D16 w22) (fun b hb => hb.1) fun _ _ _ => rfl).step sB')
          have HXZ : Hid (RowF D16 (w22.alloc (.cells #[.int .i64 Z.k, .int .i64 Z.n, .string Z.s, .slice qZ Z.args.length cZ] 33 (0, 0))) w22.heap.size _) := Lib.hid ⟨nB _ (Nat.le_refl _) (by simp), hrB⟩
          have HEZ := Lib.hid hEZ
          have HTZ := Lib.hid hZ
          replace HIX := Lib.hid ((HIX.out.step sZ).step sB')
          replace HXX := Lib.hid ((HXX.out.step sZ).step sB')
          replace HIY := Lib.hid ((HIY.out.step sZ).step sB')
          replace HXY := Lib.hid ((HXY.out.step sZ).step sB')
          clear hbB hrB lB nB hiZ hEZ hZ HR21
          clear sB' sZ lZ
          go_upto_region 27 with fail
          generalize w22.alloc (.cells #[.int .i64 Z.k, .int .i64 Z.n, .string Z.s, .slice qZ Z.args.length cZ] 33 (0, 0)) = w23 at *
          generalize w22.heap.size = bZ at *
          obtain ⟨-, ⟨o0, o1⟩, -, -⟩ := HR23.out.cells
          obtain ⟨x0, x1, x2, x3⟩ := row4 HXX.out.2
          obtain ⟨y0, y1, y2, y3⟩ := row4 HXY.out.2
          obtain ⟨t0, t1, t2, t3⟩ := row4 HXZ.out.2
          have hrel : SmRel9 w pb ob (.slice a1 A.length c1) (.slice a2 B.length c2) (thR S3 a b b c) (thR S3 b c a b) (.int .i64 ((2 : Nat) : Int)) w23 := by
            unfold SmRel9
            rw [HTR.out]
            exact .inr (.inr ⟨rfl, HR0.out, by simp, HR23.out.end_⟩)
          have HREL := Lib.hid hrel
          clear hrel
          go_wp2
          go_roundw
          case measure => simp [intOf]
          case rel => exact HREL.out
        | true =>
          have HEQ := Lib.hid (HG.out (by first | rfl | trivial))
          simp only [hasB, hasE]
          obtain ⟨-, ⟨o0, o1⟩, fz0, fz1⟩ := HR16.out.cells
          have hkeep := HR16.out.keep (o := 1) (v := .bool true) (y0 := (hasB (thR S3 a b b c))) (y1 := true) (fun h => by rw [h]; rfl)
          have HR17 := Lib.hid hkeep.1
          clear hkeep HR16
          go_wp2_with fail
          clear o0 o1 fz0 fz1
          generalize w16.setCell ⟨ob, 1, none⟩ (.bool true) = w17 at *
          refine (law_GetE HR17.out.law HTI.out a hTa).mono ?_
          rintro e18 w18 ⟨qX, cX, heX, lX, sX, hiX⟩
          obtain ⟨X, hX⟩ : ∃ X, X = getT T2 a := ⟨_, rfl⟩
          obtain ⟨EX, hEX⟩ : ∃ E, E = getE T2 a := ⟨_, rfl⟩
          rw [← hX, ← hEX] at heX
          rw [← hX] at hiX
          obtain rfl : e18 = .returned (.tuple #[.agg #[.int .i64 X.k, .int .i64 X.n, .string X.s, .slice qX X.args.length cX], .int .i64 EX]) := heX
          have hbB := below_new w18 (.cells #[.int .i64 X.k, .int .i64 X.n, .string X.s, .slice qX X.args.length cX] 33 (0, 0))
          have hrB := heap_alloc_new w18 (.cells #[.int .i64 X.k, .int .i64 X.n, .string X.s, .slice qX X.args.length cX] 33 (0, 0))
          obtain ⟨lB, sB', nB⟩ := lX.below hbB
          have HR19 := Lib.hid ((HR17.out.step lX sX).step lB sB')
          have HIX := Lib.hid ((hiX.imp (P' := Free D16 w18) (fun b hb => hb.1) fun _ _ _ => rfl).step sB')
          have HXX : Hid (RowF D16 (w18.alloc (.cells #[.int .i64 X.k, .int .i64 X.n, .string X.s, .slice qX X.args.length cX] 33 (0, 0))) w18.heap.size _) := Lib.hid ⟨nB _ (Nat.le_refl _) (by simp), hrB⟩
          have HEX := Lib.hid hEX
          have HTX := Lib.hid hX
          clear hbB hrB lB nB hiX hEX hX HR17
          clear sB' sX lX
          go_wp2_with fail
          generalize w18.alloc (.cells #[.int .i64 X.k, .int .i64 X.n, .string X.s, .slice qX X.args.length cX] 33 (0, 0)) = w19 at *
          generalize w18.heap.size = bX at *
          refine (law_GetE HR19.out.law HTI.out b hTb).mono ?_
          rintro e20 w20 ⟨qY, cY, heY, lY, sY, hiY⟩
          obtain ⟨Y, hY⟩ : ∃ X, X = getT T2 b := ⟨_, rfl⟩
          obtain ⟨EY, hEY⟩ : ∃ E, E = getE T2 b := ⟨_, rfl⟩
          rw [← hY, ← hEY] at heY
          rw [← hY] at hiY
          obtain rfl : e20 = .returned (.tuple #[.agg #[.int .i64 Y.k, .int .i64 Y.n, .string Y.s, .slice qY Y.args.length cY], .int .i64 EY]) := heY
          have hbB := below_new w20 (.cells #[.int .i64 Y.k, .int .i64 Y.n, .string Y.s, .slice qY Y.args.length cY] 33 (0, 0))
          have hrB := heap_alloc_new w20 (.cells #[.int .i64 Y.k, .int .i64 Y.n, .string Y.s, .slice qY Y.args.length cY] 33 (0, 0))
          obtain ⟨lB, sB', nB⟩ := lY.below hbB
          have HR21 := Lib.hid ((HR19.out.step lY sY).step lB sB')
          have HIY := Lib.hid ((hiY.imp (P' := Free D16 w20) (fun b hb => hb.1) fun _ _ _ => rfl).step sB')
          have HXY : Hid (RowF D16 (w20.alloc (.cells #[.int .i64 Y.k, .int .i64 Y.n, .string Y.s, .slice qY Y.args.length cY] 33 (0, 0))) w20.heap.size _) := Lib.hid ⟨nB _ (Nat.le_refl _) (by simp), hrB⟩
          have HEY := Lib.hid hEY
          have HTY := Lib.hid hY
          replace HIX := Lib.hid ((HIX.out.step sY).step sB')
          replace HXX := Lib.hid ((HXX.out.step sY).step sB')
          clear hbB hrB lB nB hiY hEY hY HR19
          clear sB' sY lY
          go_wp2_with fail
          generalize w20.alloc (.cells #[.int .i64 Y.k, .int .i64 Y.n, .string Y.s, .slice qY Y.args.length cY] 33 (0, 0)) = w21 at *
          generalize w20.heap.size = bY at *
          refine (law_GetE HR21.out.law HTI.out c hTc).mono ?_
          rintro e22 w22 ⟨qZ, cZ, heZ, lZ, sZ, hiZ⟩
          obtain ⟨Z, hZ⟩ : ∃ X, X = getT T2 c := ⟨_, rfl⟩
          obtain ⟨EZ, hEZ⟩ : ∃ E, E = getE T2 c := ⟨_, rfl⟩
          rw [← hZ, ← hEZ] at heZ
          rw [← hZ] at hiZ
          obtain rfl : e22 = .returned (.tuple #[.agg #[.int .i64 Z.k, .int .i64 Z.n, .string Z.s, .slice qZ Z.args.length cZ], .int .i64 EZ]) := heZ
          have hbB := below_new w22 (.cells #[.int .i64 Z.k, .int .i64 Z.n, .string Z.s, .slice qZ Z.args.length cZ] 33 (0, 0))
          have hrB := heap_alloc_new w22 (.cells #[.int .i64 Z.k, .int .i64 Z.n, .string Z.s, .slice qZ Z.args.length cZ] 33 (0, 0))
          obtain ⟨lB, sB', nB⟩ := lZ.below hbB
          have HR23 := Lib.hid ((HR21.out.step lZ sZ).step lB sB')
          have HIZ := Lib.hid ((hiZ.imp (P' := Free D16 w22) (fun b hb => hb.1) fun _ _ _ => rfl).step sB')
          have HXZ : Hid (RowF D16 (w22.alloc (.cells #[.int .i64 Z.k, .int .i64 Z.n, .string Z.s, .slice qZ Z.args.length cZ] 33 (0, 0))) w22.heap.size _) := Lib.hid ⟨nB _ (Nat.le_refl _) (by simp), hrB⟩
          have HEZ := Lib.hid hEZ
          have HTZ := Lib.hid hZ
          replace HIX := Lib.hid ((HIX.out.step sZ).step sB')
          replace HXX := Lib.hid ((HXX.out.step sZ).step sB')
          replace HIY := Lib.hid ((HIY.out.step sZ).step sB')
          replace HXY := Lib.hid ((HXY.out.step sZ).step sB')
          clear hbB hrB lB nB hiZ hEZ hZ HR21
          clear sB' sZ lZ
          go_upto_region 27 with fail
          generalize w22.alloc (.cells #[.int .i64 Z.k, .int .i64 Z.n, .string Z.s, .slice qZ Z.args.length cZ] 33 (0, 0)) = w23 at *
          generalize w22.heap.size = bZ at *
          obtain ⟨-, ⟨o0, o1⟩, -, -⟩ := HR23.out.cells
          obtain ⟨x0, x1, x2, x3⟩ := row4 HXX.out.2
          obtain ⟨y0, y1, y2, y3⟩ := row4 HXY.out.2
          obtain ⟨t0, t1, t2, t3⟩ := row4 HXZ.out.2
          obtain ⟨⟨hxy, hexy⟩, hyz, heyz⟩ := HEQ.out
          have hX1 : Y = X := by rw [HTY.out, HTX.out, hxy]
          have hZ1 : Z = X := by rw [HTZ.out, HTX.out, hxy, hyz]
          have hE1 : EY = EX := by rw [HEY.out, HEX.out, hexy]
          have hE2 : EZ = EX := by rw [HEZ.out, HEX.out, hexy, heyz]
          subst hX1 hE1 hZ1 hE2
          have hbe : (EZ != EZ) = false := by simp
          have hsz : Z.size ≤ 1000000000 := by have := getT_size (T2) a; rw [HTX.out]; omega
          clear hxy hexy hyz heyz
          go_wp2_with fail
          refine (ref_same Z.size Z Z _ _ _ _ _ (Nat.le_refl _) hsz HIX.out HIY.out).mono ?_
          rintro e24 w24 ⟨rfl, hb24⟩
          rw [sameT_refl]
          obtain ⟨-, sS, -⟩ := HR23.out.law.below hb24
          replace HR23 := Lib.hid (HR23.out.below hb24)
          replace HIX := Lib.hid (HIX.out.step sS)
          replace HIY := Lib.hid (HIY.out.step sS)
          replace HIZ := Lib.hid (HIZ.out.step sS)
          clear x0 x1 x2 x3 y0 y1 y2 y3 t0 t1 t2 t3 o0 o1
          obtain ⟨y0, y1, y2, y3⟩ := row4 (HXY.out.step sS).2
          obtain ⟨t0, t1, t2, t3⟩ := row4 (HXZ.out.step sS).2
          clear sS hb24
          go_wp2_with fail
          refine (ref_same Z.size Z Z _ _ _ _ _ (Nat.le_refl _) hsz HIY.out HIZ.out).mono ?_
          rintro e25 w25 ⟨rfl, hb25⟩
          rw [sameT_refl]
          replace HR23 := Lib.hid (HR23.out.below hb25)
          clear hb25 y0 y1 y2 y3 t0 t1 t2 t3
          have hrel : SmRel9 w pb ob (.slice a1 A.length c1) (.slice a2 B.length c2) (thR S3 a b b c) (thR S3 b c a b) (.int .i64 ((2 : Nat) : Int)) w25 := by
            unfold SmRel9
            rw [HTR.out]
            exact .inr (.inr ⟨rfl, HR0.out, by simp, HR23.out.end_⟩)
          have HREL := Lib.hid hrel
          clear hrel
          go_wp2
          go_roundw
          case measure => simp [intOf]
          case rel => exact HREL.out
    · have b1 : decide (((2 : Nat) : Int) < 2) = false := by simp
      have HAT := Lib.hid hat
      have hw := th_ways HP3.out.inv haS hbS hcS hr0 hr1
      have z0 := cell_of_row wr ob 0 _ _ _ hat.oks
      have z1 := cell_of_row wr ob 1 _ _ _ hat.oks
      simp only [List.getElem?_toArray, List.getElem?_cons_zero, List.getElem?_cons_succ] at z0 z1
      rw [← hw] at z1
      generalize hasB (thR S3 a b b c) = x at *
      have b3 : (x == x) = true := by simp
      clear hat hr0 hr1 hw
      go_wp2
      go_ret
      exact ⟨by simp, HAT.out.bel⟩
end Go.Proofs.Ytoklbeogmcdgaaa.Tms
