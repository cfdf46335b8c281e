
/-
  UnifySafe, walked over the program.
-/
import Derived.Test.YtoklbeogmcdgaaaUnq
import Derived.Test.YtoklbeogmcdgaaaL9S
namespace Go.Proofs.Ytoklbeogmcdgaaa.Tms
open Go Go.RowKit Go.Proofs.Ytoklbeogmcdgaaa.Reg Go.Proofs.Ytoklbeogmcdgaaa.Rws Go.Proofs.Ytoklbeogmcdgaaa.Maps
set_option linter.unusedVariables false
set_option linter.unusedSimpArgs false

/-- two stores of the law's own -/
structure TwoAt (w0 : World) (p1 : Nat) (S1 : Sto) (D1 : Nat → Prop) (p2 : Nat) (S2 : Sto) (D2 : Nat → Prop) (w : World) : Prop where
  l1 : Law8 w0 p1 S1 D1 w
  l2 : Law8 w0 p2 S2 D2 w
  dis : ∀ b, D1 b → ¬ D2 b
theorem TwoAt.symm {w0 w : World} {p1 p2 : Nat} {S1 S2 : Sto} {D1 D2 : Nat → Prop} (h : TwoAt w0 p1 S1 D1 p2 S2 D2 w) : TwoAt w0 p2 S2 D2 p1 S1 D1 w := ⟨h.l2, h.l1, fun b h2 h1 => h.dis b h1 h2⟩
theorem TwoAt.below {w0 w w' : World} {p1 p2 : Nat} {S1 S2 : Sto} {D1 D2 : Nat → Prop} (h : TwoAt w0 p1 S1 D1 p2 S2 D2 w) (hb : Below w.heap.size w w') : TwoAt w0 p1 S1 D1 p2 S2 D2 w' := ⟨(h.l1.below hb).1, (h.l2.below hb).1, h.dis⟩
/-- the first store turns; X may be written, too -/
theorem TwoAt.step {w0 w w' : World} {p1 p2 : Nat} {S1 S1' S2 : Sto} {D1 D1' D2 X : Nat → Prop} (h : TwoAt w0 p1 S1 D1 p2 S2 D2 w) (hl : Law8 w0 p1 S1' D1' w') (hz : w.heap.size ≤ w'.heap.size) (hk : ∀ b, Free D1 w b → ¬ X b → Free D1' w' b ∧ w'.heap[b]? = w.heap[b]?) (hX : ∀ b, D2 b → ¬ X b) :
    TwoAt w0 p1 S1' D1' p2 S2 D2 w' := by
  have hf : ∀ b, D2 b → Free D1 w b := fun b hb => ⟨fun e => h.dis b e hb, h.l2.dl b hb⟩
  exact ⟨hl, ⟨h.l2.sto.keep hz fun b hlt hd => (hk b (hf b hd) (hX b hd)).2, h.l2.own, hl.bel⟩, fun b h1 h2 => (hk b (hf b h2) (hX b h2)).1.1 h1⟩
/-- a block beside both -/
def Free2 (D1 D2 : Nat → Prop) (w : World) (b : Nat) : Prop := Free D1 w b ∧ ¬ D2 b
theorem Free2.symm {D1 D2 : Nat → Prop} {w : World} {b : Nat} (h : Free2 D1 D2 w b) : Free2 D2 D1 w b := ⟨⟨h.2, h.1.2⟩, h.1.1⟩
/-- two stores, a map each, and the pair's row -/
structure SafeAt (w0 : World) (p1 : Nat) (S1 : Sto) (D1 : Nat → Prop) (m1 : Nat) (M1 : List (Int × Int)) (p2 : Nat) (S2 : Sto) (D2 : Nat → Prop) (m2 : Nat) (M2 : List (Int × Int)) (pb : Nat) (u1 u2 : Value) (w : World) : Prop where
  two : TwoAt w0 p1 S1 D1 p2 S2 D2 w
  v1 : VarsAt w0 D1 m1 M1 w
  v2 : VarsAt w0 D2 m2 M2 w
  x1 : ¬ D2 m1
  x2 : ¬ D1 m2
  nm : m1 ≠ m2
  box : w.heap[pb]? = some (.cells #[u1, u2] 78 (0, 0))
  fb : Free2 D1 D2 w pb
  nb : pb ≠ m1 ∧ pb ≠ m2
section
variable {w0 w w' : World} {p1 m1 p2 m2 pb : Nat} {S1 S2 : Sto} {D1 D2 : Nat → Prop} {M1 M2 : List (Int × Int)} {u1 u2 : Value}
theorem SafeAt.symm (h : SafeAt w0 p1 S1 D1 m1 M1 p2 S2 D2 m2 M2 pb u1 u2 w) : SafeAt w0 p2 S2 D2 m2 M2 p1 S1 D1 m1 M1 pb u1 u2 w := ⟨h.two.symm, h.v2, h.v1, h.x2, h.x1, Ne.symm h.nm, h.box, h.fb.symm, h.nb.symm⟩
theorem SafeAt.below (h : SafeAt w0 p1 S1 D1 m1 M1 p2 S2 D2 m2 M2 pb u1 u2 w) (hb : Below w.heap.size w w') : SafeAt w0 p1 S1 D1 m1 M1 p2 S2 D2 m2 M2 pb u1 u2 w' :=
  ⟨h.two.below hb, h.v1.below hb, h.v2.below hb, h.x1, h.x2, h.nm, (hb.block pb h.fb.1.2).trans h.box, ⟨⟨h.fb.1.1, Nat.lt_of_lt_of_le h.fb.1.2 hb.size⟩, h.fb.2⟩, h.nb⟩
theorem SafeAt.put {S1' : Sto} {D1' : Nat → Prop} {M1' : List (Int × Int)} (h : SafeAt w0 p1 S1 D1 m1 M1 p2 S2 D2 m2 M2 pb u1 u2 w) (hl : Law8 w0 p1 S1' D1' w') (hv : VarsAt w0 D1' m1 M1' w') (hz : w.heap.size ≤ w'.heap.size) (hk : ∀ b, Free D1 w b → b ≠ m1 → Free D1' w' b ∧ w'.heap[b]? = w.heap[b]?) :
    SafeAt w0 p1 S1' D1' m1 M1' p2 S2 D2 m2 M2 pb u1 u2 w' := by
  have h2 := hk m2 ⟨h.x2, h.v2.lt⟩ (Ne.symm h.nm)
  have hb := hk pb h.fb.1 h.nb.1
  refine ⟨h.two.step hl hz (X := fun b => b = m1) hk fun b hd e => h.x1 (e ▸ hd), hv, ?_, h.x1, h2.1.1, h.nm, hb.2.trans h.box, ⟨hb.1, h.fb.2⟩, h.nb⟩
  obtain ⟨L, g1, g2⟩ := h.v2.map
  exact ⟨⟨L, g1.below h2.2, g2⟩, h.v2.free, h.v2.base⟩
theorem SafeAt.cells (h : SafeAt w0 p1 S1 D1 m1 M1 p2 S2 D2 m2 M2 pb u1 u2 w) : w.cell? ⟨pb, 0, none⟩ = some u1 ∧ w.cell? ⟨pb, 1, none⟩ = some u2 :=
  ⟨by simpa using cell_of_row w pb 0 _ _ _ h.box, by simpa using cell_of_row w pb 1 _ _ _ h.box⟩
end
set_option maxRecDepth 100000 in
set_option maxHeartbeats 32000000 in
theorem law_safe (A B : List Pt) (u1 u2 : Value) (w : World) (h1 : PtSl w u1 A) (h2 : PtSl w u2 B) : Calls Try.prog 9 #[.agg #[u1, u2]] w (Says true w) := by
  obtain ⟨a1, c1, rfl, hc1, hm1⟩ := h1.form
  obtain ⟨a2, c2, rfl, hc2, hm2⟩ := h2.form
  unfold maxLen at hm1 hm2
  have H1 := Lib.hid h1
  have H2 := Lib.hid h2
  have hbN := below_new w (.cells #[.slice a1 A.length c1, .slice a2 B.length c2] 78 (0, 0))
  have hrN := heap_alloc_new w (.cells #[.slice a1 A.length c1, .slice a2 B.length c2] 78 (0, 0))
  have HBN := Lib.hid hbN
  have HRN := Lib.hid hrN
  clear h1 h2 hbN hrN
  go_enter Try.func9, Try.ntmps9
  go_wp2_with fail
  generalize w.alloc (.cells #[.slice a1 A.length c1, .slice a2 B.length c2] 78 (0, 0)) = w0 at *
  refine (alive9 _).mono ?_
  rintro e1 w1 ⟨rfl, hb1⟩
  have hlt0 : w.heap.size < w0.heap.size := (Array.getElem?_eq_some_iff.1 HRN.out).1
  have hbx := (hb1.block w.heap.size hlt0).trans HRN.out
  have z0 : w1.cell? ⟨w.heap.size, 0, none⟩ = some (.slice a1 A.length c1) := cell_of_row w1 w.heap.size 0 _ _ _ hbx
  have z1 : w1.cell? ⟨w.heap.size, 1, none⟩ = some (.slice a2 B.length c2) := cell_of_row w1 w.heap.size 1 _ _ _ hbx
  have hb1' := HBN.out.trans (hb1.mono HBN.out.size)
  have hbP := below_new w1 (.cells #[.slice a1 A.length c1, .slice a2 B.length c2] 78 (0, 0))
  have hrP := heap_alloc_new w1 (.cells #[.slice a1 A.length c1, .slice a2 B.length c2] 78 (0, 0))
  have hb2 := hb1'.trans (hbP.mono hb1'.size)
  have hbx2 := (hbP.block w.heap.size (by have := hb1.size; omega)).trans hbx
  have hps := PrSl.one (H1.out.below hb2) (H2.out.below hb2) hrP
  have HPS := Lib.hid hps
  have HB2 := Lib.hid hb2
  have HBX := Lib.hid hbx2
  clear hb1 hbx hb1' hbP hrP hb2 hbx2 hps HBN HRN
  go_wp2_with fail
  generalize w1.alloc (.cells #[.slice a1 A.length c1, .slice a2 B.length c2] 78 (0, 0)) = w2 at *
  refine (great9 [(A, B)] _ _ HPS.out).mono ?_
  rintro e3 w3 ⟨rfl, hb3⟩
  have HB3 := Lib.hid (HB2.out.trans (hb3.mono HB2.out.size))
  have HBX3 := Lib.hid ((hb3.block _ (Array.getElem?_eq_some_iff.1 HBX.out).1).trans HBX.out)
  clear hb3 HPS HB2 HBX z0 z1
  cases hg : grP [(A, B)] with
  | true =>
    clear hg
    go_wp2
    go_ret
    exact ⟨rfl, HB3.out⟩
  | false =>
  obtain ⟨hA, hB⟩ := grP_one hg
  obtain ⟨a, S1, M1, b, S2, M2, hp1, hp2⟩ := two_put A B hA hB
  have sA := goodT_size A
  have sB := goodT_size B
  obtain ⟨e1a, v1a, k1a⟩ := hp1.ends st0_inv (VOk.nil _) (MOk.nil _) (good_check A hA)
  obtain ⟨e2b, v2b, k2b⟩ := hp2.ends hp1.inv v1a hp1.mok (good_check B hB)
  have e2a := k2b a hp1.lt e1a
  have hS2l : S2.cells.length ≤ 2000 := by
    have h1 : S1.cells.length ≤ 0 + (goodT A).size := hp1.le.2
    have h2 := hp2.le.2
    omega
  have haS : a < S2.cells.length := by have := hp1.lt; have := hp2.le.1; omega
  have hbS : b < S2.cells.length := hp2.lt
  have hsafe := safe_ends hp2.inv haS hbS
  have HSAFE := Lib.hid fun h => hsafe h e2a e2b hS2l
  have hbon : S2.bonds.length = 0 := by rw [hp2.bonds, hp1.bonds]; rfl
  have HBON := Lib.hid hbon
  have HP1 := Lib.hid hp1
  have HP2 := Lib.hid hp2
  clear hg hp1 hp2 e1a v1a k1a e2b v2b k2b e2a hsafe hbon hS2l
  have hl3 : w.heap.size < w3.heap.size := (Array.getElem?_eq_some_iff.1 HBX3.out).1
  go_wp2_with fail
  refine (law_NewF w w3 HB3.out 1000 (by decide) (by decide)).mono ?_
  rintro e4 w4 ⟨rfl, D4, hl4, hb4, hf4⟩
  have hl4' : Law8 w w3.heap.size st0 D4 w4 := hl4
  have HL4 := Lib.hid hl4'
  have HX4 := Lib.hid ((hb4.block _ hl3).trans HBX3.out)
  have HF4 := Lib.hid (hf4 _ hl3)
  clear hl4 hl4' hb4 hf4 HB3 HBX3 hl3
  generalize w3.heap.size = p1 at *
  go_wp2_with fail
  refine (law_NewF w w4 HL4.out.bel 1000 (by decide) (by decide)).mono ?_
  rintro e5 w5 ⟨rfl, D5, hl5, hb5, hf5⟩
  have hl5' : Law8 w w4.heap.size st0 D5 w5 := hl5
  have htw : TwoAt w p1 st0 D4 w4.heap.size st0 D5 w5 := ⟨(HL4.out.below hb5).1, hl5', fun x h1 h2 => (hf5 x (HL4.out.dl x h1)).1 h2⟩
  have hx5 := (hb5.block _ HF4.out.2).trans HX4.out
  have hf5' : Free2 D4 D5 w5 w.heap.size := ⟨⟨HF4.out.1, by have := HF4.out.2; have := hb5.size; omega⟩, (hf5 _ HF4.out.2).1⟩
  have hb6 := below_new w5 (.map #[] 0)
  have hb7 := below_new (w5.alloc (.map #[] 0)) (.map #[] 0)
  have hz6 : (w5.alloc (.map #[] 0)).heap.size = w5.heap.size + 1 := by simp
  rw [hz6] at hb7
  have hb67 := hb6.trans (hb7.mono (Nat.le_succ _))
  have hm6 : IMapB ((w5.alloc (.map #[] 0)).alloc (.map #[] 0)) w5.heap.size [] := (IMapB.made w5).below (hb7.block _ (by omega))
  have hm7 : IMapB ((w5.alloc (.map #[] 0)).alloc (.map #[] 0)) (w5.heap.size + 1) [] := by have := IMapB.made (w5.alloc (.map #[] 0)); rwa [hz6] at this
  have n4 : ∀ x, w5.heap.size ≤ x → ¬ D4 x := fun x hx e => by have := htw.l1.dl x e; omega
  have n5 : ∀ x, w5.heap.size ≤ x → ¬ D5 x := fun x hx e => by have := htw.l2.dl x e; omega
  have hbz : w.heap.size ≤ w5.heap.size := htw.l1.bel.size
  have hsa : SafeAt w p1 st0 D4 w5.heap.size [] w4.heap.size st0 D5 (w5.heap.size + 1) [] w.heap.size (.slice a1 A.length c1) (.slice a2 B.length c2) ((w5.alloc (.map #[] 0)).alloc (.map #[] 0)) :=
    ⟨htw.below hb67, ⟨⟨[], hm6, List.Perm.refl _⟩, n4 _ (Nat.le_refl _), hbz⟩, ⟨⟨[], hm7, List.Perm.refl _⟩, n5 _ (by omega), by omega⟩, n5 _ (Nat.le_refl _), n4 _ (by omega), by omega, (hb67.block _ hf5'.1.2).trans hx5, ⟨⟨hf5'.1.1, by have := hf5'.1.2; have := hb67.size; omega⟩, hf5'.2⟩, by have := hf5'.1.2; omega, by have := hf5'.1.2; omega⟩
  have HSA := Lib.hid hsa
  have HZ6 := Lib.hid hz6
  clear hl5 hl5' htw hx5 hf5' hb6 hb7 hz6 hb67 hm6 hm7 n4 n5 hbz hsa hb5 hf5 HL4 HX4 HF4
  generalize w4.heap.size = p2 at *
  dsimp only
  go_wp2_with (first
    | (with_reducible show wpList _ _ _ (⟨some 34, _, _, _, _, _⟩ :: _) _ _
       refine wpList_imap_made rfl _ rfl ?_)
    | (with_reducible show wpList _ _ _ (⟨some 35, _, _, _, _, _⟩ :: _) _ _
       refine wpList_imap_made rfl _ rfl ?_
       rw [HZ6.out]
       generalize (w5.alloc (.map #[] 0)).alloc (.map #[] 0) = w7 at *
       generalize w5.heap.size = m1 at *
       obtain ⟨z0, z1⟩ := HSA.out.cells))
  refine (ref_good A _ _ (by omega) (H1.out.below HSA.out.two.l1.bel)).mono ?_
  rintro e8 w8 ⟨v8, rfl, hi8, hb8⟩
  obtain ⟨q8, k8, rfl⟩ := hi8.form
  have hn := (HSA.out.two.l1.below hb8).2.2
  have HI := Lib.hid (hi8.low.imp (P' := fun b => ¬ D4 b) (fun b hb => by rcases hb with ⟨hb | hb, hb2⟩; exact hb.elim; exact (hn b hb hb2).1) fun _ _ _ => rfl)
  replace HSA := Lib.hid (HSA.out.below hb8)
  clear hn hi8 hb8 z0 z1
  go_wp2_with fail
  have hput := law_PutM HSA.out.two.l1 st0_inv HSA.out.v1 (by simp) HI.out (fun b hb => hb) (by omega)
  rw [HP1.out.a, HP1.out.w, HP1.out.n] at hput
  refine hput.mono ?_
  rintro e9 w9 ⟨rfl, E9, hl, hv, hz, hk⟩
  replace HSA := Lib.hid (HSA.out.put hl hv hz hk)
  clear hput hl hv hz hk HI
  dsimp only
  obtain ⟨z0, z1⟩ := HSA.out.cells
  go_wp2_with fail
  refine (ref_good B _ _ (by omega) (H2.out.below HSA.out.two.l1.bel)).mono ?_
  rintro e10 w10 ⟨v10, rfl, hi10, hb10⟩
  obtain ⟨q10, k10, rfl⟩ := hi10.form
  have hn := (HSA.out.two.l1.below hb10).2.2
  have HI := Lib.hid (hi10.low.imp (P' := fun b => ¬ E9 b) (fun b hb => by rcases hb with ⟨hb | hb, hb2⟩; exact hb.elim; exact (hn b hb hb2).1) fun _ _ _ => rfl)
  replace HSA := Lib.hid (HSA.out.below hb10)
  clear hn hi10 hb10 z0 z1
  go_wp2_with fail
  have hput := law_PutM HSA.out.two.l1 HP1.out.inv HSA.out.v1 HP1.out.mok.nd HI.out (fun b hb => hb) (by omega)
  rw [HP2.out.a, HP2.out.w, HP2.out.n] at hput
  refine hput.mono ?_
  rintro e11 w11 ⟨rfl, E11, hl, hv, hz, hk⟩
  replace HSA := Lib.hid (HSA.out.put hl hv hz hk)
  clear hput hl hv hz hk HI
  dsimp only
  obtain ⟨z0, z1⟩ := HSA.out.cells
  go_wp2_with fail
  refine (ref_good A _ _ (by omega) (H1.out.below HSA.out.two.l1.bel)).mono ?_
  rintro e12 w12 ⟨v12, rfl, hi12, hb12⟩
  obtain ⟨q12, k12, rfl⟩ := hi12.form
  have hn := (HSA.out.symm.two.l1.below hb12).2.2
  have HI := Lib.hid (hi12.low.imp (P' := fun b => ¬ D5 b) (fun b hb => by rcases hb with ⟨hb | hb, hb2⟩; exact hb.elim; exact (hn b hb hb2).1) fun _ _ _ => rfl)
  replace HSA := Lib.hid (HSA.out.below hb12)
  clear hn hi12 hb12 z0 z1
  go_wp2_with fail
  have hput := law_PutM HSA.out.symm.two.l1 st0_inv HSA.out.symm.v1 (by simp) HI.out (fun b hb => hb) (by omega)
  rw [HP1.out.a, HP1.out.w, HP1.out.n] at hput
  refine hput.mono ?_
  rintro e13 w13 ⟨rfl, E13, hl, hv, hz, hk⟩
  replace HSA := Lib.hid ((HSA.out.symm.put hl hv hz hk).symm)
  clear hput hl hv hz hk HI
  dsimp only
  obtain ⟨z0, z1⟩ := HSA.out.cells
  go_wp2_with fail
  refine (ref_good B _ _ (by omega) (H2.out.below HSA.out.two.l1.bel)).mono ?_
  rintro e14 w14 ⟨v14, rfl, hi14, hb14⟩
  obtain ⟨q14, k14, rfl⟩ := hi14.form
  have hn := (HSA.out.symm.two.l1.below hb14).2.2
  have HI := Lib.hid (hi14.low.imp (P' := fun b => ¬ E13 b) (fun b hb => by rcases hb with ⟨hb | hb, hb2⟩; exact hb.elim; exact (hn b hb hb2).1) fun _ _ _ => rfl)
  replace HSA := Lib.hid (HSA.out.below hb14)
  clear hn hi14 hb14 z0 z1
  go_wp2_with fail
  have hput := law_PutM HSA.out.symm.two.l1 HP1.out.inv HSA.out.symm.v1 HP1.out.mok.nd HI.out (fun b hb => hb) (by omega)
  rw [HP2.out.a, HP2.out.w, HP2.out.n] at hput
  refine hput.mono ?_
  rintro e15 w15 ⟨rfl, E15, hl, hv, hz, hk⟩
  replace HSA := Lib.hid ((HSA.out.symm.put hl hv hz hk).symm)
  clear hput hl hv hz hk HI
  dsimp only
  have HT := Lib.hid HSA.out.two
  clear HSA
  obtain ⟨r, hr⟩ : ∃ r, r = uniR S2 true a b := ⟨_, rfl⟩
  obtain ⟨T, hT⟩ : ∃ T, T = uniW S2 true a b := ⟨_, rfl⟩
  have hun := un_Safely HT.out.l1 HP2.out.inv a b haS hbS
  rw [← hr, ← hT] at hun
  have hext := uniW_ext HP2.out.inv (sf := true) haS hbS
  have hno : r ≠ some true → T = S2 := fun h => by rw [hT]; exact uni_other (by rw [← hr]; exact h)
  have hyes : r = some true → uniR S2 false a b = some true ∧ uniW S2 false a b = T ∧ getE T a ≠ 4 := fun h => by
    have h' : uniR S2 true a b = some true := by rw [← hr]; exact h
    rw [hT]
    exact ⟨(safe_uni h').1, (safe_uni h').2, HSAFE.out h'⟩
  rw [← hT] at hext
  have hTa : a < T.cells.length := by rw [hext.len]; exact haS
  have HTI := Lib.hid hext.inv
  have HNO := Lib.hid hno
  have HYES := Lib.hid hyes
  clear hext hno hyes hr hT
  go_wp2_with fail
  refine hun.mono ?_
  rintro e16 w16 ⟨rfl, F1, hl, hs⟩
  have HT2 := Lib.hid (HT.out.step (X := fun _ => False) hl hs.size (fun b hb _ => hs.blk b hb) fun b _ e => e)
  clear hun hl hs HT
  cases r with
  | none =>
    simp only [hasB, hasE]
    go_wp2
    go_ret
    exact ⟨by simp, HT2.out.l1.bel⟩
  | some ok =>
  cases ok with
  | false =>
    have hT := (HNO.out (by simp)).symm
    subst hT
    simp only [hasB, hasE]
    go_wp2_with fail
    refine (sto_Mark _ HT2.out.l1.sto).mono ?_
    rintro e17 w17 ⟨rfl, rfl⟩
    rw [HBON.out]
    go_wp2
    go_ret
    exact ⟨by simp, HT2.out.l1.bel⟩
  | true =>
    obtain ⟨g1, g2, g3⟩ := HYES.out rfl
    have HG3 := Lib.hid g3
    have hun := un_Unify HT2.out.l2 HP2.out.inv a b haS hbS
    rw [g1, g2] at hun
    clear g1 g2 g3
    simp only [hasB, hasE]
    go_wp2_with fail
    refine hun.mono ?_
    rintro e17 w17 ⟨rfl, F2, hl, hs⟩
    have HT3 := Lib.hid (HT2.out.symm.step (X := fun _ => False) hl hs.size (fun b hb _ => hs.blk b hb) fun b _ e => e).symm
    clear hun hl hs HT2
    simp only [hasB, hasE]
    obtain ⟨X, hX⟩ : ∃ X, X = getT T a := ⟨_, rfl⟩
    obtain ⟨EX, hEX⟩ : ∃ E, E = getE T a := ⟨_, rfl⟩
    have hx4 : EX ≠ 4 := by rw [hEX]; exact HG3.out
    have hsz : X.size ≤ 1000000000 := by have := getT_size T a; rw [hX]; omega
    have HXX := Lib.hid hX
    have HEX := Lib.hid hEX
    have HX4_ := Lib.hid hx4
    clear hX hEX hx4
    go_wp2_with fail
    have hge := law_GetE HT3.out.l1 HTI.out a hTa
    rw [← HXX.out, ← HEX.out] at hge
    refine hge.mono ?_
    rintro e18 w18 ⟨qx, cx, he, l15, s15, hi15⟩
    obtain rfl : e18 = .returned (.tuple #[.agg #[.int .i64 X.k, .int .i64 X.n, .string X.s, .slice qx X.args.length cx], .int .i64 EX]) := he
    have hbA := below_new w18 (.cells #[.int .i64 X.k, .int .i64 X.n, .string X.s, .slice qx X.args.length cx] 33 (0, 0))
    have hrA := heap_alloc_new w18 (.cells #[.int .i64 X.k, .int .i64 X.n, .string X.s, .slice qx X.args.length cx] 33 (0, 0))
    have ht15 := HT3.out.step (X := fun _ => False) l15 s15.size (fun b hb _ => s15.blk b hb) fun b _ e => e
    have hi16 : IsTm w18 (fun b => w17.heap.size ≤ b ∧ b < w18.heap.size) (aggT X qx cx) X := hi15.low.imp (fun b hb => ⟨hb.1.2, hb.2⟩) fun _ _ _ => rfl
    have HT4 := Lib.hid (ht15.below hbA)
    have HX4 := Lib.hid (hi16.below hbA)
    have HR4 := Lib.hid hrA
    have nx : ∀ b, w17.heap.size ≤ b → ¬ F2 b := fun b hb e => by have := HT3.out.l2.dl b e; omega
    have hzA : w17.heap.size ≤ w18.heap.size := s15.size
    clear hge hbA hrA ht15 hi15 hi16 l15 s15 HT3
    go_wp2_with fail
    generalize w18.alloc (.cells #[.int .i64 X.k, .int .i64 X.n, .string X.s, .slice qx X.args.length cx] 33 (0, 0)) = w19 at *
    have hxl : w18.heap.size < w19.heap.size := (Array.getElem?_eq_some_iff.1 HR4.out).1
    generalize w18.heap.size = xb at *
    have hge := law_GetE HT4.out.l2 HTI.out a hTa
    rw [← HXX.out, ← HEX.out] at hge
    refine hge.mono ?_
    rintro e20 w20 ⟨qy, cy, he, l17, s17, hi17⟩
    obtain rfl : e20 = .returned (.tuple #[.agg #[.int .i64 X.k, .int .i64 X.n, .string X.s, .slice qy X.args.length cy], .int .i64 EX]) := he
    have hbB := below_new w20 (.cells #[.int .i64 X.k, .int .i64 X.n, .string X.s, .slice qy X.args.length cy] 33 (0, 0))
    have hrB := heap_alloc_new w20 (.cells #[.int .i64 X.k, .int .i64 X.n, .string X.s, .slice qy X.args.length cy] 33 (0, 0))
    have hfx : ∀ b, w17.heap.size ≤ b → b < w19.heap.size → Free F2 w19 b := fun b h1 h2 => ⟨nx b h1, h2⟩
    have hrx := ((hbB.block xb (by have := s17.size; omega)).trans (s17.blk xb (hfx xb hzA hxl)).2).trans HR4.out
    have HX6 := Lib.hid (((HX4.out.imp (P' := fun _ => True) (fun _ _ => trivial) fun b hb _ => (s17.blk b (hfx b hb.1 (by omega))).2)).below hbB)
    have HY6 := Lib.hid (hi17.below hbB)
    have HB6 := Lib.hid (l17.bel.trans (hbB.mono l17.bel.size))
    obtain ⟨u0, u1, u2, u3⟩ := row4 hrx
    obtain ⟨v0, v1, v2, v3⟩ := row4 hrB
    clear hge hbB hrB hfx hrx hi17 l17 s17 HT4 HX4 HR4 nx
    have hbe : (EX == EX) = true := by simp
    have hb4 : (EX != 4) = true := by simpa using HX4_.out
    go_wp2_with fail
    refine (ref_same X.size X X _ _ _ _ _ (Nat.le_refl _) hsz HX6.out HY6.out).mono ?_
    rintro e22 w22 ⟨rfl, hb7⟩
    rw [sameT_refl]
    have HB7 := Lib.hid (HB6.out.trans (hb7.mono HB6.out.size))
    clear hb7 u0 u1 u2 u3 v0 v1 v2 v3
    go_wp2
    go_ret
    exact ⟨rfl, HB7.out⟩
end Go.Proofs.Ytoklbeogmcdgaaa.Tms
