
/-
  StorePlays, walked over the program and the reference.
-/
import Derived.Test.YtoklbeogmcdgaaaPlv
import Derived.Test.YtoklbeogmcdgaaaTwo
import Derived.Deep.CutRange
import Derived.Deep.CutBlock
import Derived.Deep.DeepCutAuto
namespace Go.Proofs.Ytoklbeogmcdgaaa.Tms
open Go Go.RowKit Go.Proofs.Ytoklbeogmcdgaaa.Reg Go.Proofs.Ytoklbeogmcdgaaa.Rws Go.Proofs.Ytoklbeogmcdgaaa.Maps
set_option linter.unusedVariables false
set_option linter.unusedSimpArgs false

/-- both stores behind so many steps -/
def PyMid (w : World) (p q mb j : Nat) (v10 : Value) (wr : World) : Prop := ∃ (S : Sto) (M : List (Int × Int)) (Z : Nat → Prop), Inv S ∧ Tops S ∧ KOk M ∧ M.length ≤ 421 * j ∧ PlAt w p q mb S S M M v10 Z wr
def PyRel (w : World) (p q mb n : Nat) (v63 v10 : Value) (wr : World) : Prop := ∃ i : Nat, i ≤ n ∧ v63 = .int .i64 i ∧ PyMid w p q mb i v10 wr
theorem grP_no {l : List OpR} (h : grO l = false) : l.length ≤ 60 ∧ ∀ j (hj : j < l.length), l[j].l.length ≤ 60 := by
  unfold grO at h
  rw [Bool.or_eq_false_iff, List.any_eq_false] at h
  refine ⟨by have := h.2; simp at this; omega, fun j hj => ?_⟩
  have := h.1 l[j] (List.getElem_mem hj)
  simp at this
  omega
/-- a term in its row, beside both stores -/
def PyTm (w : World) (p q mb : Nat) (S : Sto) (M : List (Int × Int)) (pv : Value) (Z : Nat → Prop) (r17 r12 : Nat) (o : Obj) (wx : World) : Prop := ∃ (t : Tm) (a : Option Addr) (c : Nat), (t.size ≤ 421 ∧ w.heap.size ≤ r17) ∧ PlAt w p q mb S S M M pv Z wx ∧
  RowF Z wx r17 (.cells #[.int .i64 t.k, .int .i64 t.n, .string t.s, .slice a t.args.length c] 33 (0, 0)) ∧ IsTm wx (fun b => Free Z wx b ∧ b ≠ r17) (.agg #[.int .i64 t.k, .int .i64 t.n, .string t.s, .slice a t.args.length c]) t ∧ RowF Z wx r12 o
/-- the pairs so far -/
def PaRel (w : World) (p q mb : Nat) (S : Sto) (M : List (Int × Int)) (pv : Value) (Z : Nat → Prop) (v209 : Value) (wr : World) : Prop := ∃ j : Nat, j ≤ M.length ∧ v209 = .int .i64 j ∧ PlAt w p q mb S S M M pv Z wr
/-- the cells so far -/
def PbRel (w : World) (p q mb : Nat) (S : Sto) (M : List (Int × Int)) (pv : Value) (Z : Nat → Prop) (v22 : Value) (wr : World) : Prop := ∃ x : Int, -1 ≤ x ∧ x ≤ S.cells.length + 1 ∧ v22 = .int .i64 x ∧ PlAt w p q mb S S M M pv Z wr
/-- the Args so far: those of the one side are struck -/
def PcRel (w : World) (p q mb : Nat) (S : Sto) (M : List (Int × Int)) (pv : Value) (Z : Nat → Prop) (L : List Int) (g : Nat) (v24 v26 : Value) (v287 : Value) (wr : World) : Prop := ∃ k : Nat, k ≤ L.length ∧ v287 = .int .i64 k ∧ PlAt w p q mb S S M M pv Z wr ∧
  Own iKind wr w.heap.size (fun _ => False) v24 (List.replicate k (-1) ++ L.drop k) ∧ (∀ b, v24.ownBlock = some b → b < g ∧ ¬ Z b) ∧ IntSl wr (fun b => g ≤ b) v26 L
set_option maxRecDepth 100000 in
set_option maxHeartbeats 4000000 in
theorem law_plays (n : Int) (l : List OpR) (v1 : Value) (w : World) (h1 : OpSl w v1 l) : Calls Try.prog 6 #[.int .i64 n, v1] w (Says true w) := by
  obtain ⟨a1, c1, rfl, hc1, hm1⟩ := h1.form
  unfold maxLen at hm1
  have H1 := Lib.hid h1
  clear h1
  cases hg : grO l with
  | true =>
    have HG := Lib.hid hg
    clear hg
    go_enter Try.func6, Try.ntmps6
    go_wp2_with fail
    refine (alive8 _).mono ?_; rintro e1 w1 ⟨rfl, hb1⟩; have HB := Lib.hid hb1; clear hb1
    go_wp2_with fail
    refine (great8 l _ _ (H1.out.below HB.out)).mono ?_; rintro e2 w2 ⟨rfl, hb2⟩
    have HB2 := Lib.hid (HB.out.trans (hb2.mono HB.out.size)); clear hb2
    rw [HG.out]
    go_wp2
    go_ret
    exact ⟨rfl, HB2.out⟩
  | false =>
  have HG := Lib.hid hg
  have HGN := Lib.hid (grP_no hg)
  clear hg
  have hll : l.length ≤ 60 := HGN.out.1
  go_enter Try.func6, Try.ntmps6
  go_wp2_with fail
  refine (alive8 _).mono ?_; rintro e1 w1 ⟨rfl, hb1⟩; have HB := Lib.hid hb1; clear hb1
  go_wp2_with fail
  refine (great8 l _ _ (H1.out.below HB.out)).mono ?_; rintro e2 w2 ⟨rfl, hb2⟩
  have HB2 := Lib.hid (HB.out.trans (hb2.mono HB.out.size)); clear hb2 HB
  rw [HG.out]
  by_cases hn : ¬ (1 ≤ n ∧ n ≤ 16777216)
  · go_wp2_with fail
    refine (sto_New_bad n _ hn).mono ?_; rintro e3 w3 ⟨rfl, hb3⟩
    have HB3 := Lib.hid (HB2.out.trans (hb3.mono HB2.out.size)); clear hb3 HB2
    go_wp2_with fail
    refine (ref_New_bad n _ hn).mono ?_; rintro e4 w4 ⟨rfl, hb4⟩
    have HB4 := Lib.hid (HB3.out.trans (hb4.mono HB3.out.size)); clear hb4 HB3
    dsimp only
    go_wp2
    go_ret
    exact ⟨rfl, HB4.out⟩
  have hn1 : 1 ≤ n := by omega
  have hn2 : n ≤ 16777216 := by omega
  clear hn
  go_wp2_with fail
  refine (law_NewG w w2 HB2.out n hn1 hn2).mono ?_
  rintro e3 w3 ⟨rfl, D, h3, hb3, -⟩
  have HB3 := Lib.hid (HB2.out.trans (hb3.mono HB2.out.size))
  have H3 := Lib.hid h3
  clear h3 hb3
  generalize w2.heap.size = p at *
  dsimp only
  go_wp2_with fail
  refine (ref8_New w w3 HB3.out n hn1 hn2).mono ?_
  rintro e4 w4 ⟨rfl, E, h4, hb4, hf4⟩
  obtain ⟨Z0, hst⟩ := pl_start H3.out h4 hb4 hf4
  have hpy : PyRel w p w3.heap.size w4.heap.size l.length (.int .i64 ((0 : Nat) : Int)) (.slice none 0 0) (w4.alloc (.map #[] 0)) :=
    ⟨0, by omega, rfl, _, _, Z0, Inv.new _ (by omega) hn2, Tops.new _, KOk.nil, by simp, hst⟩
  have HPY := Lib.hid hpy
  clear h4 hb4 hf4 hst hpy H3 HB3 HB2
  generalize w3.heap.size = q at *
  dsimp only
  go_wp2_with (with_reducible show wpList _ _ _ (⟨some 60, _, _, _, _, _⟩ :: _) _ _
               refine wpList_imap_made rfl _ rfl ?_)
  generalize w4.alloc (.map #[] 0) = w5 at *
  generalize w4.heap.size = mb at *
  go_loopw [63, 10] (fun v63 v10 wr => PyRel w p q mb l.length v63 v10 wr) (fun v63 _ _ => l.length - (intOf v63).toNat)
  case atStart => exact HPY.out
  case round =>
    clear HPY
    obtain ⟨i, hi, rfl, S, M, Z, hI, hT, hK, hMl, hP⟩ := hrel
    obtain ⟨qv, cv, ev⟩ := own_form hP.prs
    subst ev
    have HI := Lib.hid hI
    have HT := Lib.hid hT
    have HK := Lib.hid hK
    have HP := Lib.hid hP
    clear hI hT hK hP
    by_cases hil : i < l.length
    · have b1 : decide ((i : Int) < (l.length : Int)) = true := by simp; omega
      obtain ⟨b, off, a', c', rfl, x0, x1, x2, x3, hp⟩ := (H1.out.below HP.out.bel).at i hil
      obtain ⟨k, a0, b0, L, hop⟩ : ∃ k a0 b0 L, l[i] = OpR.mk k a0 b0 L := ⟨_, _, _, _, rfl⟩
      have hLl : L.length ≤ 60 := by have := HGN.out.2 i hil; rw [hop] at this; exact this
      rw [hop] at x0 x1 x2 x3 hp
      dsimp only at x0 x1 x2 x3 hp
      clear hop
      have hba := below_new wr (.cells #[.int .i64 k, .int .i64 a0, .int .i64 b0, .slice a' L.length c'] 49 (0, 0))
      have hna := heap_alloc_new wr (.cells #[.int .i64 k, .int .i64 a0, .int .i64 b0, .slice a' L.length c'] 49 (0, 0))
      obtain ⟨hP5, st5, hf5⟩ := HP.out.below hba
      have HR5 := Lib.hid (show RowF Z _ wr.heap.size _ from ⟨hf5 _ (Nat.le_refl _) (by simp), hna⟩)
      have HPT := Lib.hid (hp.below hba)
      have HP5 := Lib.hid hP5
      clear hp hba hna hP5 st5 hf5
      obtain ⟨y0, y1, y2, y3⟩ := row4 HR5.out.2
      go_upto_block 2 with fail
      obtain ⟨w6, hw6⟩ : ∃ w6, w6 = wr.alloc (.cells #[.int .i64 k, .int .i64 a0, .int .i64 b0, .slice a' L.length c'] 49 (0, 0)) := ⟨_, rfl⟩
      rw [← hw6] at HR5 HPT HP5 ⊢
      clear hw6 x0 x1 x2 x3 y0 y1 y2 y3
      obtain ⟨r12, hr12⟩ : ∃ r12, r12 = wr.heap.size := ⟨_, rfl⟩
      rw [← hr12] at HR5 ⊢
      clear hr12 HP
      go_cut [10, 13, 14, 15, 16] from 17 to 17 (fun v10 v13 v14 v15 v16 wx => ∃ a x : Int, v13 = .int .i64 a ∧ v14 = .int .i64 a ∧ v15 = .int .i64 x ∧ v16 = .int .i64 x ∧ PyMid w p q mb (i + 1) v10 wx)
      case first =>
        by_cases k1 : k = 1
        · have e1 : (k == 1) = true := by simpa using k1
          clear k1
          go_wp2_with fail
          refine (pl_Fresh HP5.out HI.out).mono ?_
          rintro e7 w7 ⟨rfl, Z7, hp7, st7⟩
          have HP7 := Lib.hid hp7
          clear hp7 st7
          dsimp only
          go_wp2_with fail
          refine (pl_FreshR HP7.out HI.out).mono ?_
          rintro e8 w8 ⟨rfl, Z8, hp8, st8⟩
          have HM8 := Lib.hid (show PyMid w p q mb (i + 1) (.slice qv M.length cv) w8 from ⟨_, _, Z8, HI.out.freshW.1, HT.out.freshW HI.out, HK.out, by omega, hp8⟩)
          clear hp8 st8 HP7
          dsimp only
          go_wp2
          go_meet
          exact ⟨_, _, rfl, rfl, rfl, rfl, HM8.out⟩
        have e1 : (k == 1) = false := by simpa using k1
        clear k1
        by_cases k26 : k = 2 ∨ k = 6
        · go_upto_if 81 with fail
          go_cut [81] from 82 to 83 (fun v wx => v = .bool true ∧ w6 = wx)
          case first =>
            by_cases k2 : k = 2
            · have e2 : (k == 2) = true := by simpa using k2
              clear k26 k2
              go_wp2
              go_meet
              exact ⟨by rw [e2], rfl⟩
            · have e2 : (k == 2) = false := by simpa using k2
              have e6 : (k == 6) = true := by simpa using k26.resolve_left k2
              clear k26 k2
              go_wp2
              go_meet
              exact ⟨rfl, rfl⟩
          case rest =>
            obtain ⟨rfl, rfl⟩ := hcut
            clear k26
            obtain ⟨y0, y1, y2, y3⟩ := row4 HR5.out.2
            go_wp2_with fail
            refine (ref_good L _ _ (by omega) HPT.out).mono ?_
            rintro e7 w7 ⟨v7, rfl, hi7, hb7⟩
            obtain ⟨a7, c7, rfl⟩ := hi7.form
            obtain ⟨t, ht⟩ : ∃ t, t = goodT L := ⟨_, rfl⟩
            have hts : t.size ≤ 421 := by have := goodT_size L; rw [ht]; omega
            rw [← ht] at hi7 ⊢
            clear ht
            have hb8 := below_new w7 (.cells #[.int .i64 t.k, .int .i64 t.n, .string t.s, .slice a7 t.args.length c7] 33 (0, 0))
            have hn8 := heap_alloc_new w7 (.cells #[.int .i64 t.k, .int .i64 t.n, .string t.s, .slice a7 t.args.length c7] 33 (0, 0))
            obtain ⟨hP7, st7, hf7⟩ := HP5.out.below hb7
            obtain ⟨hP8, st8, hf8⟩ := hP7.below hb8
            have hz7 := hb7.size
            have hr8 := (HR5.out.step st7).step st8
            have htm8 : PyTm w p q mb S M (.slice qv M.length cv) Z w7.heap.size r12 (.cells #[.int .i64 k, .int .i64 a0, .int .i64 b0, .slice a' L.length c'] 49 (0, 0)) (w7.alloc (.cells #[.int .i64 t.k, .int .i64 t.n, .string t.s, .slice a7 t.args.length c7] 33 (0, 0))) :=
              ⟨t, a7, c7, ⟨hts, hP7.bel.size⟩, hP8, ⟨hf8 _ (Nat.le_refl _) (by simp), hn8⟩, IsTm.imp hi7.low (fun b hb => by
                have h1 : w6.heap.size ≤ b := by rcases hb.1 with h | h; exact h.elim; exact h
                have h2 := hb.2
                exact ⟨(st8.blk b (hf7 b h1 h2)).1, by omega⟩) (fun b hb _ => (hb8.block b hb.2)), hr8⟩
            have HTM8 := Lib.hid htm8
            have HPT8 := Lib.hid ((HPT.out.below hb7).below hb8)
            obtain ⟨w8, hw8⟩ : ∃ w8, w8 = w7.alloc (.cells #[.int .i64 t.k, .int .i64 t.n, .string t.s, .slice a7 t.args.length c7] 33 (0, 0)) := ⟨_, rfl⟩
            rw [← hw8] at hr8 HTM8 HPT8
            clear y0 y1 y2 y3 HP5 HR5 HPT hi7 hb7 hb8 hn8 hP7 st7 hf7 hP8 st8 hf8 hts htm8
            obtain ⟨y0, y1, y2, y3⟩ := row4 hr8.2
            rw [hw8] at y0 y1 y2 y3
            clear hr8
            go_upto_if 89 with fail
            rw [← hw8] at y0 y1 y2 y3 ⊢
            clear hw8
            obtain ⟨r17, hr17⟩ : ∃ r17, r17 = w7.heap.size := ⟨_, rfl⟩
            rw [← hr17] at HTM8 ⊢
            clear hr17 hz7
            go_cut [89] from 90 to 95 (fun _ wx => PyTm w p q mb S M (.slice qv M.length cv) Z r17 r12 (.cells #[.int .i64 k, .int .i64 a0, .int .i64 b0, .slice a' L.length c'] 49 (0, 0)) wx)
            case first =>
              by_cases k6 : k = 6
              · have e6 : (k == 6) = true := by simpa using k6
                clear k6
                go_wp2_with fail
                refine (ref_of L.length L _ _ (Nat.le_refl _) (by omega) HPT8.out).mono ?_
                rintro e9 w9 ⟨v9, rfl, hi9, hb9⟩
                obtain ⟨a9, c9, rfl⟩ := hi9.form
                obtain ⟨u, hu⟩ : ∃ u, u = (ofN L.length L).1 := ⟨_, rfl⟩
                have hus : u.size ≤ 421 := by have := ofN_small L.length L; rw [hu]; omega
                rw [← hu] at hi9 ⊢
                clear hu
                obtain ⟨t0, a10, c10, ⟨-, hzo⟩, hP9, hR9, -, hO9⟩ := HTM8.out
                have hz9 := hb9.size
                have hrl := (Array.getElem?_eq_some_iff.1 hR9.2).1
                obtain ⟨hP10, st10, hf10⟩ := hP9.below hb9
                have HR10 := Lib.hid (hR9.step st10)
                have HO10 := Lib.hid (hO9.step st10)
                have hne : r12 ≠ r17 := fun e => by
                  have h1 := hO9.2
                  rw [e, hR9.2] at h1
                  simp at h1
                have HI9 := Lib.hid (hi9.low.imp (w' := w9) (P' := fun b => Free Z w9 b ∧ b ≠ r17) (fun b hb => ⟨hf10 b hb.1 hb.2, by have := hb.1; omega⟩) fun _ _ _ => rfl)
                have HP10 := Lib.hid hP10
                clear hi9 hb9 hP9 hR9 hO9 hP10 st10 hf10 HTM8 y0 y1 y2 y3
                dsimp only
                go_wp2_with (with_reducible show wpList _ _ _ (⟨none, .store _ (.tmp 17) _, _, _, _, _⟩ :: _) _ _
                             refine wpList_store_row rfl 33 (.tmp 17) (.tmp 94) rfl r17 #[.int .i64 u.k, .int .i64 u.n, .string u.s, .slice a9 u.args.length c9] rfl rfl _ _ HR10.out.2 size_term rfl (one4 _ _ _ _ _ _) ?_)
                go_meet
                have hz := setRow_heap _ r17 _ #[.int .i64 u.k, .int .i64 u.n, .string u.s, .slice a9 u.args.length c9] _ _ HR10.out.2
                have hsz : (w9.setRow r17 #[.int .i64 u.k, .int .i64 u.n, .string u.s, .slice a9 u.args.length c9]).heap.size = w9.heap.size := by simp [World.setRow]
                have hgr : w9.grownBy (w9.setRow r17 #[.int .i64 u.k, .int .i64 u.n, .string u.s, .slice a9 u.args.length c9]) (some r17) := ⟨rfl, rfl, rfl, Nat.le_of_eq hsz.symm, fun b _ hb => setRow_other _ _ _ _ fun e => hb (by rw [e])⟩
                exact ⟨u, a9, c9, ⟨hus, hzo⟩, HP10.out.grown hgr (fun b e => by cases e; exact ⟨HR10.out.1.1, hzo⟩), ⟨⟨HR10.out.1.1, by rw [hsz]; exact HR10.out.1.2⟩, hz⟩, IsTm.imp HI9.out (fun b hb => ⟨⟨hb.1.1, by rw [hsz]; exact hb.1.2⟩, hb.2⟩) (fun b hb _ => setRow_other _ _ _ _ hb.2), ⟨⟨HO10.out.1.1, by rw [hsz]; exact HO10.out.1.2⟩, (setRow_other _ _ _ _ hne).trans HO10.out.2⟩⟩
              · have e6 : (k == 6) = false := by simpa using k6
                clear k6
                go_wp2
                go_meet
                exact HTM8.out
            case rest =>
              obtain ⟨u, a9, c9, ⟨hus, -⟩, hP9, hR9, hI9, hO9⟩ := hcut
              have hrv : (rvT u).length ≤ 1000000 := by have := rvT_len u; omega
              have HPK := Lib.hid (HK.out.put S u)
              have HI9 := Lib.hid (IsTm.imp (P' := Free Z wc) hI9 (fun b hb => hb.1) fun _ _ _ => rfl)
              have HP9 := Lib.hid hP9
              have HR9 := Lib.hid hR9
              clear hP9 hI9 hR9 HTM8 HPT8 y0 y1 y2 y3
              obtain ⟨y0, y1, y2, y3⟩ := row4 hO9.2
              clear hO9
              obtain ⟨z0, z1, z2, z3⟩ := row4 HR9.out.2
              by_cases kb : b0 = 0
              · have e9 : (b0 != 0) = false := by simpa using kb
                clear kb
                go_wp2_with fail
                refine (pl_Put HP9.out HI.out HK.out.nd HI9.out (by omega)).mono ?_
                rintro e10 w10 ⟨rfl, Z10, hp10, st10⟩
                have HP10 := Lib.hid hp10
                have HI10 := Lib.hid (HI9.out.step st10)
                have hR10 := HR9.out.step st10
                clear hp10 st10 y0 y1 y2 y3 z0 z1 z2 z3 HP9 HI9 HR9
                obtain ⟨z0, z1, z2, z3⟩ := row4 hR10.2
                clear hR10
                dsimp only
                go_wp2_with fail
                refine (pl_PutR HP10.out HI.out HK.out.pos HI10.out (by omega) hrv).mono ?_
                rintro e11 w11 ⟨pv11, rfl, Z11, hp11, st11⟩
                have HM11 := Lib.hid (show PyMid w p q mb (i + 1) pv11 w11 from ⟨_, _, Z11, (HI.out.putW M u).1, HT.out.putW HI.out M u, HPK.out.1, by have := HPK.out.2; omega, hp11⟩)
                clear hp11 st11 HP10 HI10 z0 z1 z2 z3
                dsimp only
                go_wp2
                go_meet
                exact ⟨_, _, rfl, rfl, rfl, rfl, HM11.out⟩
              · have e9 : (b0 != 0) = true := by simpa using kb
                clear kb
                go_wp2_with fail
                refine (pl_Put0 HP9.out HI.out HI9.out (by omega)).mono ?_
                rintro e10 w10 ⟨rfl, Z10, hp10, st10⟩
                have HP10 := Lib.hid hp10
                have HI10 := Lib.hid (HI9.out.step st10)
                have hR10 := HR9.out.step st10
                clear hp10 st10 y0 y1 y2 y3 z0 z1 z2 z3 HP9 HI9 HR9
                obtain ⟨z0, z1, z2, z3⟩ := row4 hR10.2
                clear hR10
                dsimp only
                go_wp2_with fail
                refine (pl_Put0R HP10.out HI.out HI10.out (by omega) hrv).mono ?_
                rintro e11 w11 ⟨pv11, rfl, Z11, hp11, st11⟩
                have HM11 := Lib.hid (show PyMid w p q mb (i + 1) (.slice qv M.length cv) w11 from ⟨_, _, Z11, (HI.out.putW [] u).1, HT.out.putW HI.out [] u, HK.out, by omega, hp11⟩)
                clear hp11 st11 HP10 HI10 z0 z1 z2 z3
                dsimp only
                go_wp2
                go_meet
                exact ⟨_, _, rfl, rfl, rfl, rfl, HM11.out⟩
        have e2 : (k == 2) = false := by rw [beq_eq_false_iff_ne]; exact fun e => k26 (.inl e)
        have e6 : (k == 6) = false := by rw [beq_eq_false_iff_ne]; exact fun e => k26 (.inr e)
        clear k26
        by_cases k3 : k = 3
        · have e3 : (k == 3) = true := by simpa using k3
          clear k3
          go_upto_region 30 with fail
          refine wp_region_rest (by kernel_rfl) ?_
          have hdr := HP5.out.below (Below.refl w6.heap.size w6).drew
          have HP6 := Lib.hid hdr.1
          have HO6 := Lib.hid (HR5.out.step hdr.2.1)
          clear hdr HP5 HR5 HPT
          generalize w6.drew = W0 at *
          refine rest_chainP (fun u => u.heap[r12]? = some (.cells #[.int .i64 k, .int .i64 a0, .int .i64 b0, .slice a' L.length c'] 49 (0, 0))) 0 14 (.soft 0 (.soft 1 (.soft 2 (.soft 3 (.soft 4 (.soft 6 (.soft 7 (.soft 8 (.soft 9 (.soft 10 (.one 5 (.one 11 (.soft 12 (.soft 13 .nil)))))))))))))) (.soft _ (.soft _ (.soft _ (.soft _ (.soft _ (.soft _ (.soft _ (.soft _ (.soft _ (.soft _ (.one _ (.one _ (.soft _ (.soft _ .nil)))))))))))))) ⟨rfl, ⟨rfl, ⟨rfl, ⟨rfl, ⟨rfl, ⟨rfl, ⟨rfl, ⟨rfl, ⟨rfl, ⟨rfl, ⟨rfl, ⟨rfl, ⟨rfl, ⟨rfl, trivial⟩⟩⟩⟩⟩⟩⟩⟩⟩⟩⟩⟩⟩⟩ (by kernel_rfl) (by kernel_rfl) (by kernel_rfl) (by kernel_rfl) (.inl rfl) HO6.out.2 ?_
          refine chainP_soft (a1 := ?ma1) (by kernel_rfl) (by kernel_rfl) ?mh1 ?mr1
          case mh1 =>
            intro u hu E hE
            go_wp2
            rfl
          refine chainP_soft (a1 := ?ma2) (by kernel_rfl) (by kernel_rfl) ?mh2 ?mr2
          case mh2 =>
            intro u hu E hE
            go_wp2
            rfl
          refine chainP_soft (a1 := ?ma3) (by kernel_rfl) (by kernel_rfl) ?mh3 ?mr3
          case mh3 =>
            intro u hu E hE
            obtain ⟨y0, y1, y2, y3⟩ := row4 hu
            go_wp2
            rfl
          refine chainP_soft (a1 := ?ma4) (by kernel_rfl) (by kernel_rfl) ?mh4 ?mr4
          case mh4 =>
            intro u hu E hE
            go_wp2
            rfl
          refine chainP_soft (a1 := ?ma5) (by kernel_rfl) (by kernel_rfl) ?mh5 ?mr5
          case mh5 =>
            intro u hu E hE
            obtain ⟨y0, y1, y2, y3⟩ := row4 hu
            go_wp2
            rfl
          refine chainP_soft (a1 := ?ma6) (by kernel_rfl) (by kernel_rfl) ?mh6 ?mr6
          case mh6 =>
            intro u hu E hE
            go_wp2
            rfl
          refine chainP_soft (a1 := ?ma7) (by kernel_rfl) (by kernel_rfl) ?mh7 ?mr7
          case mh7 =>
            intro u hu E hE
            go_wp2
            rfl
          refine chainP_soft (a1 := ?ma8) (by kernel_rfl) (by kernel_rfl) ?mh8 ?mr8
          case mh8 =>
            intro u hu E hE
            obtain ⟨y0, y1, y2, y3⟩ := row4 hu
            go_wp2
            rfl
          refine chainP_soft (a1 := ?ma9) (by kernel_rfl) (by kernel_rfl) ?mh9 ?mr9
          case mh9 =>
            intro u hu E hE
            go_wp2
            rfl
          refine chainP_soft (a1 := ?ma10) (by kernel_rfl) (by kernel_rfl) ?mh10 ?mr10
          case mh10 =>
            intro u hu E hE
            obtain ⟨y0, y1, y2, y3⟩ := row4 hu
            go_wp2
            rfl
          refine chainP_one ?_
          intro E hE
          go_wp2_with fail
          refine (pl_Bind HP6.out HI.out a0 b0).mono ?_
          rintro e7 w7 ⟨rfl, Z7, hp7, st7⟩
          have HP7 := Lib.hid hp7
          have HO7 := Lib.hid (HO6.out.step st7)
          clear hp7 st7 HP6 HO6
          go_wp2
          refine ⟨HO7.out.2, ?_⟩
          refine chainP_one ?_
          intro E hE
          go_wp2_with fail
          refine (pl_BindR HP7.out HI.out a0 b0).mono ?_
          rintro e8 w8 ⟨rfl, Z8, hp8, st8⟩
          have HM8 := Lib.hid (show PyMid w p q mb (i + 1) (.slice qv M.length cv) w8 from ⟨_, _, Z8, (HI.out.bindW _ _).1, HT.out.bindW HI.out _ _, HK.out, by omega, hp8⟩)
          have HO8 := Lib.hid (HO7.out.step st8)
          clear hp8 st8 HP7 HO7
          go_wp2
          refine ⟨HO8.out.2, ?_⟩
          refine chainP_soft (a1 := ?ma11) (by kernel_rfl) (by kernel_rfl) ?mh11 ?mr11
          case mh11 =>
            intro u hu E hE
            go_wp2
            rfl
          refine chainP_soft (a1 := ?ma12) (by kernel_rfl) (by kernel_rfl) ?mh12 ?mr12
          case mh12 =>
            intro u hu E hE
            go_wp2
            rfl
          refine chainP_nil (rest_end (by decide) ?_)
          go_wp2
          go_meet
          exact ⟨_, _, rfl, rfl, rfl, rfl, HM8.out⟩
        have e3 : (k == 3) = false := by simpa using k3
        clear k3
        by_cases k4 : k = 4
        · have e4 : (k == 4) = true := by simpa using k4
          clear k4
          obtain ⟨y0, y1, y2, y3⟩ := row4 HR5.out.2
          go_wp2_with fail
          refine (pl_Undo HP5.out HI.out a0).mono ?_
          rintro e7 w7 ⟨rfl, Z7, hp7, st7⟩
          have HP7 := Lib.hid hp7
          have hO7 := HR5.out.step st7
          clear hp7 st7 HP5 HR5 HPT y0 y1 y2 y3
          obtain ⟨y0, y1, y2, y3⟩ := row4 hO7.2
          clear hO7
          go_wp2_with fail
          refine (pl_UndoR HP7.out HI.out a0).mono ?_
          rintro e8 w8 ⟨rfl, Z8, hp8, st8⟩
          have hu := undo_both HT.out HI.out a0
          have HM8 := Lib.hid (show PyMid w p q mb (i + 1) (.slice qv M.length cv) w8 from ⟨_, _, Z8, hu.1, hu.2.1, HK.out, by omega, hp8⟩)
          clear hp8 st8 HP7 hu y0 y1 y2 y3
          go_wp2
          go_meet
          exact ⟨0, 0, rfl, rfl, rfl, rfl, HM8.out⟩
        have e4 : (k == 4) = false := by simpa using k4
        clear k4
        by_cases k5 : k = 5
        · have e5 : (k == 5) = true := by simpa using k5
          clear k5
          go_upto_region 35 with fail
          refine wp_region_rest (by kernel_rfl) ?_
          have hdr := HP5.out.below (Below.refl w6.heap.size w6).drew
          have HP6 := Lib.hid hdr.1
          have HO6 := Lib.hid (HR5.out.step hdr.2.1)
          clear hdr HP5 HR5 HPT
          generalize w6.drew = W0 at *
          refine rest_chainP (fun u => u.heap[r12]? = some (.cells #[.int .i64 k, .int .i64 a0, .int .i64 b0, .slice a' L.length c'] 49 (0, 0))) 0 10 (.soft 0 (.soft 1 (.soft 2 (.soft 4 (.soft 5 (.soft 6 (.one 3 (.one 7 (.soft 8 (.soft 9 .nil)))))))))) (.soft _ (.soft _ (.soft _ (.soft _ (.soft _ (.soft _ (.one _ (.one _ (.soft _ (.soft _ .nil)))))))))) ⟨rfl, ⟨rfl, ⟨rfl, ⟨rfl, ⟨rfl, ⟨rfl, ⟨rfl, ⟨rfl, ⟨rfl, ⟨rfl, trivial⟩⟩⟩⟩⟩⟩⟩⟩⟩⟩ (by kernel_rfl) (by kernel_rfl) (by kernel_rfl) (by kernel_rfl) (.inl rfl) HO6.out.2 ?_
          refine chainP_soft (a1 := ?ma13) (by kernel_rfl) (by kernel_rfl) ?mh13 ?mr13
          case mh13 =>
            intro u hu E hE
            go_wp2
            rfl
          refine chainP_soft (a1 := ?ma14) (by kernel_rfl) (by kernel_rfl) ?mh14 ?mr14
          case mh14 =>
            intro u hu E hE
            go_wp2
            rfl
          refine chainP_soft (a1 := ?ma15) (by kernel_rfl) (by kernel_rfl) ?mh15 ?mr15
          case mh15 =>
            intro u hu E hE
            obtain ⟨y0, y1, y2, y3⟩ := row4 hu
            go_wp2
            rfl
          refine chainP_soft (a1 := ?ma16) (by kernel_rfl) (by kernel_rfl) ?mh16 ?mr16
          case mh16 =>
            intro u hu E hE
            go_wp2
            rfl
          refine chainP_soft (a1 := ?ma17) (by kernel_rfl) (by kernel_rfl) ?mh17 ?mr17
          case mh17 =>
            intro u hu E hE
            go_wp2
            rfl
          refine chainP_soft (a1 := ?ma18) (by kernel_rfl) (by kernel_rfl) ?mh18 ?mr18
          case mh18 =>
            intro u hu E hE
            obtain ⟨y0, y1, y2, y3⟩ := row4 hu
            go_wp2
            rfl
          refine chainP_one ?_
          intro E hE
          go_wp2_with fail
          refine (pl_Cut HP6.out HI.out a0).mono ?_
          rintro e7 w7 ⟨rfl, Z7, hp7, st7⟩
          have HP7 := Lib.hid hp7
          have HO7 := Lib.hid (HO6.out.step st7)
          clear hp7 st7 HP6 HO6
          go_wp2
          refine ⟨HO7.out.2, ?_⟩
          refine chainP_one ?_
          intro E hE
          go_wp2_with fail
          refine (pl_CutR HP7.out HI.out HT.out a0).mono ?_
          rintro e8 w8 ⟨rfl, Z8, hp8, st8⟩
          have hu := cut_both HT.out HI.out a0
          have HM8 := Lib.hid (show PyMid w p q mb (i + 1) (.slice qv M.length cv) w8 from ⟨_, _, Z8, hu.1, hu.2.1, HK.out, by omega, hp8⟩)
          have HO8 := Lib.hid (HO7.out.step st8)
          clear hp8 st8 HP7 HO7 hu
          go_wp2
          refine ⟨HO8.out.2, ?_⟩
          refine chainP_soft (a1 := ?ma19) (by kernel_rfl) (by kernel_rfl) ?mh19 ?mr19
          case mh19 =>
            intro u hu E hE
            go_wp2
            rfl
          refine chainP_soft (a1 := ?ma20) (by kernel_rfl) (by kernel_rfl) ?mh20 ?mr20
          case mh20 =>
            intro u hu E hE
            go_wp2
            rfl
          refine chainP_nil (rest_end (by decide) ?_)
          go_wp2
          go_meet
          exact ⟨_, _, rfl, rfl, rfl, rfl, HM8.out⟩
        · have e5 : (k == 5) = false := by simpa using k5
          clear k5
          have HM8 := Lib.hid (show PyMid w p q mb (i + 1) (.slice qv M.length cv) w6 from ⟨_, _, Z, HI.out, HT.out, HK.out, by omega, HP5.out⟩)
          clear HP5 HR5 HPT
          go_wp2
          go_meet
          exact ⟨0, 0, rfl, rfl, rfl, rfl, HM8.out⟩
      case rest =>
        clear HI HT HK HP5 HPT HR5
        obtain ⟨a, x, rfl, rfl, rfl, rfl, S', M', Z', hI, hT, hK, hMl', hP⟩ := hcut
        obtain ⟨qw, cw, ew⟩ := own_form hP.prs
        subst ew
        have HI := Lib.hid hI
        have HT := Lib.hid hT
        have HK := Lib.hid hK
        go_upto_region 36 with fail
        refine wp_region_rest (by kernel_rfl) ?_
        have hdr := hP.below (Below.refl wc.heap.size wc).drew
        have HP := Lib.hid hdr.1
        clear hI hT hK hP hdr
        generalize wc.drew = W0 at *
        obtain ⟨D, hsto⟩ := HP.out.sto
        obtain ⟨E, href⟩ := HP.out.ref
        obtain ⟨Lm, hmp, hperm⟩ := HP.out.map
        have hml := hperm.length_eq
        obtain ⟨cv', bv', A', hrow⟩ := href
        obtain ⟨q1, c1', e1⟩ := own_form hrow.own
        obtain ⟨q2, c2', e2⟩ := own_form hrow.bonds
        rw [List.length_map] at e2
        subst e1 e2
        obtain ⟨x0, x1, x2⟩ := row3 hrow.row
        have HST := Lib.hid hsto
        have HIM := Lib.hid hmp.imap
        have HML := Lib.hid hml
        have b40 : ((a != a) = false) := by simp
        have b41 : ((x != x) = false) := by simp
        clear hsto hrow hperm hml hmp
        refine rest_chainP (SameW W0) 0 45 (.soft 0 (.soft 1 (.soft 2 (.soft 3 (.soft 4 (.soft 5 (.soft 6 (.soft 7 (.soft 8 (.soft 9 (.soft 11 (.soft 12 (.soft 13 (.soft 14 (.soft 15 (.one 10 (.soft 16 (.soft 17 (.soft 18 (.soft 19 (.soft 21 (.soft 22 (.soft 23 (.soft 24 (.soft 25 (.one 20 (.soft 26 (.soft 27 (.soft 28 (.soft 29 (.soft 31 (.soft 32 (.soft 33 (.soft 34 (.soft 35 (.one 30 (.soft 36 (.soft 37 (.soft 38 (.soft 39 (.soft 40 (.soft 41 (.soft 42 (.soft 43 (.soft 44 .nil))))))))))))))))))))))))))))))))))))))))))))) (.soft _ (.soft _ (.soft _ (.soft _ (.soft _ (.soft _ (.soft _ (.soft _ (.soft _ (.soft _ (.soft _ (.soft _ (.soft _ (.soft _ (.soft _ (.one _ (.soft _ (.soft _ (.soft _ (.soft _ (.soft _ (.soft _ (.soft _ (.soft _ (.soft _ (.one _ (.soft _ (.soft _ (.soft _ (.soft _ (.soft _ (.soft _ (.soft _ (.soft _ (.soft _ (.one _ (.soft _ (.soft _ (.soft _ (.soft _ (.soft _ (.soft _ (.soft _ (.soft _ (.soft _ .nil))))))))))))))))))))))))))))))))))))))))))))) ⟨rfl, ⟨rfl, ⟨rfl, ⟨rfl, ⟨rfl, ⟨rfl, ⟨rfl, ⟨rfl, ⟨rfl, ⟨rfl, ⟨rfl, ⟨rfl, ⟨rfl, ⟨rfl, ⟨rfl, ⟨rfl, ⟨rfl, ⟨rfl, ⟨rfl, ⟨rfl, ⟨rfl, ⟨rfl, ⟨rfl, ⟨rfl, ⟨rfl, ⟨rfl, ⟨rfl, ⟨rfl, ⟨rfl, ⟨rfl, ⟨rfl, ⟨rfl, ⟨rfl, ⟨rfl, ⟨rfl, ⟨rfl, ⟨rfl, ⟨rfl, ⟨rfl, ⟨rfl, ⟨rfl, ⟨rfl, ⟨rfl, ⟨rfl, ⟨rfl, trivial⟩⟩⟩⟩⟩⟩⟩⟩⟩⟩⟩⟩⟩⟩⟩⟩⟩⟩⟩⟩⟩⟩⟩⟩⟩⟩⟩⟩⟩⟩⟩⟩⟩⟩⟩⟩⟩⟩⟩⟩⟩⟩⟩⟩⟩ (by kernel_rfl) (by kernel_rfl) (by kernel_rfl) (by kernel_rfl) (.inl rfl) (SameW.me W0) ?_
        refine chainP_soft (a1 := ?ma21) (by kernel_rfl) (by kernel_rfl) ?mh21 ?mr21
        case mh21 =>
          intro u hu E hE
          have hu' : u = W0 := hu.eq
          subst hu'
          go_wp2
          rfl
        refine chainP_soft (a1 := ?ma22) (by kernel_rfl) (by kernel_rfl) ?mh22 ?mr22
        case mh22 =>
          intro u hu E hE
          have hu' : u = W0 := hu.eq
          subst hu'
          go_wp2
          rfl
        refine chainP_soft (a1 := ?ma23) (by kernel_rfl) (by kernel_rfl) ?mh23 ?mr23
        case mh23 =>
          intro u hu E hE
          have hu' : u = W0 := hu.eq
          subst hu'
          go_wp2
          rfl
        refine chainP_soft (a1 := ?ma24) (by kernel_rfl) (by kernel_rfl) ?mh24 ?mr24
        case mh24 =>
          intro u hu E hE
          have hu' : u = W0 := hu.eq
          subst hu'
          go_wp2
          rfl
        refine chainP_soft (a1 := ?ma25) (by kernel_rfl) (by kernel_rfl) ?mh25 ?mr25
        case mh25 =>
          intro u hu E hE
          have hu' : u = W0 := hu.eq
          subst hu'
          go_wp2
          rfl
        refine chainP_soft (a1 := ?ma26) (by kernel_rfl) (by kernel_rfl) ?mh26 ?mr26
        case mh26 =>
          intro u hu E hE
          have hu' : u = W0 := hu.eq
          subst hu'
          go_wp2
          rfl
        refine chainP_soft (a1 := ?ma27) (by kernel_rfl) (by kernel_rfl) ?mh27 ?mr27
        case mh27 =>
          intro u hu E hE
          have hu' : u = W0 := hu.eq
          subst hu'
          go_wp2
          rfl
        refine chainP_soft (a1 := ?ma28) (by kernel_rfl) (by kernel_rfl) ?mh28 ?mr28
        case mh28 =>
          intro u hu E hE
          have hu' : u = W0 := hu.eq
          subst hu'
          go_wp2
          rfl
        refine chainP_soft (a1 := ?ma29) (by kernel_rfl) (by kernel_rfl) ?mh29 ?mr29
        case mh29 =>
          intro u hu E hE
          have hu' : u = W0 := hu.eq
          subst hu'
          go_wp2
          rfl
        refine chainP_soft (a1 := ?ma30) (by kernel_rfl) (by kernel_rfl) ?mh30 ?mr30
        case mh30 =>
          intro u hu E hE
          have hu' : u = W0 := hu.eq
          subst hu'
          go_wp2
          rfl
        refine chainP_soft (a1 := ?ma31) (by kernel_rfl) (by kernel_rfl) ?mh31 ?mr31
        case mh31 =>
          intro u hu E hE
          have hu' : u = W0 := hu.eq
          subst hu'
          go_wp2
          rfl
        refine Go.Proofs.Ytoklbeogmcdgaaa.Tms.chainP_nckg _ _ rfl rfl rfl ?_
        simp only [Act.put, List.getElem?_toArray, List.getElem?_cons_succ, List.getElem?_cons_zero, Option.bind_some, List.setIfInBounds_toArray, List.set_cons_succ, List.set_cons_zero, Nat.reduceAdd]
        refine chainP_soft (a1 := ?ma32) (by kernel_rfl) (by kernel_rfl) ?mh32 ?mr32
        case mh32 =>
          intro u hu E hE
          have hu' : u = W0 := hu.eq
          subst hu'
          go_wp2
          rfl
        refine chainP_soft (a1 := ?ma33) (by kernel_rfl) (by kernel_rfl) ?mh33 ?mr33
        case mh33 =>
          intro u hu E hE
          have hu' : u = W0 := hu.eq
          subst hu'
          go_wp2
          rfl
        refine chainP_soft (a1 := ?ma34) (by kernel_rfl) (by kernel_rfl) ?mh34 ?mr34
        case mh34 =>
          intro u hu E hE
          have hu' : u = W0 := hu.eq
          subst hu'
          go_wp2
          rfl
        refine chainP_one ?_
        intro E hE
        go_wp2_with fail
        refine (sto_Cells W0 HST.out).mono ?_
        rintro e6 w6 ⟨rfl, rfl⟩
        go_wp2
        refine ⟨SameW.me _, ?_⟩
        refine chainP_soft (a1 := ?ma35) (by kernel_rfl) (by kernel_rfl) ?mh35 ?mr35
        case mh35 =>
          intro u hu E hE
          have hu' : u = W0 := hu.eq
          subst hu'
          go_wp2
          rfl
        refine chainP_soft (a1 := ?ma36) (by kernel_rfl) (by kernel_rfl) ?mh36 ?mr36
        case mh36 =>
          intro u hu E hE
          have hu' : u = W0 := hu.eq
          subst hu'
          go_wp2
          rfl
        refine chainP_soft (a1 := ?ma37) (by kernel_rfl) (by kernel_rfl) ?mh37 ?mr37
        case mh37 =>
          intro u hu E hE
          have hu' : u = W0 := hu.eq
          subst hu'
          go_wp2
          rfl
        refine chainP_soft (a1 := ?ma38) (by kernel_rfl) (by kernel_rfl) ?mh38 ?mr38
        case mh38 =>
          intro u hu E hE
          have hu' : u = W0 := hu.eq
          subst hu'
          go_wp2
          rfl
        refine chainP_soft (a1 := ?ma39) (by kernel_rfl) (by kernel_rfl) ?mh39 ?mr39
        case mh39 =>
          intro u hu E hE
          have hu' : u = W0 := hu.eq
          subst hu'
          go_wp2
          rfl
        refine Go.Proofs.Ytoklbeogmcdgaaa.Tms.chainP_nckg _ _ rfl rfl rfl ?_
        simp only [Act.put, List.getElem?_toArray, List.getElem?_cons_succ, List.getElem?_cons_zero, Option.bind_some, List.setIfInBounds_toArray, List.set_cons_succ, List.set_cons_zero, Nat.reduceAdd]
        refine chainP_soft (a1 := ?ma40) (by kernel_rfl) (by kernel_rfl) ?mh40 ?mr40
        case mh40 =>
          intro u hu E hE
          have hu' : u = W0 := hu.eq
          subst hu'
          go_wp2
          rfl
        refine chainP_soft (a1 := ?ma41) (by kernel_rfl) (by kernel_rfl) ?mh41 ?mr41
        case mh41 =>
          intro u hu E hE
          have hu' : u = W0 := hu.eq
          subst hu'
          go_wp2
          rfl
        refine chainP_soft (a1 := ?ma42) (by kernel_rfl) (by kernel_rfl) ?mh42 ?mr42
        case mh42 =>
          intro u hu E hE
          have hu' : u = W0 := hu.eq
          subst hu'
          go_wp2
          rfl
        refine chainP_one ?_
        intro E hE
        go_wp2_with fail
        refine (sto_Mark W0 HST.out).mono ?_
        rintro e6 w6 ⟨rfl, rfl⟩
        go_wp2
        refine ⟨SameW.me _, ?_⟩
        refine chainP_soft (a1 := ?ma43) (by kernel_rfl) (by kernel_rfl) ?mh43 ?mr43
        case mh43 =>
          intro u hu E hE
          have hu' : u = W0 := hu.eq
          subst hu'
          go_wp2
          rfl
        refine chainP_soft (a1 := ?ma44) (by kernel_rfl) (by kernel_rfl) ?mh44 ?mr44
        case mh44 =>
          intro u hu E hE
          have hu' : u = W0 := hu.eq
          subst hu'
          go_wp2
          rfl
        refine chainP_soft (a1 := ?ma45) (by kernel_rfl) (by kernel_rfl) ?mh45 ?mr45
        case mh45 =>
          intro u hu E hE
          have hu' : u = W0 := hu.eq
          subst hu'
          go_wp2
          rfl
        refine chainP_soft (a1 := ?ma46) (by kernel_rfl) (by kernel_rfl) ?mh46 ?mr46
        case mh46 =>
          intro u hu E hE
          have hu' : u = W0 := hu.eq
          subst hu'
          go_wp2
          rfl
        refine chainP_soft (a1 := ?ma47) (by kernel_rfl) (by kernel_rfl) ?mh47 ?mr47
        case mh47 =>
          intro u hu E hE
          have hu' : u = W0 := hu.eq
          subst hu'
          go_wp2
          rfl
        refine Go.Proofs.Ytoklbeogmcdgaaa.Tms.chainP_nckg _ _ rfl rfl rfl ?_
        simp only [Act.put, List.getElem?_toArray, List.getElem?_cons_succ, List.getElem?_cons_zero, Option.bind_some, List.setIfInBounds_toArray, List.set_cons_succ, List.set_cons_zero, Nat.reduceAdd]
        refine chainP_soft (a1 := ?ma48) (by kernel_rfl) (by kernel_rfl) ?mh48 ?mr48
        case mh48 =>
          intro u hu E hE
          have hu' : u = W0 := hu.eq
          subst hu'
          go_wp2
          rfl
        refine chainP_soft (a1 := ?ma49) (by kernel_rfl) (by kernel_rfl) ?mh49 ?mr49
        case mh49 =>
          intro u hu E hE
          have hu' : u = W0 := hu.eq
          subst hu'
          go_wp2
          rfl
        refine chainP_soft (a1 := ?ma50) (by kernel_rfl) (by kernel_rfl) ?mh50 ?mr50
        case mh50 =>
          intro u hu E hE
          have hu' : u = W0 := hu.eq
          subst hu'
          go_wp2
          rfl
        refine chainP_one ?_
        intro E hE
        go_wp2_with fail
        refine (sto_Trail W0 HST.out).mono ?_
        rintro e6 w6 ⟨rfl, rfl⟩
        go_wp2
        refine ⟨SameW.me _, ?_⟩
        refine chainP_soft (a1 := ?ma51) (by kernel_rfl) (by kernel_rfl) ?mh51 ?mr51
        case mh51 =>
          intro u hu E hE
          have hu' : u = W0 := hu.eq
          subst hu'
          go_wp2
          rfl
        refine chainP_soft (a1 := ?ma52) (by kernel_rfl) (by kernel_rfl) ?mh52 ?mr52
        case mh52 =>
          intro u hu E hE
          have hu' : u = W0 := hu.eq
          subst hu'
          go_wp2
          rfl
        refine chainP_soft (a1 := ?ma53) (by kernel_rfl) (by kernel_rfl) ?mh53 ?mr53
        case mh53 =>
          intro u hu E hE
          have hu' : u = W0 := hu.eq
          subst hu'
          go_wp2
          rfl
        refine chainP_soft (a1 := ?ma54) (by kernel_rfl) (by kernel_rfl) ?mh54 ?mr54
        case mh54 =>
          intro u hu E hE
          have hu' : u = W0 := hu.eq
          subst hu'
          go_wp2
          rfl
        refine chainP_softv (.int .i64 M'.length) (by kernel_rfl) (by kernel_rfl) ?_ ?_
        · simp only [Act.put, List.getElem?_toArray, List.getElem?_cons_succ, List.getElem?_cons_zero, Option.bind_some, List.setIfInBounds_toArray, List.set_cons_succ, List.set_cons_zero, Nat.reduceAdd]
          intro u hu E hE
          have hu' : u = W0 := hu.eq
          subst hu'
          refine wpList_imap_lenG (by kernel_rfl) (.tmp 200) 47 rfl _ _ Try.underlying47 mb Lm rfl HIM.out ?_
          rw [HML.out]
          exact hE
        simp only [Act.put, List.getElem?_toArray, List.getElem?_cons_succ, List.getElem?_cons_zero, Option.bind_some, List.setIfInBounds_toArray, List.set_cons_succ, List.set_cons_zero, Nat.reduceAdd]
        refine chainP_soft (a1 := ?ma55) (by kernel_rfl) (by kernel_rfl) ?mh55 ?mr55
        case mh55 =>
          intro u hu E hE
          have hu' : u = W0 := hu.eq
          subst hu'
          go_wp2
          rfl
        refine chainP_soft (a1 := ?ma56) (by kernel_rfl) (by kernel_rfl) ?mh56 ?mr56
        case mh56 =>
          intro u hu E hE
          have hu' : u = W0 := hu.eq
          subst hu'
          go_wp2
          rfl
        refine chainP_soft (a1 := ?ma57) (by kernel_rfl) (by kernel_rfl) ?mh57 ?mr57
        case mh57 =>
          intro u hu E hE
          have hu' : u = W0 := hu.eq
          subst hu'
          go_wp2
          rfl
        refine chainP_soft (a1 := ?ma58) (by kernel_rfl) (by kernel_rfl) ?mh58 ?mr58
        case mh58 =>
          intro u hu E hE
          have hu' : u = W0 := hu.eq
          subst hu'
          go_wp2
          rfl
        refine chainP_nil (rest_end (by decide) ?_)
        clear x0 x1 x2 HST HIM HML b40 b41
        have HRL := Lib.hid (show PyRel w p q mb l.length (.int .i64 ((i + 1 : Nat) : Int)) (.slice qw M'.length cw) W0 from ⟨i + 1, by omega, rfl, S', M', Z', HI.out, HT.out, HK.out, hMl', HP.out⟩)
        clear HP HI HT HK
        go_wp2
        go_roundw
        case measure => simp [intOf]; omega
        case rel => exact HRL.out
    · have b1 : decide ((i : Int) < (l.length : Int)) = false := by simp; omega
      obtain ⟨w7, rfl⟩ : ∃ wo : World, wo = wr := ⟨_, rfl⟩
      have hpa : PaRel w p q mb S M (.slice qv M.length cv) Z (.int .i64 ((0 : Nat) : Int)) w7 := ⟨0, by omega, rfl, HP.out⟩
      have HPA := Lib.hid hpa
      have hMb : M.length ≤ 100000 := by omega
      clear hpa HP hi hMl
      go_wp2
      go_loopw [209] (fun v209 wr => PaRel w p q mb S M (.slice qv M.length cv) Z v209 wr) (fun v209 _ => M.length - (intOf v209).toNat)
      case atStart => exact HPA.out
      case round =>
        clear HPA
        obtain ⟨j, hj, rfl, hP⟩ := hrel
        have HP := Lib.hid hP
        clear hP
        by_cases hjl : j < M.length
        · have b2 : decide ((j : Int) < (M.length : Int)) = true := by simp; omega
          obtain ⟨g2, e2, m0, m1⟩ := Prs.at HP.out.prs j hjl
          obtain ⟨nn, aa, hpr⟩ : ∃ nn aa, M[j] = (nn, aa) := ⟨_, _, rfl⟩
          have hget : mget M nn = some aa := by
            have := mget_mem M HK.out.nd M[j] (List.getElem_mem hjl)
            rw [hpr] at this
            exact this
          rw [hpr] at m0 m1
          subst e2
          have hba := below_new wr (.cells #[.int .i64 nn, .int .i64 aa] 69 (0, 0))
          have hna := heap_alloc_new wr (.cells #[.int .i64 nn, .int .i64 aa] 69 (0, 0))
          obtain ⟨hP5, st5, hf5⟩ := HP.out.below hba
          obtain ⟨Lm, hmp, hperm⟩ := hP5.map
          have hgm : mget Lm nn = some aa := by rw [mget_perm hperm.symm HK.out.nd nn] at hget; exact hget
          have y0 : (wr.alloc (.cells #[.int .i64 nn, .int .i64 aa] 69 (0, 0))).cell? ⟨wr.heap.size, 0, none⟩ = some (.int .i64 nn) := cell_of_row _ _ 0 _ _ _ hna
          have y1 : (wr.alloc (.cells #[.int .i64 nn, .int .i64 aa] 69 (0, 0))).cell? ⟨wr.heap.size, 1, none⟩ = some (.int .i64 aa) := cell_of_row _ _ 1 _ _ _ hna
          have HIM := Lib.hid hmp.imap
          have HGM := Lib.hid hgm
          have HNX := Lib.hid (show PaRel w p q mb S M (.slice (some ⟨g2, 0, none⟩) M.length cv) Z (.int .i64 ((j + 1 : Nat) : Int)) (wr.alloc (.cells #[.int .i64 nn, .int .i64 aa] 69 (0, 0))) from ⟨j + 1, by omega, rfl, hP5⟩)
          have b3 : ((aa != aa) = false) := by simp
          clear hpr hget hba hna hP5 st5 hf5 hmp hperm hgm HP
          go_wp2_with (with_reducible show wpList _ _ _ (⟨some 217, _, _, _, _, _⟩ :: _) _ _
                       refine wpList_imap_ok rfl 47 (.tmp 214) (.tmp 216) rfl _ _ .i64 Try.underlying47 Try.underlying2 mb Lm rfl HIM.out nn rfl (fun _ => by kernel_rfl) ?_
                       rw [HGM.out]
                       dsimp only [Option.getD_some, Option.isSome_some])
          go_roundw
          case measure => simp [intOf]; omega
          case rel => exact HNX.out
        · have b2 : decide ((j : Int) < (M.length : Int)) = false := by simp; omega
          obtain ⟨w8, rfl⟩ : ∃ wo : World, wo = wr := ⟨_, rfl⟩
          have hpb : PbRel w p q mb S M (.slice qv M.length cv) Z (.int .i64 (-1)) w8 := ⟨-1, by omega, by omega, rfl, HP.out⟩
          have HPB := Lib.hid hpb
          clear hpb HP
          go_wp2
          go_loopw [22] (fun v22 wr => PbRel w p q mb S M (.slice qv M.length cv) Z v22 wr) (fun v22 _ => (S.cells.length + 2 - intOf v22).toNat)
          case atStart => exact HPB.out
          case round =>
            clear HPB
            obtain ⟨x, hx1, hx2, rfl, hP⟩ := hrel
            have hsm := HI.out.small
            have HP := Lib.hid hP
            obtain ⟨E, href⟩ := hP.ref
            obtain ⟨cv', bv', A', hrow⟩ := href
            obtain ⟨q1, c1', e1⟩ := own_form hrow.own
            subst e1
            obtain ⟨x0, x1, x2⟩ := row3 hrow.row
            clear hP hrow
            by_cases hxl : x ≤ (S.cells.length : Int)
            · have b4 : decide (x ≤ (S.cells.length : Int)) = true := by simpa using hxl
              obtain ⟨T, hT⟩ : ∃ T, T = (lookL S x).1 := ⟨_, rfl⟩
              obtain ⟨L, hL⟩ : ∃ L, L = (lookL S x).2 := ⟨_, rfl⟩
              have hla := lookL_args HI.out x
              rw [← hT, ← hL] at hla
              obtain ⟨hTa, hLl⟩ := hla
              obtain ⟨D, hsto⟩ := HP.out.sto
              have HQ1 := Lib.hid (sto_LookLO wr hsto HI.out x)
              have HTT := Lib.hid hT
              have HLL := Lib.hid hL
              have HTA := Lib.hid hTa
              clear hT hL hTa hsto
              go_wp2_with fail
              refine HQ1.out.mono ?_
              rintro e9 w9 ⟨v9, rfl, ho9, hb9⟩
              rw [← HTT.out]
              rw [← HLL.out] at ho9
              obtain ⟨q9, c9, e9⟩ := own_form ho9
              subst e9
              have hba := below_new w9 (.cells #[.int .i64 T.k, .int .i64 T.n, .string T.s, .slice none 0 0] 33 (0, 0))
              have hna := heap_alloc_new w9 (.cells #[.int .i64 T.k, .int .i64 T.n, .string T.s, .slice none 0 0] 33 (0, 0))
              obtain ⟨hP9, st9, hf9⟩ := HP.out.below hb9
              obtain ⟨hP10, st10, hf10⟩ := hP9.below hba
              have hvz : ∀ b, (Value.slice q9 L.length c9).ownBlock = some b → b < w9.heap.size ∧ ¬ Z b := fun b e => by
                have := ho9.low b e
                exact ⟨this.2, (hf9 b this.1 this.2).1⟩
              have ho10 := ownlow (Own.below ho9 hba) HP.out.bel.size
              obtain ⟨E, href⟩ := hP10.ref
              have HQ2 := Lib.hid (ref_LookL _ href HI.out x)
              have HP10 := Lib.hid hP10
              have HO10 := Lib.hid ho10
              have HVZ := Lib.hid hvz
              have HN10 := Lib.hid hna
              have hz9 := hb9.size
              have hs10 : (w9.alloc (.cells #[.int .i64 T.k, .int .i64 T.n, .string T.s, .slice none 0 0] 33 (0, 0))).heap.size = w9.heap.size + 1 := by simp
              clear ho9 hb9 hba hna hP9 hP10 st9 st10 hf9 hf10 hvz ho10 href HQ1 HP x0 x1 x2
              dsimp only
              go_wp2_with fail
              refine HQ2.out.mono ?_
              rintro e11 w11 ⟨v11, rfl, hi11, hb11⟩
              rw [← HTT.out]
              rw [← HLL.out] at hi11
              obtain ⟨q11, c11, e11⟩ := hi11.form
              subst e11
              have hba := below_new w11 (.cells #[.int .i64 T.k, .int .i64 T.n, .string T.s, .slice none 0 0] 33 (0, 0))
              have hna := heap_alloc_new w11 (.cells #[.int .i64 T.k, .int .i64 T.n, .string T.s, .slice none 0 0] 33 (0, 0))
              obtain ⟨hP11, -, -⟩ := HP10.out.below hb11
              obtain ⟨hP12, -, -⟩ := hP11.below hba
              have hz11 := hb11.size
              have hr23 := (hba.block w9.heap.size (by omega)).trans ((hb11.block w9.heap.size (by omega)).trans HN10.out)
              have HP12 := Lib.hid hP12
              have HR23 := Lib.hid hr23
              have HR25 := Lib.hid hna
              have HO12 := Lib.hid (Own.below (Own.below HO10.out hb11) hba)
              have HI12 := Lib.hid (IntSl.move (w' := w11.alloc (.cells #[.int .i64 T.k, .int .i64 T.n, .string T.s, .slice none 0 0] 33 (0, 0))) (P' := fun b => w9.heap.size ≤ b) hi11 (fun b hb _ => by have hb' := hb; omega) fun b hb hlt => hba.block b hlt)
              clear hi11 hb11 hba hna hP11 hP12 hr23 HQ2 HP10 HO10 HN10 hs10
              dsimp only
              go_upto_region 51 with fail
              obtain ⟨w12, hw12⟩ : ∃ w12, w12 = w11.alloc (.cells #[.int .i64 T.k, .int .i64 T.n, .string T.s, .slice none 0 0] 33 (0, 0)) := ⟨_, rfl⟩
              rw [← hw12] at HP12 HR23 HR25 HO12 HI12 ⊢
              clear hw12
              obtain ⟨r23, h23⟩ : ∃ r, r = w9.heap.size := ⟨_, rfl⟩
              rw [← h23] at HR23 HI12 HVZ ⊢
              obtain ⟨r25, h25⟩ : ∃ r, r = w11.heap.size := ⟨_, rfl⟩
              rw [← h25] at HR25 ⊢
              clear h23 h25
              go_cut [273] from 250 to 272 (fun v wx => v = .bool false ∧ w12 = wx)
              case first =>
                obtain ⟨D, hsto⟩ := HP12.out.sto
                obtain ⟨E, href⟩ := HP12.out.ref
                by_cases hin : inR S x
                · unfold inR at hin
                  obtain ⟨y, rfl⟩ : ∃ y : Nat, x = (y : Int) := ⟨x.toNat, by omega⟩
                  obtain ⟨f, hc, -⟩ := HI.out.stoIn.fol (x := y) (by omega)
                  have HQ1 := Lib.hid (ref_there w12 href y)
                  have HQ2 := Lib.hid (sto_Follow w12 hsto f y _ hc)
                  have HQ3 := Lib.hid (ref_Follow w12 href HI.out.kindOk f y _ hc)
                  have HDY := Lib.hid (dec_yes (x := y) (n := S.cells.length) (by omega))
                  obtain ⟨r, hr⟩ : ∃ r, r = fol S y := ⟨_, rfl⟩
                  rw [← hr] at HQ2 HQ3
                  have b5 : (((r : Int) != (r : Int)) = false) := by simp
                  clear hsto href hc hr
                  go_wp2_with fail
                  refine HQ1.out.mono ?_
                  rintro e6 w6 ⟨rfl, rfl⟩
                  rw [HDY.out]
                  go_wp2_with fail
                  refine HQ2.out.mono ?_
                  rintro e6 w6 ⟨rfl, rfl⟩
                  go_wp2_with fail
                  refine HQ3.out.mono ?_
                  rintro e6 w6 ⟨rfl, rfl⟩
                  go_wp2_with fail
                  refine HQ1.out.mono ?_
                  rintro e6 w6 ⟨rfl, rfl⟩
                  rw [HDY.out]
                  go_wp2
                  go_meet
                  exact ⟨rfl, rfl⟩
                · unfold inR at hin
                  have HQ1 := Lib.hid (ref_there w12 href x)
                  have HQ2 := Lib.hid (sto_Follow_no w12 hsto x hin)
                  have HDN := Lib.hid (dec_no hin)
                  clear hsto href hin
                  go_wp2_with fail
                  refine HQ1.out.mono ?_
                  rintro e6 w6 ⟨rfl, rfl⟩
                  rw [HDN.out]
                  go_wp2_with fail
                  refine HQ1.out.mono ?_
                  rintro e6 w6 ⟨rfl, rfl⟩
                  rw [HDN.out]
                  go_wp2_with fail
                  refine HQ2.out.mono ?_
                  rintro e6 w6 ⟨rfl, rfl⟩
                  go_wp2
                  go_meet
                  exact ⟨rfl, rfl⟩
              case rest =>
                obtain ⟨rfl, rfl⟩ := hcut
                obtain ⟨y0, y1, y2, y3⟩ := row4 HR23.out
                obtain ⟨z0, z1, z2, z3⟩ := row4 HR25.out
                have hts : T.size ≤ 1 := by
                  obtain ⟨k', n', s', a'⟩ := T
                  have := HTA.out
                  simp only [Tm.args] at this
                  subst this
                  simp [Tm.size, sizeL]
                have hit : IsTm w12 (fun _ => True) (.agg #[.int .i64 T.k, .int .i64 T.n, .string T.s, .slice none 0 0]) T := ⟨none, 0, by rw [HTA.out]; rfl, by rw [HTA.out]; unfold ArgsFrom; trivial⟩
                have HQ3 := Lib.hid (ref_same 1 T T _ _ _ _ w12 hts (by omega) hit hit)
                clear hit hts
                go_wp2_with fail
                refine HQ3.out.mono ?_
                rintro e13 w13 ⟨rfl, hb13⟩
                rw [sameT_refl]
                have HPC := Lib.hid (show PcRel w p q mb S M (.slice qv M.length cv) Z L r23 (.slice q9 L.length c9) (.slice q11 L.length c11) (.int .i64 ((0 : Nat) : Int)) w13 from ⟨0, by omega, rfl, (HP12.out.below hb13).1, by simpa using Own.below HO12.out hb13, HVZ.out, HI12.out.move (fun b hb _ => hb) fun b hb hlt => hb13.block b hlt⟩)
                clear hb13 HQ3 y0 y1 y2 y3 z0 z1 z2 z3 HP12 HR23 HR25 HO12 HI12 HVZ HTT HLL HTA
                have bLL : (((L.length : Int) != (L.length : Int)) = false) := by simp
                go_wp2
                go_loopw [287] (fun v287 wr => PcRel w p q mb S M (.slice qv M.length cv) Z L r23 (.slice q9 L.length c9) (.slice q11 L.length c11) v287 wr) (fun v287 _ => L.length - (intOf v287).toNat)
                case atStart => exact HPC.out
                case round =>
                  clear HPC
                  obtain ⟨k, hk, rfl, hP, hO, hV, hL⟩ := hrel
                  have HP := Lib.hid hP
                  have HO := Lib.hid hO
                  have HV := Lib.hid hV
                  have HL := Lib.hid hL
                  clear hP hO hV hL
                  by_cases hkl : k < L.length
                  · have b5 : decide ((k : Int) < (L.length : Int)) = true := by simp; omega
                    have hlen : (List.replicate k (-1) ++ L.drop k).length = L.length := by simp; omega
                    obtain ⟨g9, rfl⟩ : ∃ g9, q9 = some ⟨g9, 0, none⟩ := by
                      rcases HO.out.form with ⟨e, e2⟩ | ⟨g, cap, e⟩
                      · rw [e2] at hlen; simp only [List.length_nil] at hlen; omega
                      · simp only [Value.slice.injEq] at e; exact ⟨g, e.1⟩
                    have hl9 := HO.out.caps
                    have hl11 := ints_roomA HL.out
                    go_upto_region 58 with fail
                    refine wp_region_rest (by kernel_rfl) ?_
                    have hdb := (Below.refl wr.heap.size wr).drew
                    have HP0 := Lib.hid (HP.out.below hdb).1
                    have HO0 := Lib.hid (Own.below HO.out hdb)
                    have HL0 := Lib.hid (HL.out.move (w' := wr.drew) (P' := fun b => r23 ≤ b) (fun b hb _ => hb) fun b hb hlt => hdb.block b hlt)
                    clear hdb HP HO HL
                    generalize wr.drew = W0 at *
                    obtain ⟨b7, o7, e7, d26⟩ := ints_pickA HL0.out k hkl
                    subst e7
                    obtain ⟨cs, hcs, hcc⟩ := HO0.out.elem hlen k (by omega)
                    have hcs' : cs = [.int .i64 (List.replicate k (-1) ++ L.drop k)[k]] := hcs
                    have helt : (List.replicate k (-1) ++ L.drop k)[k]'(by omega) = L[k] := by rw [List.getElem_append_right (by simp)]; simp
                    rw [helt] at hcs'
                    subst hcs'
                    have d24 : W0.cell? ⟨g9, k, none⟩ = some (.int .i64 L[k]) := by have := hcc 0 (by decide); rw [show k * iKind.sz + 0 = k from Nat.mul_one k] at this; exact this
                    obtain ⟨a, ha⟩ : ∃ a, a = L[k] := ⟨_, rfl⟩
                    rw [← ha] at d24 d26
                    have b6 : ((a != a) = false) := by simp
                    have hst := HO0.out.stored hlen k (by omega) 0 (by decide) (.int .i64 (-1)) (-1) (by
                      rintro cs h
                      have h' : cs = [.int .i64 ((List.replicate k (-1) ++ L.drop k)[k]'(by omega))] := h
                      subst h'
                      rfl)
                    rw [show k * iKind.sz + 0 = k from Nat.mul_one k] at hst
                    have hset : (List.replicate k (-1) ++ L.drop k).set k (-1) = List.replicate (k + 1) (-1) ++ L.drop (k + 1) := by
                      rw [List.set_append_right _ _ (by simp), List.length_replicate, Nat.sub_self, List.drop_eq_getElem_cons hkl, List.set_cons_zero, List.replicate_succ', List.append_assoc]
                      rfl
                    rw [hset] at hst
                    have hft := HO0.out.thaw hlen k
                    have hsz : (W0.setCell ⟨g9, k, none⟩ (.int .i64 (-1))).heap.size = W0.heap.size := by simp [World.setCell]
                    have hgr : W0.grownBy (W0.setCell ⟨g9, k, none⟩ (.int .i64 (-1))) (some g9) := ⟨rfl, rfl, rfl, Nat.le_of_eq hsz.symm, fun b _ hb => Below.heap_setCell _ _ _ _ fun e => hb (by rw [e])⟩
                    have hv9 := HV.out g9 rfl
                    have hlow := (HO0.out.low g9 rfl).1
                    have HNX := Lib.hid (show PcRel w p q mb S M (.slice qv M.length cv) Z L r23 (.slice (some ⟨g9, 0, none⟩) L.length c9) (.slice (some ⟨b7, o7, none⟩) L.length c11) (.int .i64 ((k + 1 : Nat) : Int)) (W0.setCell ⟨g9, k, none⟩ (.int .i64 (-1))) from
                      ⟨k + 1, by omega, rfl, HP0.out.grown hgr (fun b e => by cases e; exact ⟨hv9.2, hlow⟩), hst, HV.out, HL0.out.move (fun b hb _ => hb) fun b hb _ => Below.heap_setCell _ _ _ _ (by have hb' := hb; show b ≠ g9; omega)⟩)
                    clear hst hset hgr hcc hcs ha helt HP0 HO0 HL0 HV hsz
                    refine rest_chainP (fun u => u = W0) 0 8 (.soft 0 (.soft 1 (.soft 2 (.soft 3 (.soft 4 (.soft 5 (.soft 6 (.soft 7 .nil)))))))) (.soft _ (.soft _ (.soft _ (.soft _ (.soft _ (.soft _ (.soft _ (.soft _ .nil)))))))) ⟨rfl, ⟨rfl, ⟨rfl, ⟨rfl, ⟨rfl, ⟨rfl, ⟨rfl, ⟨rfl, trivial⟩⟩⟩⟩⟩⟩⟩⟩ (by kernel_rfl) (by kernel_rfl) (by kernel_rfl) (by kernel_rfl) (.inr (by kernel_rfl)) rfl ?_
                    refine chainP_soft (a1 := ?ma59) (by kernel_rfl) (by kernel_rfl) ?mh59 ?mr59
                    case mh59 =>
                      intro u hu E hE
                      subst hu
                      go_wp2
                      rfl
                    refine chainP_soft (a1 := ?ma60) (by kernel_rfl) (by kernel_rfl) ?mh60 ?mr60
                    case mh60 =>
                      intro u hu E hE
                      subst hu
                      go_wp2
                      rfl
                    refine chainP_soft (a1 := ?ma61) (by kernel_rfl) (by kernel_rfl) ?mh61 ?mr61
                    case mh61 =>
                      intro u hu E hE
                      subst hu
                      go_wp2
                      rfl
                    refine chainP_soft (a1 := ?ma62) (by kernel_rfl) (by kernel_rfl) ?mh62 ?mr62
                    case mh62 =>
                      intro u hu E hE
                      subst hu
                      go_wp2
                      rfl
                    refine chainP_soft (a1 := ?ma63) (by kernel_rfl) (by kernel_rfl) ?mh63 ?mr63
                    case mh63 =>
                      intro u hu E hE
                      subst hu
                      go_wp2
                      rfl
                    refine chainP_soft (a1 := ?ma64) (by kernel_rfl) (by kernel_rfl) ?mh64 ?mr64
                    case mh64 =>
                      intro u hu E hE
                      subst hu
                      go_wp2
                      rfl
                    refine chainP_soft (a1 := ?ma65) (by kernel_rfl) (by kernel_rfl) ?mh65 ?mr65
                    case mh65 =>
                      intro u hu E hE
                      subst hu
                      go_wp2
                      rfl
                    refine chainP_soft (a1 := ?ma66) (by kernel_rfl) (by kernel_rfl) ?mh66 ?mr66
                    case mh66 =>
                      intro u hu E hE
                      subst hu
                      go_wp2
                      rfl
                    refine chainP_nil ?_
                    refine rest_lineL 8 9 [_] rfl (by kernel_rfl) (by decide) (by decide) (by kernel_rfl) ?_
                    go_wp2
                    refine then_rest (rest_end (by decide) ?_)
                    go_wp2
                    go_roundw
                    case measure => simp [intOf]; omega
                    case rel => exact HNX.out
                  · have b5 : decide ((k : Int) < (L.length : Int)) = false := by simp; omega
                    obtain ⟨w14, rfl⟩ : ∃ wo : World, wo = wr := ⟨_, rfl⟩
                    obtain ⟨D, hsto⟩ := HP.out.sto
                    obtain ⟨t, ht⟩ : ∃ t, t = (getL S x).1 := ⟨_, rfl⟩
                    obtain ⟨er, her⟩ : ∃ er, er = (getL S x).2 := ⟨_, rfl⟩
                    have hts : t.size ≤ 20000 := by
                      rw [ht]
                      unfold getL
                      split
                      · exact getT_size _ _
                      · simp [zeroTm, Tm.size, sizeL]
                    have hq1 := sto_GetL w14 hsto HI.out x
                    rw [← ht, ← her] at hq1
                    have HQ1 := Lib.hid hq1
                    have HTG := Lib.hid ht
                    have HEG := Lib.hid her
                    have b6 : ((er != er) = false) := by simp
                    clear hq1 ht her hsto HO HV HL
                    go_wp2_with fail
                    refine HQ1.out.mono ?_
                    rintro e15 w15 ⟨v15, rfl, hi15, hb15⟩
                    obtain ⟨a15, c15, e15⟩ := hi15.form
                    subst e15
                    have hba := below_new w15 (.cells #[.int .i64 t.k, .int .i64 t.n, .string t.s, .slice a15 t.args.length c15] 33 (0, 0))
                    have hna := heap_alloc_new w15 (.cells #[.int .i64 t.k, .int .i64 t.n, .string t.s, .slice a15 t.args.length c15] 33 (0, 0))
                    have hP16 := ((HP.out.below hb15).1.below hba).1
                    obtain ⟨E, href⟩ := hP16.ref
                    have hq2 := ref_GetL _ href HI.out x
                    rw [← HTG.out, ← HEG.out] at hq2
                    have HQ2 := Lib.hid hq2
                    have HP16 := Lib.hid hP16
                    have HR28 := Lib.hid hna
                    have HI16 := Lib.hid (hi15.below hba)
                    clear hq2 href hP16 hba hna hi15 hb15 HQ1 HP HTG HEG
                    dsimp only
                    go_wp2_with fail
                    refine HQ2.out.mono ?_
                    rintro e17 w17 ⟨v17, rfl, hi17, hb17⟩
                    obtain ⟨a17, c17, e17⟩ := hi17.form
                    subst e17
                    have hba := below_new w17 (.cells #[.int .i64 t.k, .int .i64 t.n, .string t.s, .slice a17 t.args.length c17] 33 (0, 0))
                    have hna := heap_alloc_new w17 (.cells #[.int .i64 t.k, .int .i64 t.n, .string t.s, .slice a17 t.args.length c17] 33 (0, 0))
                    have hrl := (Array.getElem?_eq_some_iff.1 HR28.out).1
                    have hr28 := (hba.block w15.heap.size (by have := hb17.size; omega)).trans ((hb17.block w15.heap.size hrl).trans HR28.out)
                    have HP18 := Lib.hid ((HP16.out.below hb17).1.below hba).1
                    have HQ3 := Lib.hid (ref_same 20000 t t _ _ _ _ _ hts (by omega) ((HI16.out.below hb17).below hba) (hi17.below hba))
                    obtain ⟨y0, y1, y2, y3⟩ := row4 hr28
                    obtain ⟨z0, z1, z2, z3⟩ := row4 hna
                    clear hba hna hr28 hi17 hb17 HQ2 HI16 HP16 HR28 hrl
                    dsimp only
                    go_wp2_with fail
                    refine HQ3.out.mono ?_
                    rintro e19 w19 ⟨rfl, hb19⟩
                    rw [sameT_refl]
                    have HNX := Lib.hid (show PbRel w p q mb S M (.slice qv M.length cv) Z (.int .i64 (x + 1)) w19 from ⟨x + 1, by omega, by omega, rfl, (HP18.out.below hb19).1⟩)
                    clear hb19 HQ3 HP18 y0 y1 y2 y3 z0 z1 z2 z3
                    go_wp2
                    go_roundw
                    case measure => simp [intOf]; omega
                    case rel => exact HNX.out
            · have b4 : decide (x ≤ (S.cells.length : Int)) = false := by simpa using hxl
              go_wp2
              go_ret
              exact ⟨rfl, HP.out.bel⟩
end Go.Proofs.Ytoklbeogmcdgaaa.Tms
