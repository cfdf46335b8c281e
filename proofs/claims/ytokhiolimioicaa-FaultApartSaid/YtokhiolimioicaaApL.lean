
/-
  FaultApart, walked over the program.
-/
import Derived.Test.YtokhiolimioicaaApP
import Derived.Test.YtokhiolimioicaaCmp
import Derived.Test.YtokhiolimioicaaChn
namespace Go.Proofs.Ytokhiolimioicaa.Tms
open Go Go.RowKit Go.Proofs.Ytokhiolimioicaa.Reg
set_option linter.unusedVariables false

abbrev ownV : Value := .agg #[.int .i64 12, .int .i64 13, .int .i64 14, .int .i64 8, .int .i64 11, .int .i64 10, .int .i64 3]
theorem own_ix0 (w : World) : (Instr.index 47 ownV (.int .i64 ((0 : Nat) : Int))).run Try.prog w = .ok (.int .i64 (ownE.getD 0 0)) w := by kernel_rfl
theorem own_ix1 (w : World) : (Instr.index 47 ownV (.int .i64 ((1 : Nat) : Int))).run Try.prog w = .ok (.int .i64 (ownE.getD 1 0)) w := by kernel_rfl
theorem own_ix2 (w : World) : (Instr.index 47 ownV (.int .i64 ((2 : Nat) : Int))).run Try.prog w = .ok (.int .i64 (ownE.getD 2 0)) w := by kernel_rfl
theorem own_ix3 (w : World) : (Instr.index 47 ownV (.int .i64 ((3 : Nat) : Int))).run Try.prog w = .ok (.int .i64 (ownE.getD 3 0)) w := by kernel_rfl
theorem own_ix4 (w : World) : (Instr.index 47 ownV (.int .i64 ((4 : Nat) : Int))).run Try.prog w = .ok (.int .i64 (ownE.getD 4 0)) w := by kernel_rfl
theorem own_ix5 (w : World) : (Instr.index 47 ownV (.int .i64 ((5 : Nat) : Int))).run Try.prog w = .ok (.int .i64 (ownE.getD 5 0)) w := by kernel_rfl
theorem own_ix6 (w : World) : (Instr.index 47 ownV (.int .i64 ((6 : Nat) : Int))).run Try.prog w = .ok (.int .i64 (ownE.getD 6 0)) w := by kernel_rfl
theorem own_index (i : Nat) (h : i < 7) (w : World) : (Instr.index 47 ownV (.int .i64 i)).run Try.prog w = .ok (.int .i64 (ownE.getD i 0)) w := by
  have : i = 0 ∨ i = 1 ∨ i = 2 ∨ i = 3 ∨ i = 4 ∨ i = 5 ∨ i = 6 := by omega
  rcases this with rfl | rfl | rfl | rfl | rfl | rfl | rfl
  · exact own_ix0 w
  · exact own_ix1 w
  · exact own_ix2 w
  · exact own_ix3 w
  · exact own_ix4 w
  · exact own_ix5 w
  · exact own_ix6 w
theorem own_sl0 (b : Nat) (w : World) : (Instr.sliceAt 47 (.pointer (some ⟨b, 0, none⟩)) none (some (.int .i64 ((0 : Nat) : Int))) none).run Try.prog w = .ok (.slice (some ⟨b, 0, none⟩) 0 7) w := by kernel_rfl
theorem own_sl1 (b : Nat) (w : World) : (Instr.sliceAt 47 (.pointer (some ⟨b, 0, none⟩)) none (some (.int .i64 ((1 : Nat) : Int))) none).run Try.prog w = .ok (.slice (some ⟨b, 0, none⟩) 1 7) w := by kernel_rfl
theorem own_sl2 (b : Nat) (w : World) : (Instr.sliceAt 47 (.pointer (some ⟨b, 0, none⟩)) none (some (.int .i64 ((2 : Nat) : Int))) none).run Try.prog w = .ok (.slice (some ⟨b, 0, none⟩) 2 7) w := by kernel_rfl
theorem own_sl3 (b : Nat) (w : World) : (Instr.sliceAt 47 (.pointer (some ⟨b, 0, none⟩)) none (some (.int .i64 ((3 : Nat) : Int))) none).run Try.prog w = .ok (.slice (some ⟨b, 0, none⟩) 3 7) w := by kernel_rfl
theorem own_sl4 (b : Nat) (w : World) : (Instr.sliceAt 47 (.pointer (some ⟨b, 0, none⟩)) none (some (.int .i64 ((4 : Nat) : Int))) none).run Try.prog w = .ok (.slice (some ⟨b, 0, none⟩) 4 7) w := by kernel_rfl
theorem own_sl5 (b : Nat) (w : World) : (Instr.sliceAt 47 (.pointer (some ⟨b, 0, none⟩)) none (some (.int .i64 ((5 : Nat) : Int))) none).run Try.prog w = .ok (.slice (some ⟨b, 0, none⟩) 5 7) w := by kernel_rfl
theorem own_sl6 (b : Nat) (w : World) : (Instr.sliceAt 47 (.pointer (some ⟨b, 0, none⟩)) none (some (.int .i64 ((6 : Nat) : Int))) none).run Try.prog w = .ok (.slice (some ⟨b, 0, none⟩) 6 7) w := by kernel_rfl
theorem own_slice (i : Nat) (h : i < 7) (b : Nat) (w : World) : (Instr.sliceAt 47 (.pointer (some ⟨b, 0, none⟩)) none (some (.int .i64 i)) none).run Try.prog w = .ok (.slice (some ⟨b, 0, none⟩) i 7) w := by
  have : i = 0 ∨ i = 1 ∨ i = 2 ∨ i = 3 ∨ i = 4 ∨ i = 5 ∨ i = 6 := by omega
  rcases this with rfl | rfl | rfl | rfl | rfl | rfl | rfl
  · exact own_sl0 b w
  · exact own_sl1 b w
  · exact own_sl2 b w
  · exact own_sl3 b w
  · exact own_sl4 b w
  · exact own_sl5 b w
  · exact own_sl6 b w
theorem own_cell {w : World} {b : Nat} {T : TypeId} {fr : Nat × Nat} (h : w.heap[b]? = some (.cells #[.int .i64 12, .int .i64 13, .int .i64 14, .int .i64 8, .int .i64 11, .int .i64 10, .int .i64 3] T fr)) (i : Nat) (hi : i < 7) : w.cell? ⟨b, i, none⟩ = some (.int .i64 (ownE.getD i 0)) := by
  rw [cell_of_row w b i _ _ _ h]
  have : i = 0 ∨ i = 1 ∨ i = 2 ∨ i = 3 ∨ i = 4 ∨ i = 5 ∨ i = 6 := by omega
  rcases this with rfl | rfl | rfl | rfl | rfl | rfl | rfl <;> rfl

set_option maxRecDepth 100000 in
set_option maxHeartbeats 4000000 in
theorem law_apart (s : ByteArray) (L : List Pt) (vl : Value) (w : World) (hl : PtSl w vl L) : Calls Try.prog 9 #[.string s, vl] w (Says true w) := by
  obtain ⟨al, cl, rfl, hlc, hcm⟩ := hl.form
  have HL := Lib.hid hl
  clear hl
  by_cases h60 : 60 < L.length
  · have hd : decide (60 < (L.length : Int)) = true := by simp; omega
    go_enter Try.func9, Try.ntmps9
    go_wp2_with (first
      | (go_at_call 39; refine (flt_alive _).mono ?_; rintro e1 w1 ⟨rfl, hb1⟩; have HB := Lib.hid hb1; clear hb1)
      | (go_at_call 15; refine (ref_great L _ _ (HL.out.below HB.out)).mono ?_; rintro e2 w2 ⟨rfl, rfl⟩))
    go_ret
    exact ⟨rfl, HB.out⟩
  have hd : decide (60 < (L.length : Int)) = false := by simp; omega
  by_cases h500 : 500 < s.size
  · go_enter Try.func9, Try.ntmps9
    go_wp2_with (first
      | (go_at_call 39; refine (flt_alive _).mono ?_; rintro e1 w1 ⟨rfl, hb1⟩; have HB := Lib.hid hb1; clear hb1)
      | (go_at_call 15; refine (ref_great L _ _ (HL.out.below HB.out)).mono ?_; rintro e2 w2 ⟨rfl, rfl⟩))
    go_ret
    exact ⟨rfl, HB.out⟩
  have htz := goodT_size L
  have hck := fun e n => apart_check e s L n (by omega) (by omega)
  have hcp := apart_cmp s (goodT L)
  have HT := Lib.hid htz
  have HCK := Lib.hid hck
  have HCP := Lib.hid hcp
  have hix := own_index
  have HIX := Lib.hid hix
  have hmt := good_may L
  have HMT := Lib.hid hmt
  clear htz hck hcp hix hmt
  go_enter Try.func9, Try.ntmps9
  go_wp2_with (first
    | (go_at_call 39; refine (flt_alive _).mono ?_; rintro e1 w1 ⟨rfl, hb1⟩; have HB := Lib.hid hb1; clear hb1)
    | (go_at_call 15; refine (ref_great L _ _ (HL.out.below HB.out)).mono ?_; rintro e2 w2 ⟨rfl, rfl⟩)
    | (go_at_call 23
       refine (ref_good L _ _ (by omega) (HL.out.below HB.out)).mono ?_
       rintro e3 w3 ⟨v3, rfl, hi3, hb3⟩
       have HG := Lib.hid hi3
       replace HB := Lib.hid (HB.out.trans (hb3.mono HB.out.size))
       clear hi3 hb3
       obtain ⟨a3, c3, rfl⟩ := HG.out.form))
  have hb5 : Below w3.heap.size w3 _ := ((Below.refl w3.heap.size w3).alloc (Nat.le_refl _) (.cells #[.int .i64 (goodT L).k, .int .i64 (goodT L).n, .string (goodT L).s, .slice a3 (goodT L).args.length c3] 27 (0, 0))).alloc (by simp) (.cells #[.int .i64 12, .int .i64 13, .int .i64 14, .int .i64 8, .int .i64 11, .int .i64 10, .int .i64 3] 47 (0, 0))
  obtain ⟨t0, t1, tsz, -⟩ := two w3 (.cells #[.int .i64 (goodT L).k, .int .i64 (goodT L).n, .string (goodT L).s, .slice a3 (goodT L).args.length c3] 27 (0, 0)) (.cells #[.int .i64 12, .int .i64 13, .int .i64 14, .int .i64 8, .int .i64 11, .int .i64 10, .int .i64 3] 47 (0, 0))
  generalize ((w3.alloc (.cells #[.int .i64 (goodT L).k, .int .i64 (goodT L).n, .string (goodT L).s, .slice a3 (goodT L).args.length c3] 27 (0, 0))).alloc (.cells #[.int .i64 12, .int .i64 13, .int .i64 14, .int .i64 8, .int .i64 11, .int .i64 10, .int .i64 3] 47 (0, 0))) = W at *
  have HG5 := Lib.hid (HG.out.below hb5)
  have HBW := Lib.hid (HB.out.trans (hb5.mono HB.out.size))
  have T0 := Lib.hid t0
  have T1 := Lib.hid t1
  have TS := Lib.hid tsz
  have hT : (goodT L).size ≤ 1000000 := by have := HT.out; omega
  clear t0 t1 tsz hb5 HG HB HT
  generalize goodT L = T at *
  generalize w3.heap.size = b5 at *
  have hst : ∃ i : Nat, i ≤ 7 ∧ (.int .i64 0 : Value) = .int .i64 i ∧ Below W.heap.size W W := ⟨0, by omega, rfl, Below.refl _ _⟩
  have HST := Lib.hid hst
  clear hst
  go_loopw [25] (fun c wr => ∃ i : Nat, i ≤ 7 ∧ c = .int .i64 i ∧ Below W.heap.size W wr) (fun c _ => 7 - (intOf c).toNat)
  case atStart => exact HST.out
  case round =>
    obtain ⟨i, hi, rfl, hb⟩ := hrel
    clear HST
    have HBR := Lib.hid hb
    have HBA := Lib.hid (HBW.out.trans (hb.mono HBW.out.size))
    have hG := HG5.out.below hb
    obtain ⟨g0, g1, g2, g3⟩ := row4 ((hb.block b5 (by have := TS.out; omega)).trans T0.out)
    have hr6 := (hb.block (b5 + 1) (by have := TS.out; omega)).trans T1.out
    have HG6 := Lib.hid hG
    have HR6 := Lib.hid hr6
    have hsz : b5 + 2 ≤ wr.heap.size := by have := TS.out; have := hb.size; omega
    clear hb hG hr6
    by_cases h7 : i = 7
    · subst h7
      go_wp2
      go_ret
      exact ⟨rfl, HBA.out⟩
    have hi7 : i < 7 := by omega
    have hlt : (i : Int) < 7 := by omega
    have hix := HIX.out i hi7
    have hsl := own_slice i hi7 (b5 + 1)
    generalize he : ownE.getD i 0 = e at *
    have HE := Lib.hid he
    clear he
    go_wp2_with (first
      | (go_at_call 41
         refine (flt_formal e s T _ _ _ (by omega) HG6.out).mono ?_
         rintro e4 w4 ⟨v4, rfl, hi4, hb4⟩
         have H4 := Lib.hid hi4
         have HB4 := Lib.hid hb4
         clear hi4 hb4
         obtain ⟨a4, c4, rfl⟩ := H4.out.form)
      | (go_at_call 40
         refine (flt_error _ s i _ _ _ (by have := (formal_may e (s := s) (t := T) (by omega) (HMT.out)).2; omega) H4.out).mono ?_
         rintro e5 w5 ⟨v5, rfl, hi5, hb5⟩
         have H5 := Lib.hid hi5
         have HB5 := Lib.hid (HB4.out.trans (hb5.mono HB4.out.size))
         clear hi5 hb5
         obtain ⟨a5, c5, rfl⟩ := H5.out.form)
      | (go_at_call 17
         have f0 : (errorT (formalE e s T) s i).k = 4 := rfl
         have f1 : (errorT (formalE e s T) s i).n = 0 := rfl
         have f2 : (errorT (formalE e s T) s i).s = (⟨#[101, 114, 114, 111, 114]⟩ : ByteArray) := rfl
         have f3 : (errorT (formalE e s T) s i).args.length = 2 := rfl
         rw [f0, f1, f2, f3]
         have hba : Below w5.heap.size w5 (w5.alloc (.cells #[.int .i64 4, .int .i64 0, .string (⟨#[101, 114, 114, 111, 114]⟩ : ByteArray), .slice a5 2 c5] 27 (0, 0))) := (Below.refl _ _).alloc (Nat.le_refl _) _
         have hrow := heap_alloc_new w5 (.cells #[.int .i64 4, .int .i64 0, .string (⟨#[101, 114, 114, 111, 114]⟩ : ByteArray), .slice a5 2 c5] 27 (0, 0))
         have hsz5 : (w5.alloc (.cells #[.int .i64 4, .int .i64 0, .string (⟨#[101, 114, 114, 111, 114]⟩ : ByteArray), .slice a5 2 c5] 27 (0, 0))).heap.size = w5.heap.size + 1 := by simp
         have h5 : IsTm w5 _ (.agg #[.int .i64 4, .int .i64 0, .string (⟨#[101, 114, 114, 111, 114]⟩ : ByteArray), .slice a5 2 c5]) (errorT (formalE e s T) s i) := H5.out
         have hsE : (errorT (formalE e s T) s i).size ≤ 1000000000 := by
           have h1 := (formal_may e (s := s) (t := T) (by omega) (HMT.out)).2
           have h2 : (errorT (formalE e s T) s i).size = (formalE e s T).size + 4 := by simp [errorT, compT, indT, atomT, intT, Tm.size, sizeL]
           omega
         generalize w5.alloc (.cells #[.int .i64 4, .int .i64 0, .string (⟨#[101, 114, 114, 111, 114]⟩ : ByteArray), .slice a5 2 c5] 27 (0, 0)) = w5' at *
         refine (tm_Check _ _ _ _ hsE (h5.below hba)).mono ?_
         rintro e6 w6 ⟨rfl, hb6⟩
         rw [HCK.out e i]
         obtain ⟨y0, y1, y2, y3⟩ := row4 ((hb6.block w5.heap.size (by omega)).trans hrow)
         have HB6 := Lib.hid (HB5.out.trans ((hba.trans (hb6.mono (by omega))).mono HB5.out.size))
         clear hba hrow hsz5 h5 hsE hb6 f0 f1 f2 f3))
    have hbm := HB6.out
    have hm5 : wr.heap.size ≤ w6.heap.size := hbm.size
    have HG7 := Lib.hid (HG6.out.below hbm)
    obtain ⟨k0, k1, k2, k3⟩ := row4 ((hbm.block b5 (by omega)).trans ((HBR.out.block b5 (by have := TS.out; omega)).trans T0.out))
    have hr7 := (hbm.block (b5 + 1) (by omega)).trans HR6.out
    have HR7 := Lib.hid hr7
    have HBA7 := Lib.hid (HBA.out.trans (hbm.mono HBA.out.size))
    have HBW7 := Lib.hid (HBR.out.trans (hbm.mono HBR.out.size))
    clear hbm hr7 HG6 HR6 HB4 HB5 HB6 H4 H5 g0 g1 g2 g3 y0 y1 y2 y3 hix hsl
    have hst : ∃ j : Nat, j ≤ i ∧ (.int .i64 0 : Value) = .int .i64 j ∧ Below w6.heap.size w6 w6 := ⟨0, by omega, rfl, Below.refl _ _⟩
    have HST := Lib.hid hst
    clear hst
    go_loopw [53] (fun c wr => ∃ j : Nat, j ≤ i ∧ c = .int .i64 j ∧ Below w6.heap.size w6 wr) (fun c _ => i - (intOf c).toNat)
    case atStart => exact HST.out
    case round =>
      obtain ⟨j, hj, rfl, hb⟩ := hrel
      clear HST
      have HBJ := Lib.hid hb
      have HBA8 := Lib.hid (HBA7.out.trans (hb.mono HBA7.out.size))
      have HBW8 := Lib.hid (HBW7.out.trans (hb.mono HBW7.out.size))
      have HG8 := Lib.hid (HG7.out.below hb)
      have hb5l : b5 + 1 < w6.heap.size := by omega
      obtain ⟨g0, g1, g2, g3⟩ : wr.cell? ⟨b5, 0, none⟩ = _ ∧ wr.cell? ⟨b5, 1, none⟩ = _ ∧ wr.cell? ⟨b5, 2, none⟩ = _ ∧ wr.cell? ⟨b5, 3, none⟩ = _ := ⟨(hb.cell (p := ⟨b5, 0, none⟩) (by show b5 < _; omega)).trans k0, (hb.cell (p := ⟨b5, 1, none⟩) (by show b5 < _; omega)).trans k1, (hb.cell (p := ⟨b5, 2, none⟩) (by show b5 < _; omega)).trans k2, (hb.cell (p := ⟨b5, 3, none⟩) (by show b5 < _; omega)).trans k3⟩
      by_cases hji : j = i
      · subst hji
        clear hb
        go_wp2
        go_roundw
        case rel => exact ⟨j + 1, by omega, by go_num, HBW8.out⟩
        case measure => simp [intOf]; omega
      have hjlt : j < i := by omega
      have hjl : (j : Int) < (i : Int) := by omega
      have o0 := own_cell ((hb.block (b5 + 1) hb5l).trans HR7.out) j (by omega)
      have hne := HCP.out i j hi7 hjlt
      rw [HE.out] at hne
      clear hb
      generalize ownE.getD j 0 = f at *
      have hq : (cmpT (formalE e s T) (formalE f s T) == 0) = false := by simpa using hne
      clear hne
      go_wp2
      refine wp_region_rest (by kernel_rfl) ?_
      have hd : Below wr.heap.size wr wr.drew := (Below.refl _ _).drew
      replace HBW8 := Lib.hid HBW8.out.drew
      replace HBJ := Lib.hid HBJ.out.drew
      replace HG8 := Lib.hid (HG8.out.below hd)
      replace g0 : wr.drew.cell? ⟨b5, 0, none⟩ = _ := g0
      replace g1 : wr.drew.cell? ⟨b5, 1, none⟩ = _ := g1
      replace g2 : wr.drew.cell? ⟨b5, 2, none⟩ = _ := g2
      replace g3 : wr.drew.cell? ⟨b5, 3, none⟩ = _ := g3
      clear hd o0
      generalize wr.drew = W0 at *
      refine rest_chain 0 10 [(false, [0, 1, 2, 4, 5, 6]), (true, [3]), (true, [7]), (true, [8]), (false, [9])] [(false, [_, _, _, _, _, _]), (true, [_]), (true, [_]), (true, [_]), (false, [_])] rfl (by kernel_rfl) (by kernel_rfl) rfl (by kernel_rfl) (by kernel_rfl) (.inl rfl) ?_
      refine chain_soft ?_
      intro E hE
      go_wp2
      clear g0 g1 g2 g3
      refine chain_one ?_
      intro E hE
      go_wp2_with (refine (flt_formal e s T _ _ _ (by omega) HG8.out).mono ?_; rintro e9 w9 ⟨v9, rfl, hi9, hb9⟩; have H9 := Lib.hid hi9; have HB9 := Lib.hid hb9; clear hi9 hb9; obtain ⟨a9, c9, rfl⟩ := H9.out.form)
      refine ⟨HB9.out, ?_⟩
      refine chain_one ?_
      intro E hE
      go_wp2_with (refine (flt_formal f s T _ _ _ (by omega) (HG8.out.below HB9.out)).mono ?_; rintro e10 w10 ⟨v10, rfl, hi10, hb10⟩; have H10 := Lib.hid hi10; have HB10 := Lib.hid hb10; clear hi10 hb10; obtain ⟨a10, c10, rfl⟩ := H10.out.form)
      refine ⟨HB10.out, ?_⟩
      have hs9 := (formal_may e (s := s) (t := T) (by omega) (HMT.out)).2
      have hs10 := (formal_may f (s := s) (t := T) (by omega) (HMT.out)).2
      refine chain_one ?_
      intro E hE
      go_wp2_with (refine (tm_Compare _ _ _ _ _ _ _ (by omega) (by omega) (H9.out.below HB10.out) H10.out).mono ?_; rintro e11 w11 ⟨rfl, hb11⟩; have HB11 := Lib.hid hb11; clear hb11)
      refine ⟨HB11.out, ?_⟩
      refine chain_soft ?_
      intro E hE
      go_wp2
      refine chain_nil (rest_end (by decide) ?_)
      have hfin := HB9.out.trans ((HB10.out.trans (HB11.out.mono HB10.out.size)).mono HB9.out.size)
      have HF := Lib.hid (HBJ.out.trans (hfin.mono HBJ.out.size))
      clear hfin
      go_wp2
      go_roundw
      case rel => exact ⟨j + 1, by omega, by go_num, HF.out⟩
      case measure => simp [intOf]; omega
end Go.Proofs.Ytokhiolimioicaa.Tms
