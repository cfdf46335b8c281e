
/-
  Layer 20: how many keys the reference counts.
-/
import Derived.Test.YtcmgfelbbmeanaaIxs
namespace Go.Proofs.Ytcmgfelbbmeanaa.Tms
open Go Go.RowKit Go.Proofs.Ytcmgfelbbmeanaa.Reg Go.Proofs.Ytcmgfelbbmeanaa.Rws Go.Proofs.Ytcmgfelbbmeanaa.Maps Go.Proofs.Ytcmgfelbbmeanaa.Cod Go.Instr
set_option linter.unusedVariables false
set_option linter.unusedSimpArgs false

section
variable {κ : Type} [DecidableEq κ]
/-- a key that wasn't seen -/
def newX (x : Option κ) (L : List (Option κ)) : Bool := x.isSome && L.all fun y => !decide (x = y)
theorem newX_nil (x : Option κ) : newX x [] = x.isSome := by simp [newX]
theorem newX_snoc (x y : Option κ) (L : List (Option κ)) : newX x (L ++ [y]) = (newX x L && !decide (x = y)) := by
  unfold newX
  rw [List.all_append, ← Bool.and_assoc]
  simp
theorem newX_some (k : κ) (L : List (Option κ)) : newX (some k) L = true ↔ some k ∉ L := by
  unfold newX
  simp only [Option.isSome_some, Bool.true_and, List.all_eq_true, Bool.not_eq_true', decide_eq_false_iff_not]
  exact ⟨fun h hm => h _ hm rfl, fun h y hy e => h (e ▸ hy)⟩
theorem keys_new (x : Option κ) (L : List (Option κ)) : (keysO (L ++ [x])).length = (keysO L).length + if newX x L then 1 else 0 := by
  rw [keysO_snoc]
  cases x with
  | none => simp [keyStep, newX]
  | some k =>
    have h1 := keysO_mem L k
    have h2 := newX_some k L
    show (if k ∈ keysO L then keysO L else keysO L ++ [k]).length = _
    by_cases h : k ∈ keysO L
    · rw [if_pos h, if_neg (fun e => (h2.1 e) (h1.1 h))]; rfl
    · rw [if_neg h, if_pos (h2.2 fun e => h (h1.2 e)), List.length_append]; rfl
end
theorem fld_ins (a b c : Int) (s : ByteArray) (w : World) : (Go.Instr.field 109 (.agg #[.int .i64 a, .int .i64 b, .int .i64 c, .string s]) 0).run Try.prog w = .ok (.int .i64 a) w := by
  unfold Go.Instr.field
  simp only [Sem.run_bind, run_underlying Try.underlying109, Result.andThen_ok]
  exact run_part_plain w kx_int rfl
def RkRel (Cs : List Cod) (w : World) (vi v3 : Value) (wr : World) : Prop := ∃ i : Nat, i ≤ Cs.length ∧ vi = .int .i64 i ∧ v3 = .int .i64 (keysO ((Cs.take i).map codeK)).length ∧ Below w.heap.size w wr
def RjRel (Cs : List Cod) (x : Option Kx) (i : Nat) (w : World) (vj v6 : Value) (wr : World) : Prop := ∃ j : Nat, j ≤ i ∧ vj = .int .i64 j ∧ v6 = .bool (newX x ((Cs.take j).map codeK)) ∧ Below w.heap.size w wr
set_option maxRecDepth 100000 in
set_option maxHeartbeats 4000000 in
theorem ref_Keys20 (Cs : List Cod) (v : Value) (w : World) (h : CosSl w v Cs) (hl : ∀ c ∈ Cs, c.l.length ≤ 1000000) (hn : Cs.length ≤ 100000) :
    Calls Try.prog 18 #[v] w fun e w' => e = .returned (.int .i64 (keysO (Cs.map codeK)).length) ∧ Below w.heap.size w w' := by
  obtain ⟨sq, cap, e, h1, h2, -⟩ := id h
  subst e
  unfold maxLen at h2
  have H := Lib.hid h
  have hrel0 : RkRel Cs w (.int .i64 ((0 : Nat) : Int)) (.int .i64 0) w := ⟨0, by omega, rfl, rfl, Below.refl _ _⟩
  have HREL := Lib.hid hrel0
  clear h hrel0
  go_enter Try.func18, Try.ntmps18
  go_wp2
  go_loopw [11, 3] (fun v11 v3 wr => RkRel Cs w v11 v3 wr) (fun v11 _ _ => Cs.length - (intOf v11).toNat)
  case atStart => exact HREL.out
  case round =>
    clear HREL
    rename World => wo
    obtain ⟨i, hi, rfl, rfl, hbel⟩ := hrel
    have hkl := keysO_len ((Cs.take i).map codeK)
    rw [List.length_map, List.length_take] at hkl
    obtain ⟨kn, hkn⟩ : ∃ kn, kn = (keysO ((Cs.take i).map codeK)).length := ⟨_, rfl⟩
    rw [← hkn] at hkl ⊢
    have HBEL := Lib.hid hbel
    have HKN := Lib.hid hkn
    clear hbel hkn
    by_cases hil : i < Cs.length
    · have b1 : decide ((i : Int) < (Cs.length : Int)) = true := by simp; omega
      obtain ⟨a', cap', e, -, -, hel⟩ := id H.out
      simp only [Value.slice.injEq, true_and] at e
      obtain ⟨b, off, vs, e1, hbl, hins, x0, x1, x2, x3, x4⟩ := hel i hil
      have e2 := e.1.trans e1
      subst e2
      obtain ⟨C, hC⟩ : ∃ C, C = Cs[i] := ⟨_, rfl⟩
      have hCl : C.l.length ≤ 1000000 := by rw [hC]; exact hl _ (List.getElem_mem _)
      have htk : (keysO ((Cs.take (i + 1)).map codeK)).length = kn + if newX (codeK C) ((Cs.take i).map codeK) then 1 else 0 := by
        rw [List.take_succ_eq_append_getElem hil, ← hC, List.map_append, List.map_singleton, keys_new, ← HKN.out]
      rw [← hC] at hins x0 x1 x2 x3
      have hc := fun o => HBEL.out.cell (p := ⟨b, o, none⟩) hbl
      replace x0 := (hc _).trans x0
      replace x1 := (hc _).trans x1
      replace x2 := (hc _).trans x2
      replace x3 := (hc _).trans x3
      replace x4 := (hc _).trans x4
      obtain ⟨sa, scap, rfl⟩ := hins.form
      have hb5 : Below wo.heap.size wo (wo.alloc (.cells #[.string C.name, .int .i64 C.args, .int .i64 C.slots, .int .i64 C.body, .slice sa C.l.length scap] 28 (0, 0))) := (Below.refl wo.heap.size wo).alloc (Nat.le_refl _) _
      have hr5 := heap_alloc_new wo (.cells #[.string C.name, .int .i64 C.args, .int .i64 C.slots, .int .i64 C.body, .slice sa C.l.length scap] 28 (0, 0))
      have HI5 := Lib.hid ((hins.below HBEL.out).below hb5)
      have HB5 := Lib.hid (HBEL.out.trans (hb5.mono HBEL.out.size))
      have HR5 := Lib.hid hr5
      have HTK := Lib.hid htk
      obtain ⟨y0, y1, y2, y3, y4⟩ := row5n hr5
      clear e e1 hel hins hC hc htk hb5 hr5 HBEL HKN
      go_wp2_with fail
      refine (ref_Key20 C _ _ HI5.out hCl).mono ?_
      rintro e6 w6 ⟨rfl, hb6⟩
      have hko := keyI_ok C
      have hki := insK_key C
      obtain ⟨I, hI⟩ : ∃ I, I = keyI C := ⟨_, rfl⟩
      have HIK := Lib.hid hI
      rw [← hI] at hko hki
      rw [show insV (keyI C) = .agg #[.int .i64 I.op, .int .i64 I.a, .int .i64 I.n, .string I.s] by rw [← hI]; rfl]
      have HI6 := Lib.hid (HI5.out.below hb6)
      have HR6 := Lib.hid (below_rowS hb6 HR5.out)
      have HB6 := Lib.hid (HB5.out.trans (hb6.mono HB5.out.size))
      have hnb : (I.op != 0) = newX (codeK C) ((Cs.take 0).map codeK) := by
        rw [List.take_zero, List.map_nil, newX_nil, ← hki]
        have := insK_none hko
        by_cases h0 : I.op = 0
        · rw [this.1 h0, h0]; rfl
        · cases hh : insK I with
          | none => exact absurd (this.2 hh) h0
          | some x => simpa using h0
      have HNB := Lib.hid hnb
      have HKO := Lib.hid hko
      have HKI := Lib.hid hki
      clear HI5 HB5 hb6 y0 y1 y2 y3 y4 x0 x1 x2 x3 x4 hI hko hki HR5 hnb
      have hicap : i ≤ cap := by omega
      have hfl := fld_ins I.op I.a I.n I.s
      obtain ⟨nb, hnb0⟩ : ∃ nb, nb = (I.op != 0) := ⟨_, rfl⟩
      have hst : RjRel Cs (codeK C) i w6 (.int .i64 ((0 : Nat) : Int)) (.bool (I.op != 0)) w6 := ⟨0, by omega, rfl, by rw [HNB.out], Below.refl _ _⟩
      have HST := Lib.hid hst
      clear hst hnb0
      go_wp2
      go_loopw [24, 6] (fun v24 v6 wx => RjRel Cs (codeK C) i w6 v24 v6 wx) (fun v24 _ _ => i - (intOf v24).toNat)
      case atStart => exact HST.out
      case round =>
        clear HST
        obtain ⟨j, hj, rfl, rfl, hbel⟩ := hrel
        obtain ⟨bb, hbb⟩ : ∃ bb, bb = newX (codeK C) ((Cs.take j).map codeK) := ⟨_, rfl⟩
        rw [← hbb]
        have HBB := Lib.hid hbb
        have HBX := Lib.hid hbel
        clear hbel hbb
        by_cases hjl : j < i
        · have b2 : decide ((j : Int) < (i : Int)) = true := by simp; omega
          obtain ⟨a', cap', e, -, -, hel⟩ := id H.out
          simp only [Value.slice.injEq, true_and] at e
          obtain ⟨b', off', vs', e1, hbl', hins', x0, x1, x2, x3, x4⟩ := hel j (by omega)
          have e2 := e.1.trans e1
          simp only [Option.some.injEq, Addr.mk.injEq, and_true] at e2
          obtain ⟨rfl, rfl⟩ := e2
          obtain ⟨D, hD⟩ : ∃ D, D = Cs[j] := ⟨_, rfl⟩
          have hDl : D.l.length ≤ 1000000 := by rw [hD]; exact hl _ (List.getElem_mem _)
          have htj : newX (codeK C) ((Cs.take (j + 1)).map codeK) = (newX (codeK C) ((Cs.take j).map codeK) && !decide (codeK C = codeK D)) := by
            rw [List.take_succ_eq_append_getElem (show j < Cs.length by omega), ← hD, List.map_append, List.map_singleton, newX_snoc]
          rw [← hD] at hins' x0 x1 x2 x3
          have hwx := HB6.out.trans (HBX.out.mono HB6.out.size)
          have hc := fun o => hwx.cell (p := ⟨b, o, none⟩) hbl'
          replace x0 := (hc _).trans x0
          replace x1 := (hc _).trans x1
          replace x2 := (hc _).trans x2
          replace x3 := (hc _).trans x3
          replace x4 := (hc _).trans x4
          obtain ⟨da, dcap, rfl⟩ := hins'.form
          have hb8 : Below wr.heap.size wr ((wr.alloc (.cells #[.string D.name, .int .i64 D.args, .int .i64 D.slots, .int .i64 D.body, .slice da D.l.length dcap] 28 (0, 0))).drew) := ((Below.refl wr.heap.size wr).alloc (Nat.le_refl _) _).drew
          have hr8 := heap_alloc_new wr (.cells #[.string D.name, .int .i64 D.args, .int .i64 D.slots, .int .i64 D.body, .slice da D.l.length dcap] 28 (0, 0))
          have HD9 := Lib.hid (below_rowS (Below.refl (wr.alloc (.cells #[.string D.name, .int .i64 D.args, .int .i64 D.slots, .int .i64 D.body, .slice da D.l.length dcap] 28 (0, 0))).heap.size (wr.alloc (.cells #[.string D.name, .int .i64 D.args, .int .i64 D.slots, .int .i64 D.body, .slice da D.l.length dcap] 28 (0, 0)))).drew hr8)
          have HJ9 := Lib.hid ((hins'.below hwx).below hb8)
          have hbx := HBX.out
          have HI9 := Lib.hid ((HI6.out.below hbx).below hb8)
          have HR9 := Lib.hid (below_rowS hb8 (below_rowS hbx HR6.out))
          have HB9 := Lib.hid (hbx.trans (hb8.mono hbx.size))
          have HTJ := Lib.hid htj
          clear e e1 hel hins' hD hc htj hb8 hr8 hwx hbx HBX
          go_upto_region 9 with fail
          refine wp_region_rest (by kernel_rfl) ?_
          generalize (wr.alloc (.cells #[.string D.name, .int .i64 D.args, .int .i64 D.slots, .int .i64 D.body, .slice da D.l.length dcap] 28 (0, 0))).drew = W9 at *
          clear x0 x1 x2 x3 x4
          obtain ⟨z0, z1, z2, z3, z4⟩ := row5n HR9.out
          obtain ⟨k0, k1, k2, k3, k4⟩ := row5n HD9.out
          cases bb with
          | false =>
            refine rest_chain 0 10 [(false, [0, 1, 2, 4]), (true, [3]), (true, [5]), (true, [6]), (false, [7, 8, 9])] [(false, [_, _, _, _]), (true, [_]), (true, [_]), (true, [_]), (false, [_, _, _])] rfl (by kernel_rfl) (by kernel_rfl) rfl (by kernel_rfl) (by kernel_rfl) (.inl rfl) ?_
            refine chain_soft ?_
            intro E hE
            go_wp2
            clear z0 z1 z2 z3 z4 k0 k1 k2 k3 k4 HR9 HD9
            refine chain_one ?_
            intro E hE
            go_wp2
            refine ⟨Below.refl _ _, ?_⟩
            refine chain_one ?_
            intro E hE
            go_wp2
            refine ⟨Below.refl _ _, ?_⟩
            refine chain_one ?_
            intro E hE
            go_wp2
            refine ⟨Below.refl _ _, ?_⟩
            refine chain_soft ?_
            intro E hE
            go_wp2
            refine chain_nil (rest_end (by decide) ?_)
            have HRL := Lib.hid (show RjRel Cs (codeK C) i w6 (.int .i64 ((j + 1 : Nat) : Int)) (.bool false) W9 from ⟨j + 1, by omega, rfl, by rw [HTJ.out, ← HBB.out]; rfl, HB9.out⟩)
            clear HTJ HBB
            go_wp2
            go_roundw
            case measure => simp [intOf]; omega
            case rel => exact HRL.out
          | true =>
            have hne : codeK C ≠ none := fun e => by
              have := HBB.out
              rw [e] at this
              simp [newX] at this
            have h0 : I.op ≠ 0 := fun e => hne (by rw [← HKI.out]; exact (insK_none HKO.out).1 e)
            have hsm := same_ok HKO.out (keyI_ok D) h0
            rw [HKI.out, insK_key] at hsm
            obtain ⟨sb, hsb⟩ : ∃ sb, sb = decide (codeK C = codeK D) := ⟨_, rfl⟩
            rw [← hsb] at hsm
            have HTJ := Lib.hid (HTJ.out.trans (by rw [← hsb]))
            have HSM := Lib.hid hsm
            clear hne h0 hsm hsb
            refine rest_chain 0 10 [(false, [0, 1, 2, 4]), (true, [3]), (true, [5]), (true, [6]), (false, [7, 8, 9])] [(false, [_, _, _, _]), (true, [_]), (true, [_]), (true, [_]), (false, [_, _, _])] rfl (by kernel_rfl) (by kernel_rfl) rfl (by kernel_rfl) (by kernel_rfl) (.inl rfl) ?_
            refine chain_soft ?_
            intro E hE
            go_wp2
            clear z0 z1 z2 z3 z4 k0 k1 k2 k3 k4 HR9 HD9
            refine chain_one ?_
            intro E hE
            go_wp2_with (refine (ref_Key20 C _ _ HI9.out hCl).mono ?_; rintro e10 w10 ⟨rfl, hb10⟩; have HB10 := Lib.hid hb10; clear hb10)
            refine ⟨HB10.out, ?_⟩
            rw [← HIK.out]
            refine chain_one ?_
            intro E hE
            go_wp2_with (refine (ref_Key20 D _ _ (HJ9.out.below HB10.out) hDl).mono ?_; rintro e11 w11 ⟨rfl, hb11⟩; have HB11 := Lib.hid hb11; clear hb11)
            refine ⟨HB11.out, ?_⟩
            refine chain_one ?_
            intro E hE
            go_wp2_with (refine (ref_same20 I (keyI D) _).mono ?_; rintro e12 w12 ⟨rfl, hb12⟩; have HB12 := Lib.hid hb12; clear hb12)
            refine ⟨HB12.out, ?_⟩
            rw [HSM.out]
            have hB10 := HB9.out.trans (HB10.out.mono HB9.out.size)
            have hB11 := hB10.trans (HB11.out.mono hB10.size)
            have HB13 := Lib.hid (hB11.trans (HB12.out.mono hB11.size))
            clear HB10 HB11 HB12 hB10 hB11 HB9 HSM
            refine chain_soft ?_
            intro E hE
            go_wp2
            refine chain_nil (rest_end (by decide) ?_)
            have HRL := Lib.hid (show RjRel Cs (codeK C) i w6 (.int .i64 ((j + 1 : Nat) : Int)) (.bool (!sb)) w12 from ⟨j + 1, by omega, rfl, by rw [HTJ.out, ← HBB.out]; rfl, HB13.out⟩)
            clear HTJ HBB
            go_wp2
            go_roundw
            case measure => simp [intOf]; omega
            case rel => exact HRL.out
        · have b2 : decide ((j : Int) < (i : Int)) = false := by simp; omega
          have e : j = i := by omega
          subst e
          have htk := HTK.out
          rw [← HBB.out] at htk
          have hbx := HB6.out.trans (HBX.out.mono HB6.out.size)
          have HTK := Lib.hid htk
          have HBX := Lib.hid hbx
          clear htk hbx HBB HI6 HR6 HB6
          cases bb with
          | false =>
            have HRL := Lib.hid (show RkRel Cs w (.int .i64 ((j + 1 : Nat) : Int)) (.int .i64 kn) wr from ⟨j + 1, by omega, rfl, by rw [HTK.out]; rfl, HBX.out⟩)
            clear HTK HBX
            go_wp2
            go_roundw
            case measure => simp [intOf]; omega
            case rel => exact HRL.out
          | true =>
            have HRL := Lib.hid (show RkRel Cs w (.int .i64 ((j + 1 : Nat) : Int)) (.int .i64 ((kn : Int) + 1)) wr from ⟨j + 1, by omega, rfl, by rw [HTK.out]; simp, HBX.out⟩)
            clear HTK HBX
            go_wp2
            go_roundw
            case measure => simp [intOf]; omega
            case rel => exact HRL.out
    · have b1 : decide ((i : Int) < (Cs.length : Int)) = false := by simp; omega
      have e : i = Cs.length := by omega
      subst e
      have hk2 := HKN.out
      rw [List.take_length] at hk2
      have HK2 := Lib.hid hk2
      clear hk2 HKN
      go_wp2
      go_ret
      exact ⟨by rw [← HK2.out]; rfl, HBEL.out⟩
end Go.Proofs.Ytcmgfelbbmeanaa.Tms
