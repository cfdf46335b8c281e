
/-
  Layer 20: what the reference picks.
-/
import Derived.Test.YtcmgfelbbmeanaaIxr
import Derived.Test.YtcmgfelbbmeanaaChd
namespace Go.Proofs.Ytcmgfelbbmeanaa.Tms
open Go Go.RowKit Go.Proofs.Ytcmgfelbbmeanaa.Reg Go.Proofs.Ytcmgfelbbmeanaa.Rws Go.Proofs.Ytcmgfelbbmeanaa.Maps Go.Proofs.Ytcmgfelbbmeanaa.Cod Go.Instr
set_option linter.unusedVariables false
set_option linter.unusedSimpArgs false

theorem below_rowS {w w' : World} {g : Nat} {o : Obj} (h : Below w.heap.size w w') (hr : w.heap[g]? = some o) : w'.heap[g]? = some o := (h.block g (Array.getElem?_eq_some_iff.1 hr).1).trans hr
def fpX (k : Int) (q : Option Kx) (x : Option Kx) : Bool := decide (k = 1) || fitP q x
theorem pickL_fp (Ls : List (Option Kx)) (k : Int) (q : Option Kx) : pickL Ls k q = posF (fpX k q) 0 Ls := by
  unfold pickL
  split
  · rename_i h
    congr 1
    funext x
    simp [fpX, h]
  · rename_i h
    congr 1
    funext x
    simp [fpX, h]
theorem posF_nil {p : Option Kx → Bool} {n : Int} : posF p n [] = [] := rfl
def RpRel (Cs : List Cod) (k : Int) (q : Option Kx) (w : World) (vi v7 : Value) (wr : World) : Prop := ∃ i : Nat, i ≤ Cs.length ∧ vi = .int .i64 i ∧ Own jKind wr w.heap.size (fun _ => False) v7 (posF (fpX k q) 0 ((Cs.take i).map codeK)) ∧ Below w.heap.size w wr
set_option maxRecDepth 100000 in
set_option maxHeartbeats 4000000 in
theorem ref_Pick20 (Cs : List Cod) (v : Value) (k n : Int) (s : ByteArray) (a : Option Addr) (m c : Nat) (args : Int) (w : World) (h : CosSl w v Cs) (hl : ∀ c ∈ Cs, c.l.length ≤ 1000000) (hn : Cs.length ≤ 100000) :
    Calls Try.prog 16 #[v, .agg #[.int .i64 k, .int .i64 n, .string s, .slice a m c], .int .i64 args] w (PiPost (pickL (Cs.map codeK) k (termK k n s args)) w) := by
  rw [pickL_fp]
  obtain ⟨sq, cap, e, h1, h2, -⟩ := id h
  subst e
  unfold maxLen at h2
  obtain ⟨q, hq⟩ : ∃ q, q = termK k n s args := ⟨_, rfl⟩
  rw [← hq]
  have hb1 : Below w.heap.size w (w.alloc (.cells #[.int .i64 k, .int .i64 n, .string s, .slice a m c] 31 (0, 0))) := (Below.refl w.heap.size w).alloc (Nat.le_refl _) _
  have HR1 := Lib.hid (heap_alloc_new w (.cells #[.int .i64 k, .int .i64 n, .string s, .slice a m c] 31 (0, 0)))
  have H := Lib.hid (h.below hb1)
  have HB1 := Lib.hid hb1
  have HQ := Lib.hid hq
  clear h hb1 hq
  go_enter Try.func16, Try.ntmps16
  go_upto_region 2 with fail
  generalize w.alloc (.cells #[.int .i64 k, .int .i64 n, .string s, .slice a m c] 31 (0, 0)) = W1 at *
  have hrel0 : RpRel Cs k q W1 (.int .i64 ((0 : Nat) : Int)) (.slice none 0 0) W1 := ⟨0, by omega, rfl, Own.nil _ _ _, Below.refl _ _⟩
  have HREL := Lib.hid hrel0
  clear hrel0
  go_wp2
  go_loopw [13, 7] (fun v13 v7 wr => RpRel Cs k q W1 v13 v7 wr) (fun v13 _ _ => Cs.length - (intOf v13).toNat)
  case atStart => exact HREL.out
  case round =>
    clear HREL
    obtain ⟨i, hi, rfl, ho, hbel⟩ := hrel
    obtain ⟨q3, c3, e3⟩ := own_formX ho
    have hpl := posF_len (fpX k q) ((Cs.take i).map codeK) 0
    rw [List.length_map, List.length_take] at hpl
    obtain ⟨PL, hPL⟩ : ∃ PL, PL = posF (fpX k q) 0 ((Cs.take i).map codeK) := ⟨_, rfl⟩
    rw [← hPL] at ho e3 hpl
    subst e3
    have HO := Lib.hid ho
    have HBEL := Lib.hid hbel
    have HPL := Lib.hid hPL
    clear ho hbel hPL
    by_cases hil : i < Cs.length
    · have b1 : decide ((i : Int) < (Cs.length : Int)) = true := by simp; omega
      obtain ⟨a', cap', e, -, -, hel⟩ := id H.out
      simp only [Value.slice.injEq, true_and] at e
      obtain ⟨b, off, vs, e1, hbl, hins, x0, x1, x2, x3, x4⟩ := hel i hil
      have e2 := e.1.trans e1
      subst e2
      obtain ⟨C, hC⟩ : ∃ C, C = Cs[i] := ⟨_, rfl⟩
      have hCl : C.l.length ≤ 1000000 := by rw [hC]; exact hl _ (List.getElem_mem _)
      have htk : posF (fpX k q) 0 ((Cs.take (i + 1)).map codeK) = if fpX k q (codeK C) then PL ++ [(i : Int)] else PL := by
        rw [List.take_succ_eq_append_getElem hil, ← hC, List.map_append, List.map_singleton, posF_snoc, ← HPL.out, List.length_map, List.length_take, show min i Cs.length = i by omega]
      rw [← hC] at hins x0 x1 x2 x3
      have hc := fun o => HBEL.out.cell (p := ⟨b, o, none⟩) hbl
      replace x0 := (hc _).trans x0
      replace x1 := (hc _).trans x1
      replace x2 := (hc _).trans x2
      replace x3 := (hc _).trans x3
      replace x4 := (hc _).trans x4
      obtain ⟨sa, scap, rfl⟩ := hins.form
      have hb5 : Below wr.heap.size wr (wr.alloc (.cells #[.string C.name, .int .i64 C.args, .int .i64 C.slots, .int .i64 C.body, .slice sa C.l.length scap] 28 (0, 0))) := (Below.refl wr.heap.size wr).alloc (Nat.le_refl _) _
      have hr5 := heap_alloc_new wr (.cells #[.string C.name, .int .i64 C.args, .int .i64 C.slots, .int .i64 C.body, .slice sa C.l.length scap] 28 (0, 0))
      have HI5 := Lib.hid ((hins.below HBEL.out).below hb5)
      have HO5 := Lib.hid (HO.out.below hb5)
      have HB5 := Lib.hid (HBEL.out.trans (hb5.mono HBEL.out.size))
      have HTK := Lib.hid htk
      obtain ⟨y0, y1, y2, y3, y4⟩ := row5n hr5
      clear e e1 hel hins hC hc htk hb5 hr5 HO HBEL HPL
      go_wp2_with fail
      refine (ref_Key20 C _ _ HI5.out hCl).mono ?_
      rintro e6 w6 ⟨rfl, hb6⟩
      have hko := keyI_ok C
      have hki := insK_key C
      obtain ⟨I, hI⟩ : ∃ I, I = keyI C := ⟨_, rfl⟩
      rw [← hI] at hko hki
      have hba : Below w6.heap.size w6 (w6.alloc (.cells #[.int .i64 I.op, .int .i64 I.a, .int .i64 I.n, .string I.s] 109 (0, 0))) := (Below.refl w6.heap.size w6).alloc (Nat.le_refl _) _
      have HK := Lib.hid (heap_alloc_new w6 (.cells #[.int .i64 I.op, .int .i64 I.a, .int .i64 I.n, .string I.s] 109 (0, 0)))
      have hB6 := HB5.out.trans (hb6.mono HB5.out.size)
      have hB7 := hB6.trans (hba.mono hB6.size)
      have HB7 := Lib.hid hB7
      have HO7 := Lib.hid ((HO5.out.below hb6).below hba)
      have HR7 := Lib.hid (below_rowS hB7 HR1.out)
      rw [show insV (keyI C) = .agg #[.int .i64 I.op, .int .i64 I.a, .int .i64 I.n, .string I.s] by rw [← hI]; rfl]
      have HKO := Lib.hid hko
      have HKI := Lib.hid hki
      clear HI5 HO5 HB5 hb6 hba hB6 hB7 y0 y1 y2 y3 y4 x0 x1 x2 x3 x4 hI hko hki
      go_upto_region 6 with fail
      refine wp_region_rest (by kernel_rfl) ?_
      have hd6 := (Below.refl (w6.alloc (.cells #[.int .i64 I.op, .int .i64 I.a, .int .i64 I.n, .string I.s] 109 (0, 0))).heap.size (w6.alloc (.cells #[.int .i64 I.op, .int .i64 I.a, .int .i64 I.n, .string I.s] 109 (0, 0)))).drew
      have HK8 := Lib.hid (below_rowS hd6 HK.out)
      have HO8 := Lib.hid (HO7.out.below hd6)
      have HR8 := Lib.hid (below_rowS hd6 HR7.out)
      have HB8 := Lib.hid (HB7.out.trans (hd6.mono HB7.out.size))
      clear hd6 HK HO7 HR7 HB7
      generalize (w6.alloc (.cells #[.int .i64 I.op, .int .i64 I.a, .int .i64 I.n, .string I.s] 109 (0, 0))).drew = W8 at *
      obtain ⟨z0, z1, z2, z3⟩ := row4 HR8.out
      obtain ⟨k0, k1, k2, k3⟩ := row4 HK8.out
      by_cases hk : k = 1
      · have bk : (k == 1) = true := by simpa using hk
        have htk := HTK.out
        rw [if_pos (show fpX k q (codeK C) = true by simp [fpX, hk])] at htk
        have HTK := Lib.hid htk
        clear htk hk
        refine rest_chain 0 15 [(false, [0, 1, 2, 3, 4, 5, 6, 7, 8, 9, 10, 11]), (true, [12]), (true, [13]), (false, [14])] [(false, [_, _, _, _, _, _, _, _, _, _, _, _]), (true, [_]), (true, [_]), (false, [_])] rfl (by kernel_rfl) (by kernel_rfl) rfl (by kernel_rfl) (by kernel_rfl) (.inl rfl) ?_
        refine chain_soft ?_
        intro E hE
        go_wp2
        clear z0 z1 z2 z3 k0 k1 k2 k3 HR8 HK8
        refine chain_one ?_
        intro E hE
        go_wp2
        refine ⟨Below.refl _ _, ?_⟩
        refine chain_one ?_
        intro E hE
        go_wp2
        refine ⟨Below.refl _ _, ?_⟩
        refine chain_soft ?_
        intro E hE
        go_wp2
        refine chain_nil (rest_end (by decide) ?_)
        have hba : Below W8.heap.size W8 (W8.alloc (.cells #[.int .i64 i] 3 (0, 0))) := (Below.refl W8.heap.size W8).alloc (Nat.le_refl _) _
        have HO9 := Lib.hid (HO8.out.below hba)
        have HN9 := Lib.hid (heap_alloc_new W8 (.cells #[.int .i64 i] 3 (0, 0)))
        have hB9 := HB8.out.trans (hba.mono HB8.out.size)
        have HB9 := Lib.hid hB9
        have HZ9 := Lib.hid hB9.size
        clear hba hB9 HO8 HB8
        go_wp2_with (with_reducible show wpList _ _ _ (⟨some 38, _, _, _, _, _⟩ :: _) _ _
                     go_must (
                       refine wpList_put (K := jKind) rfl (.tmp 35) (.tmp 37) _ rfl Try.underlying37 info_j rfl W1.heap.size (fun _ => False) _ PL [.int .i64 i] i _ _ _ _ rfl HO9.out rfl HN9.out rfl (by unfold maxLen; omega) (by omega) HZ9.out ?_
                       intro v9 w9 ho9 hb9 hg9 hv9
                       have HRL := Lib.hid (show RpRel Cs k q W1 (.int .i64 ((i + 1 : Nat) : Int)) v9 w9 from ⟨i + 1, by omega, rfl, by rw [HTK.out]; exact ho9, HB9.out.trans hb9⟩)
                       clear ho9 hb9 hg9 hv9 HO9 HN9 HB9 HZ9 HTK))
        go_roundw
        case measure => simp [intOf]; omega
        case rel => exact HRL.out
      have bk : (k == 1) = false := by simpa using hk
      by_cases h0 : I.op = 0
      · have b0 : (I.op == 0) = true := by simpa using h0
        have htk := HTK.out
        rw [if_pos (show fpX k q (codeK C) = true by rw [← HKI.out, (insK_none HKO.out).1 h0]; simp [fpX, fitP])] at htk
        have HTK := Lib.hid htk
        clear htk hk h0
        refine rest_chain 0 15 [(false, [0, 1, 2, 3, 4, 5, 6, 7, 8, 9, 10, 11]), (true, [12]), (true, [13]), (false, [14])] [(false, [_, _, _, _, _, _, _, _, _, _, _, _]), (true, [_]), (true, [_]), (false, [_])] rfl (by kernel_rfl) (by kernel_rfl) rfl (by kernel_rfl) (by kernel_rfl) (.inl rfl) ?_
        refine chain_soft ?_
        intro E hE
        go_wp2
        clear z0 z1 z2 z3 k0 k1 k2 k3 HR8 HK8
        refine chain_one ?_
        intro E hE
        go_wp2
        refine ⟨Below.refl _ _, ?_⟩
        refine chain_one ?_
        intro E hE
        go_wp2
        refine ⟨Below.refl _ _, ?_⟩
        refine chain_soft ?_
        intro E hE
        go_wp2
        refine chain_nil (rest_end (by decide) ?_)
        have hba : Below W8.heap.size W8 (W8.alloc (.cells #[.int .i64 i] 3 (0, 0))) := (Below.refl W8.heap.size W8).alloc (Nat.le_refl _) _
        have HO9 := Lib.hid (HO8.out.below hba)
        have HN9 := Lib.hid (heap_alloc_new W8 (.cells #[.int .i64 i] 3 (0, 0)))
        have hB9 := HB8.out.trans (hba.mono HB8.out.size)
        have HB9 := Lib.hid hB9
        have HZ9 := Lib.hid hB9.size
        clear hba hB9 HO8 HB8
        go_wp2_with (with_reducible show wpList _ _ _ (⟨some 38, _, _, _, _, _⟩ :: _) _ _
                     go_must (
                       refine wpList_put (K := jKind) rfl (.tmp 35) (.tmp 37) _ rfl Try.underlying37 info_j rfl W1.heap.size (fun _ => False) _ PL [.int .i64 i] i _ _ _ _ rfl HO9.out rfl HN9.out rfl (by unfold maxLen; omega) (by omega) HZ9.out ?_
                       intro v9 w9 ho9 hb9 hg9 hv9
                       have HRL := Lib.hid (show RpRel Cs k q W1 (.int .i64 ((i + 1 : Nat) : Int)) v9 w9 from ⟨i + 1, by omega, rfl, by rw [HTK.out]; exact ho9, HB9.out.trans hb9⟩)
                       clear ho9 hb9 hg9 hv9 HO9 HN9 HB9 HZ9 HTK))
        go_roundw
        case measure => simp [intOf]; omega
        case rel => exact HRL.out
      have b0 : (I.op == 0) = false := by simpa using h0
      have hsm := same_ok HKO.out (ofI_ok k n s args) h0
      rw [HKI.out, insK_of, ← HQ.out] at hsm
      have hne : codeK C ≠ none := by rw [← HKI.out]; exact fun e => h0 ((insK_none HKO.out).2 e)
      have hfp : fpX k q (codeK C) = decide (codeK C = q) := by
        unfold fpX fitP
        cases hcc : codeK C with
        | none => exact absurd hcc hne
        | some x =>
          cases q with
          | none => simp [hk]
          | some y => simp [hk]
      rw [← hfp] at hsm
      clear hne hfp
      by_cases hf : fpX k q (codeK C) = true
      · have htk := HTK.out
        rw [if_pos hf] at htk
        rw [hf] at hsm
        have HTK := Lib.hid htk
        have HSM := Lib.hid hsm
        clear htk hk h0 hf hsm
        refine rest_chain 0 15 [(false, [0, 1, 2, 3, 4, 5, 6, 7, 8, 9, 10, 11]), (true, [12]), (true, [13]), (false, [14])] [(false, [_, _, _, _, _, _, _, _, _, _, _, _]), (true, [_]), (true, [_]), (false, [_])] rfl (by kernel_rfl) (by kernel_rfl) rfl (by kernel_rfl) (by kernel_rfl) (.inl rfl) ?_
        refine chain_soft ?_
        intro E hE
        go_wp2
        clear z0 z1 z2 z3 k0 k1 k2 k3 HR8 HK8
        refine chain_one ?_
        intro E hE
        go_wp2_with (refine (ref_Of20 k n s a m c args _).mono ?_; rintro e10 w10 ⟨rfl, hb10⟩; have HB10 := Lib.hid hb10; clear hb10)
        refine ⟨HB10.out, ?_⟩
        obtain ⟨J, hJ⟩ : ∃ J, J = ofI k n s args := ⟨_, rfl⟩
        rw [← hJ] at HSM
        rw [show insV (ofI k n s args) = insV J by rw [hJ]]
        clear hJ
        refine chain_one ?_
        intro E hE
        go_wp2_with (refine (ref_same20 I J _).mono ?_; rintro e11 w11 ⟨rfl, hb11⟩; have HB11 := Lib.hid hb11; clear hb11)
        refine ⟨HB11.out, ?_⟩
        rw [HSM.out]
        have HO11 := Lib.hid ((HO8.out.below HB10.out).below HB11.out)
        have hB11 := HB8.out.trans (HB10.out.mono HB8.out.size)
        have HB12 := Lib.hid (hB11.trans (HB11.out.mono hB11.size))
        clear HB10 HB11 hB11 HO8 HB8 HSM
        refine chain_soft ?_
        intro E hE
        go_wp2
        refine chain_nil (rest_end (by decide) ?_)
        have hba : Below w11.heap.size w11 (w11.alloc (.cells #[.int .i64 i] 3 (0, 0))) := (Below.refl w11.heap.size w11).alloc (Nat.le_refl _) _
        have HO9 := Lib.hid (HO11.out.below hba)
        have HN9 := Lib.hid (heap_alloc_new w11 (.cells #[.int .i64 i] 3 (0, 0)))
        have hB9 := HB12.out.trans (hba.mono HB12.out.size)
        have HB9 := Lib.hid hB9
        have HZ9 := Lib.hid hB9.size
        clear hba hB9 HO11 HB12
        go_wp2_with (with_reducible show wpList _ _ _ (⟨some 38, _, _, _, _, _⟩ :: _) _ _
                     go_must (
                       refine wpList_put (K := jKind) rfl (.tmp 35) (.tmp 37) _ rfl Try.underlying37 info_j rfl W1.heap.size (fun _ => False) _ PL [.int .i64 i] i _ _ _ _ rfl HO9.out rfl HN9.out rfl (by unfold maxLen; omega) (by omega) HZ9.out ?_
                       intro v9 w9 ho9 hb9 hg9 hv9
                       have HRL := Lib.hid (show RpRel Cs k q W1 (.int .i64 ((i + 1 : Nat) : Int)) v9 w9 from ⟨i + 1, by omega, rfl, by rw [HTK.out]; exact ho9, HB9.out.trans hb9⟩)
                       clear ho9 hb9 hg9 hv9 HO9 HN9 HB9 HZ9 HTK))
        go_roundw
        case measure => simp [intOf]; omega
        case rel => exact HRL.out
      · have hf' : fpX k q (codeK C) = false := by simpa using hf
        have htk := HTK.out
        rw [if_neg hf] at htk
        rw [hf'] at hsm
        have HTK := Lib.hid htk
        have HSM := Lib.hid hsm
        clear htk hk h0 hf hf' hsm
        refine rest_chain 0 15 [(false, [0, 1, 2, 3, 4, 5, 6, 7, 8, 9, 10, 11]), (true, [12]), (true, [13]), (false, [14])] [(false, [_, _, _, _, _, _, _, _, _, _, _, _]), (true, [_]), (true, [_]), (false, [_])] rfl (by kernel_rfl) (by kernel_rfl) rfl (by kernel_rfl) (by kernel_rfl) (.inl rfl) ?_
        refine chain_soft ?_
        intro E hE
        go_wp2
        clear z0 z1 z2 z3 k0 k1 k2 k3 HR8 HK8
        refine chain_one ?_
        intro E hE
        go_wp2_with (refine (ref_Of20 k n s a m c args _).mono ?_; rintro e10 w10 ⟨rfl, hb10⟩; have HB10 := Lib.hid hb10; clear hb10)
        refine ⟨HB10.out, ?_⟩
        obtain ⟨J, hJ⟩ : ∃ J, J = ofI k n s args := ⟨_, rfl⟩
        rw [← hJ] at HSM
        rw [show insV (ofI k n s args) = insV J by rw [hJ]]
        clear hJ
        refine chain_one ?_
        intro E hE
        go_wp2_with (refine (ref_same20 I J _).mono ?_; rintro e11 w11 ⟨rfl, hb11⟩; have HB11 := Lib.hid hb11; clear hb11)
        refine ⟨HB11.out, ?_⟩
        rw [HSM.out]
        have HO11 := Lib.hid ((HO8.out.below HB10.out).below HB11.out)
        have hB11 := HB8.out.trans (HB10.out.mono HB8.out.size)
        have HB12 := Lib.hid (hB11.trans (HB11.out.mono hB11.size))
        clear HB10 HB11 hB11 HO8 HB8 HSM
        refine chain_soft ?_
        intro E hE
        go_wp2
        refine chain_nil (rest_end (by decide) ?_)
        have HRL := Lib.hid (show RpRel Cs k q W1 (.int .i64 ((i + 1 : Nat) : Int)) (.slice q3 PL.length c3) w11 from ⟨i + 1, by omega, rfl, by rw [HTK.out]; exact HO11.out, HB12.out⟩)
        clear HO11 HB12 HTK
        go_wp2
        go_roundw
        case measure => simp [intOf]; omega
        case rel => exact HRL.out
    · have b1 : decide ((i : Int) < (Cs.length : Int)) = false := by simp; omega
      have e : i = Cs.length := by omega
      subst e
      have hpl2 := HPL.out
      rw [List.take_length] at hpl2
      have HPE := Lib.hid hpl2
      clear hpl2 HPL
      go_wp2
      go_ret
      exact ⟨_, rfl, (by rw [← HPE.out]; exact ownLowX HO.out HB1.out.size), HB1.out.trans (HBEL.out.mono HB1.out.size)⟩
end Go.Proofs.Ytcmgfelbbmeanaa.Tms
