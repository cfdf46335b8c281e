
/-
  Layer 11: what was put is there, whatever is put behind it (plain); the document's example.
-/
import Derived.Test.YtoklbeogmcdgaaaCpa
import Derived.Test.YtoklbeogmcdgaaaNur
import Derived.Test.YtoklbeogmcdgaaaAl8
import Derived.Test.YtoklbeogmcdgaaaGna
namespace Go.Proofs.Ytoklbeogmcdgaaa.Tms
open Go Go.RowKit Go.Proofs.Ytoklbeogmcdgaaa.Reg Go.Proofs.Ytoklbeogmcdgaaa.Rws Go.Proofs.Ytoklbeogmcdgaaa.Maps
set_option linter.unusedVariables false
set_option linter.unusedSimpArgs false

/-- cell x was made by putting t -/
structure WasPut (S : Sto) (x : Nat) (t : Tm) : Prop where
  lt : x < S.cells.length
  may : mayT t = true
  put : ∃ S0 : Sto, S0.cells.length = x ∧ AgreeAt S x (putR S0 [] t).2.1
theorem AgreeAt.more {S S' : Sto} {b : Nat} {l : List SCell} (h : AgreeAt S b l) (hs : ∀ y, y < S.cells.length → S'.cells[y]? = S.cells[y]?) : AgreeAt S' b l := fun i d hd => by
  obtain ⟨c, h1, h2⟩ := h i d hd
  exact ⟨c, (hs _ (List.getElem?_eq_some_iff.1 h1).1).trans h1, h2⟩
theorem WasPut.made {S : Sto} {t : Tm} (hc : checkT t = 0) : WasPut (putS S [] t) S.cells.length t :=
  ⟨by rw [putS_len]; have := put_some S t; omega, check_may hc, S, rfl, agree_put S t⟩
theorem WasPut.kept {S : Sto} {x : Nat} {t : Tm} (h : WasPut S x t) (u : Tm) : WasPut (putS S [] u) x t := by
  obtain ⟨S0, h1, h2⟩ := h.put
  refine ⟨by rw [putS_len]; have := h.lt; omega, h.may, S0, h1, h2.more fun y hy => ?_⟩
  show (S.cells ++ _)[y]? = _
  rw [List.getElem?_append_left hy]
/-- what is got there -/
theorem WasPut.got {S : Sto} {x : Nat} {t : Tm} (h : WasPut S x t) (hs : t.size ≤ 2000) : getE S x = 0 ∧ numT (getT S x) = numT t ∧ (getT S x).size ≤ t.size ∧ mayT (numT (getT S x)) = true := by
  obtain ⟨S0, rfl, h2⟩ := h.put
  have ht := put_tr0 h.may h2
  rw [put_base', Int.toNat_natCast] at ht
  have hz := backT_size S0 t
  have hg := get_of_tr ht (by omega)
  have e1 : getT S S0.cells.length = backT S0 t := by
    unfold getT
    rw [hg]
    exact if_pos rfl
  have e2 : getE S S0.cells.length = 0 := by
    unfold getE
    rw [hg]
    exact if_neg (by simp)
  rw [e1, e2, num_back S0 h.may]
  exact ⟨rfl, rfl, hz, num_may h.may⟩
def cf1 : Tm := .mk 4 0 ⟨#[102]⟩ [.mk 1 0 ⟨#[]⟩ [], .mk 1 0 ⟨#[]⟩ []]
def cf2 : Tm := .mk 4 0 ⟨#[102]⟩ [.mk 1 0 ⟨#[]⟩ [], .mk 1 1 ⟨#[]⟩ []]
def cs1 : Sto := putS ex0 [] cf1
def cs2 : Sto := putS cs1 [] cf1
def cs3 : Sto := putS cs2 [] cf2
theorem cs1_len : cs1.cells.length = 2 := by decide +kernel
theorem cs2_len : cs2.cells.length = 4 := by decide +kernel
theorem c1_may : MayPut ex0 [] cf1 := ⟨by decide +kernel, by decide +kernel, by decide +kernel⟩
theorem c2_may : MayPut cs1 [] cf1 := ⟨by decide +kernel, by decide +kernel, by decide +kernel⟩
theorem c3_may : MayPut cs2 [] cf2 := ⟨by decide +kernel, by decide +kernel, by decide +kernel⟩
theorem cs1_inv : Inv cs1 := ex0_inv.put c1_may
theorem cs2_inv : Inv cs2 := cs1_inv.put c2_may
theorem cs3_inv : Inv cs3 := cs2_inv.put c3_may
theorem cs_a : WasPut cs3 0 cf1 := ((WasPut.made (S := ex0) c1_may.chk).kept cf1).kept cf2
theorem cs_b : WasPut cs3 2 cf1 := by have := (WasPut.made (S := cs1) c2_may.chk).kept cf2; rwa [cs1_len] at this
theorem cs_c : WasPut cs3 4 cf2 := by have := WasPut.made (S := cs2) c3_may.chk; rwa [cs2_len] at this
theorem c12 : (cmpT (numT cf1) (numT cf1) == 0) = true ∧ (cmpT (numT cf1) (numT cf2) == 0) = false := by decide +kernel
theorem al11_v (n : Int) (w : World) : Calls Try.prog 79 #[.int .i64 n] w fun e w' => e = .returned (.agg #[.int .i64 1, .int .i64 n, .string ⟨#[]⟩, .slice none 0 0]) ∧ Below w.heap.size w w' := by
  go_enter Try.func79, Try.ntmps79
  go_wp2
  exact bodyPost_ret (v := .agg #[.int .i64 1, .int .i64 n, .string ⟨#[]⟩, .slice none 0 0]) (by simp [results, Try.results79, go_sem]) rfl ⟨rfl, below_new w _⟩
theorem al11_f (a : Option Addr) (n c : Nat) (w : World) : Calls Try.prog 80 #[.slice a n c] w fun e w' => e = .returned (.agg #[.int .i64 4, .int .i64 0, .string ⟨#[102]⟩, .slice a n c]) ∧ Below w.heap.size w w' := by
  go_enter Try.func80, Try.ntmps80
  go_wp2
  exact bodyPost_ret (v := .agg #[.int .i64 4, .int .i64 0, .string ⟨#[102]⟩, .slice a n c]) (by simp [results, Try.results80, go_sem]) rfl ⟨rfl, below_new w _⟩
set_option maxRecDepth 100000 in
set_option maxHeartbeats 8000000 in
theorem alive11 (w : World) : Calls Try.prog 42 #[] w fun e w' => e = .returned (.bool true) ∧ Below w.heap.size w w' := by
  go_enter Try.func42, Try.ntmps42
  go_wp2_with fail
  refine (law_New w w (Below.refl _ _) 100 (by decide) (by decide)).mono ?_
  rintro e1 w1 ⟨rfl, D1, hl1, -⟩
  have HL0 := Lib.hid (show Law8 w w.heap.size ex0 D1 w1 from hl1)
  clear hl1
  dsimp only
  obtain ⟨wl0, rfl⟩ : ∃ wo : World, wo = w1 := ⟨_, rfl⟩
  obtain ⟨D0, rfl⟩ : ∃ D0, D0 = D1 := ⟨_, rfl⟩
  go_wp2_with fail
  refine (al11_v _ _).mono ?_
  rintro e3 w3 ⟨rfl, hb3⟩
  go_wp2_with fail
  refine (al11_v _ _).mono ?_
  rintro e4 w4 ⟨rfl, hb4⟩
  have HA4 := Lib.hid ((HL0.out.below hb3).1.below hb4).1
  clear hb3 hb4 HL0
  go_wp2_with fail
  have hb5 := below_new w4 (.cells #[.int .i64 1, .int .i64 0, .string ⟨#[]⟩, .slice none 0 0, .int .i64 1, .int .i64 0, .string ⟨#[]⟩, .slice none 0 0] 33 (0, 0))
  have hr5 := heap_alloc_new w4 (.cells #[.int .i64 1, .int .i64 0, .string ⟨#[]⟩, .slice none 0 0, .int .i64 1, .int .i64 0, .string ⟨#[]⟩, .slice none 0 0] 33 (0, 0))
  have hn5 : ¬ D0 w4.heap.size := fun e => by have := HA4.out.dl _ e; omega
  refine (al11_f _ _ _ _).mono ?_
  rintro e6 w6 ⟨rfl, hb6⟩
  have ha6 := ((HA4.out.below hb5).1.below hb6).1
  have hsl : IsSl w6 (fun b => b = w4.heap.size) (.slice (some ⟨w4.heap.size, 0, none⟩) 2 2) [.mk 1 0 ⟨#[]⟩ [], .mk 1 0 ⟨#[]⟩ []] :=
    pair_sl (t1 := .mk 1 0 ⟨#[]⟩ []) (t2 := .mk 1 0 ⟨#[]⟩ []) rfl ((hb6.block _ (by simp)).trans hr5) (IsSl.nil _ _ _ _) (IsSl.nil _ _ _ _)
  have hi6 : IsTm w6 (fun b => b = w4.heap.size) (.agg #[.int .i64 4, .int .i64 0, .string ⟨#[102]⟩, .slice (some ⟨w4.heap.size, 0, none⟩) 2 2]) cf1 := IsTm.mk' (t := cf1) hsl
  have hp6 := law_Put ha6 ex0_inv hi6 (fun b hb => by rw [hb]; exact hn5) c1_may (by decide)
  rw [show ((ex0.cells.length : Nat) : Int) = 0 by decide +kernel] at hp6
  have HP6 := Lib.hid hp6
  clear hb5 hr5 hn5 hb6 ha6 hsl hi6 hp6 HA4
  generalize w4.heap.size = g6 at *
  go_wp2_with fail
  refine HP6.out.mono ?_
  rintro e7 wl1 ⟨rfl, D1, l7, -⟩
  have HL1 := Lib.hid (show Law8 w w.heap.size cs1 D1 wl1 from l7)
  clear l7 HP6
  dsimp only
  go_wp2_with fail
  refine (al11_v _ _).mono ?_
  rintro e3 w3 ⟨rfl, hb3⟩
  go_wp2_with fail
  refine (al11_v _ _).mono ?_
  rintro e4 w4 ⟨rfl, hb4⟩
  have HA4 := Lib.hid ((HL1.out.below hb3).1.below hb4).1
  clear hb3 hb4 HL1
  go_wp2_with fail
  have hb5 := below_new w4 (.cells #[.int .i64 1, .int .i64 0, .string ⟨#[]⟩, .slice none 0 0, .int .i64 1, .int .i64 0, .string ⟨#[]⟩, .slice none 0 0] 33 (0, 0))
  have hr5 := heap_alloc_new w4 (.cells #[.int .i64 1, .int .i64 0, .string ⟨#[]⟩, .slice none 0 0, .int .i64 1, .int .i64 0, .string ⟨#[]⟩, .slice none 0 0] 33 (0, 0))
  have hn5 : ¬ D1 w4.heap.size := fun e => by have := HA4.out.dl _ e; omega
  refine (al11_f _ _ _ _).mono ?_
  rintro e6 w6 ⟨rfl, hb6⟩
  have ha6 := ((HA4.out.below hb5).1.below hb6).1
  have hsl : IsSl w6 (fun b => b = w4.heap.size) (.slice (some ⟨w4.heap.size, 0, none⟩) 2 2) [.mk 1 0 ⟨#[]⟩ [], .mk 1 0 ⟨#[]⟩ []] :=
    pair_sl (t1 := .mk 1 0 ⟨#[]⟩ []) (t2 := .mk 1 0 ⟨#[]⟩ []) rfl ((hb6.block _ (by simp)).trans hr5) (IsSl.nil _ _ _ _) (IsSl.nil _ _ _ _)
  have hi6 : IsTm w6 (fun b => b = w4.heap.size) (.agg #[.int .i64 4, .int .i64 0, .string ⟨#[102]⟩, .slice (some ⟨w4.heap.size, 0, none⟩) 2 2]) cf1 := IsTm.mk' (t := cf1) hsl
  have hp6 := law_Put ha6 cs1_inv hi6 (fun b hb => by rw [hb]; exact hn5) c2_may (by decide)
  rw [show ((cs1.cells.length : Nat) : Int) = 2 by decide +kernel] at hp6
  have HP6 := Lib.hid hp6
  clear hb5 hr5 hn5 hb6 ha6 hsl hi6 hp6 HA4
  generalize w4.heap.size = g6 at *
  go_wp2_with fail
  refine HP6.out.mono ?_
  rintro e7 wl2 ⟨rfl, D2, l7, -⟩
  have HL2 := Lib.hid (show Law8 w w.heap.size cs2 D2 wl2 from l7)
  clear l7 HP6
  dsimp only
  go_wp2_with fail
  refine (al11_v _ _).mono ?_
  rintro e3 w3 ⟨rfl, hb3⟩
  go_wp2_with fail
  refine (al11_v _ _).mono ?_
  rintro e4 w4 ⟨rfl, hb4⟩
  have HA4 := Lib.hid ((HL2.out.below hb3).1.below hb4).1
  clear hb3 hb4 HL2
  go_wp2_with fail
  have hb5 := below_new w4 (.cells #[.int .i64 1, .int .i64 0, .string ⟨#[]⟩, .slice none 0 0, .int .i64 1, .int .i64 1, .string ⟨#[]⟩, .slice none 0 0] 33 (0, 0))
  have hr5 := heap_alloc_new w4 (.cells #[.int .i64 1, .int .i64 0, .string ⟨#[]⟩, .slice none 0 0, .int .i64 1, .int .i64 1, .string ⟨#[]⟩, .slice none 0 0] 33 (0, 0))
  have hn5 : ¬ D2 w4.heap.size := fun e => by have := HA4.out.dl _ e; omega
  refine (al11_f _ _ _ _).mono ?_
  rintro e6 w6 ⟨rfl, hb6⟩
  have ha6 := ((HA4.out.below hb5).1.below hb6).1
  have hsl : IsSl w6 (fun b => b = w4.heap.size) (.slice (some ⟨w4.heap.size, 0, none⟩) 2 2) [.mk 1 0 ⟨#[]⟩ [], .mk 1 1 ⟨#[]⟩ []] :=
    pair_sl (t1 := .mk 1 0 ⟨#[]⟩ []) (t2 := .mk 1 1 ⟨#[]⟩ []) rfl ((hb6.block _ (by simp)).trans hr5) (IsSl.nil _ _ _ _) (IsSl.nil _ _ _ _)
  have hi6 : IsTm w6 (fun b => b = w4.heap.size) (.agg #[.int .i64 4, .int .i64 0, .string ⟨#[102]⟩, .slice (some ⟨w4.heap.size, 0, none⟩) 2 2]) cf2 := IsTm.mk' (t := cf2) hsl
  have hp6 := law_Put ha6 cs2_inv hi6 (fun b hb => by rw [hb]; exact hn5) c3_may (by decide)
  rw [show ((cs2.cells.length : Nat) : Int) = 4 by decide +kernel] at hp6
  have HP6 := Lib.hid hp6
  clear hb5 hr5 hn5 hb6 ha6 hsl hi6 hp6 HA4
  generalize w4.heap.size = g6 at *
  go_wp2_with fail
  refine HP6.out.mono ?_
  rintro e7 wl3 ⟨rfl, D3, l7, -⟩
  have HL3 := Lib.hid (show Law8 w w.heap.size cs3 D3 wl3 from l7)
  clear l7 HP6
  dsimp only
  obtain ⟨ea, na, sa, -⟩ := cs_a.got (by decide)
  obtain ⟨eb, nb, sb, -⟩ := cs_b.got (by decide)
  obtain ⟨ec, nc, sc, -⟩ := cs_c.got (by decide)
  have z1 : cf1.size = 3 := rfl
  have z2 : cf2.size = 3 := rfl
  have h1 : ∀ u, Law8 w w.heap.size cs3 D3 u → _ := fun u hu => cp_Alike hu cs3_inv 0 2 cs_a.lt cs_b.lt ea eb (by omega) (by omega)
  have h2 : ∀ u, Law8 w w.heap.size cs3 D3 u → _ := fun u hu => cp_Alike hu cs3_inv 0 4 cs_a.lt cs_c.lt ea ec (by omega) (by omega)
  rw [na, nb, c12.1] at h1
  rw [na, nc, c12.2] at h2
  have K1 := Lib.hid h1
  have K2 := Lib.hid h2
  clear h1 h2 ea na sa eb nb sb ec nc sc z1 z2
  go_wp2_with fail
  refine (K1.out _ HL3.out).mono ?_
  rintro e8 w8 ⟨rfl, l8, -⟩
  have HL8 := Lib.hid l8
  clear l8 HL3
  go_wp2_with fail
  refine (K2.out _ HL8.out).mono ?_
  rintro e9 w9 ⟨rfl, l9, -⟩
  have HL9 := Lib.hid l9
  clear l9 HL8
  go_wp2
  go_ret
  exact ⟨rfl, HL9.out.bel⟩
end Go.Proofs.Ytoklbeogmcdgaaa.Tms
