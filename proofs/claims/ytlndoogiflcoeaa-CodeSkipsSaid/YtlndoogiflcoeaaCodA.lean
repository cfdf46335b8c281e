/-
  The document's example of layer 18 holds, walked over the program.
-/
import Derived.Test.YtlndoogiflcoeaaCodW9
namespace Go.Proofs.Ytlndoogiflcoeaa.Cod
open Go Go.RowKit Go.Proofs.Ytlndoogiflcoeaa.Reg

theorem ex_check : check exCod = 0 := by decide +kernel
theorem ex_none : check ⟨⟨#[]⟩, 0, 0, 0, []⟩ = 2 := by decide +kernel
theorem ex_skip1 : skip exCod.l 1 = 3 := by decide +kernel
theorem ex_skip4 : skip exCod.l 4 = -1 := by decide +kernel

set_option maxHeartbeats 800000 in
theorem alive_any (w : World) : Calls Try.prog 23 #[] w (Says true w) := by
  go_enter Try.func23, Try.ntmps23
  go_wp2_with fail
  refine (example_any _).mono ?_
  rintro e w1 ⟨v, rfl, hv, hb1⟩
  obtain ⟨a, cap, rfl⟩ := hv.form
  have hl : exCod.l.length = 4 := rfl
  rw [hl] at hv ⊢
  have HV := Lib.hid hv
  have HB := Lib.hid hb1
  clear hv hl hb1
  have hW : Below w1.heap.size w1 (w1.alloc (.cells #[.string ⟨#[112]⟩, .int .i64 2, .int .i64 1, .int .i64 3, .slice a 4 cap] 44)) := (Below.refl _ _).alloc (Nat.le_refl _) _
  have hf4 : (w1.alloc (.cells #[.string ⟨#[112]⟩, .int .i64 2, .int .i64 1, .int .i64 3, .slice a 4 cap] 44)).cell? ⟨w1.heap.size, 4, none⟩ = some (.slice a 4 cap) := World.cell?_alloc_at _ _ _ _ rfl
  have hlt : w1.heap.size < (w1.alloc (.cells #[.string ⟨#[112]⟩, .int .i64 2, .int .i64 1, .int .i64 3, .slice a 4 cap] 44)).heap.size := by simp
  have HW := Lib.hid hW
  have HF4 := Lib.hid hf4
  have HLT := Lib.hid hlt
  clear hW hf4 hlt
  simp only [codVal, exCod]
  go_wp2_with fail
  refine (go_check exCod _ _ (HV.out.below HW.out)).mono ?_
  rintro e w2 ⟨rfl, hb2⟩
  rw [ex_check]
  have f4 := (hb2.cell (p := ⟨w1.heap.size, 4, none⟩) HLT.out).trans HF4.out
  have HB2 := Lib.hid (HB.out.trans ((HW.out.trans (hb2.mono HW.out.size)).mono HB.out.size))
  have HV2 := Lib.hid (HV.out.below (HW.out.trans (hb2.mono HW.out.size)))
  have h12 : w1.heap.size < w2.heap.size := by have := hb2.size; have := HLT.out; omega
  clear hb2
  go_wp2_with fail
  refine (go_skip exCod.l 1 _ _ HV2.out (by decide)).mono ?_
  rintro e w3 ⟨rfl, hb3⟩
  rw [ex_skip1]
  have f5 := (hb3.cell (p := ⟨w1.heap.size, 4, none⟩) h12).trans f4
  have HV3 := Lib.hid (HV2.out.below hb3)
  have HB3 := Lib.hid (HB2.out.trans (hb3.mono HB2.out.size))
  clear hb3 f4
  go_wp2_with fail
  refine (go_skip exCod.l 4 _ _ HV3.out (by decide)).mono ?_
  rintro e w4 ⟨rfl, hb4⟩
  rw [ex_skip4]
  have HB4 := Lib.hid (HB3.out.trans (hb4.mono HB3.out.size))
  clear hb4 f5
  go_wp2_with fail
  refine (go_check ⟨⟨#[]⟩, 0, 0, 0, []⟩ (.slice none 0 0) _ (InsSl.nil _ _ _)).mono ?_
  rintro e w5 ⟨rfl, hb5⟩
  rw [ex_none]
  go_wp2
  go_ret
  exact says rfl (HB4.out.trans (hb5.mono HB4.out.size))
end Go.Proofs.Ytlndoogiflcoeaa.Cod
