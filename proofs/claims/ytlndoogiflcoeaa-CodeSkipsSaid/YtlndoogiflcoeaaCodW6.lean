/-
  What the reference's Skip and Check come to, walked over the program.
-/
import Derived.Test.YtlndoogiflcoeaaCodW5
namespace Go.Proofs.Ytlndoogiflcoeaa.Cod
open Go Go.RowKit Go.Proofs.Ytlndoogiflcoeaa.Reg

set_option maxHeartbeats 800000 in
theorem ref_skip (L : List Ins) (z : Int) (v : Value) (w : World) (hv : InsSl w v L) (hl : L.length ≤ 1000000) :
    Calls Try.prog 28 #[v, .int .i64 z] w (SkipOk L z w) := by
  obtain ⟨a, cap, rfl, hc⟩ := hv
  by_cases hz : z < 0
  · go_enter Try.func28, Try.ntmps28
    go_wp2
    go_ret
    exact ⟨ret_int (skip_neg L z hz).symm, Below.refl _ _⟩
  by_cases hz2 : (L.length : Int) ≤ z
  · have hp := skip_past L z hz2
    have H := Lib.hid hp
    clear hp
    go_enter Try.func28, Try.ntmps28
    go_wp2
    go_ret
    exact ⟨ret_int H.out.symm, Below.refl _ _⟩
  obtain ⟨k0, rfl⟩ : ∃ k : Nat, z = k := ⟨z.toNat, by omega⟩
  have hst : SkRel L k0 w (.int .i64 k0) (.int .i64 ((1 : Nat) : Int)) w := ⟨k0, 1, by omega, rfl, rfl, by omega, (skip_nat L k0).symm, Below.refl _ _⟩
  have H := Lib.hid hst
  clear hst
  go_enter Try.func28, Try.ntmps28
  go_wp2
  go_loopw [1, 5] (fun a n wr => SkRel L k0 w a n wr) (fun a _ _ => 1000002 - (intOf a).toNat)
  case atStart => exact H.out
  case round =>
    obtain ⟨k, m, hk, rfl, rfl, hm, hsk, hbl⟩ := hrel
    have HS := Lib.hid hsk
    clear hsk H
    by_cases hlt : k < L.length
    · obtain ⟨b, off, rfl, hi⟩ := hc k hlt
      have hi' := hi.below hbl hi.lt
      obtain ⟨g0, g1, g2, g3⟩ := hi'
      have hbr : b < wr.heap.size := by have := hi.lt; have := hbl.size; omega
      clear hc hi
      by_cases b1 : L[k].op < 1
      · go_wp2
        all_goals first
          | (go_ret; exact skr_zero (by assumption) HS hbl)
          | (go_ret; exact skr_bad hlt (by assumption) HS (ins_bad (by omega)) (hbl.alloc hbl.size _))
      by_cases b2 : 6 < L[k].op
      · go_wp2
        all_goals first
          | (go_ret; exact skr_zero (by assumption) HS hbl)
          | (go_ret; exact skr_bad hlt (by assumption) HS (ins_bad (by omega)) (hbl.alloc hbl.size _))
      by_cases b3 : L[k].op = 6
      · have h6 := Lib.hid b3
        have h6' : (L[k].op == 6) = true := by simpa using b3
        clear b3
        by_cases b4 : L[k].a < 1
        · go_wp2
          all_goals first
            | (go_ret; exact skr_zero (by assumption) HS hbl)
            | (have := h6.out; go_ret; exact skr_bad hlt (by assumption) HS (ins_bad (by omega)) (hbl.alloc hbl.size _))
        by_cases b5 : 255 < L[k].a
        · go_wp2
          all_goals first
            | (go_ret; exact skr_zero (by assumption) HS hbl)
            | (have := h6.out; go_ret; exact skr_bad hlt (by assumption) HS (ins_bad (by omega)) (hbl.alloc hbl.size _))
        go_wp2
        all_goals first
          | (go_ret; exact skr_zero (by assumption) HS hbl)
          | (obtain ⟨e1, e2, e3⟩ := ins_comp h6.out (by omega) (by omega)
             go_roundw
             case rel => exact skr_step hlt (by assumption) HS hm (hbl.alloc hbl.size _) e1 (by omega) e3 rfl
             case measure => simp [intOf]; omega)
      · have h6' : (L[k].op == 6) = false := by simpa using b3
        go_wp2
        all_goals first
          | (go_ret; exact skr_zero (by assumption) HS hbl)
          | (obtain ⟨e1, e2⟩ := ins_good (i := L[k]) (by omega) (by omega) b3
             go_roundw
             case rel => exact skr_step hlt (by assumption) HS hm (hbl.alloc hbl.size _) e1 (by omega) (by omega) rfl
             case measure => simp [intOf]; omega)
    · go_wp2
      all_goals first
        | (go_ret; exact skr_zero (by assumption) HS hbl)
        | (go_ret; exact skr_end (by omega) (by assumption) HS hbl)
end Go.Proofs.Ytlndoogiflcoeaa.Cod
