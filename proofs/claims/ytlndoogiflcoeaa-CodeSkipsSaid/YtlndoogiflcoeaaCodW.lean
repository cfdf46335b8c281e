/-
  What code.Skip and the reference's Skip come to, walked over the program.
-/
import Derived.Test.YtlndoogiflcoeaaCodM
import Derived.Test.YtlndoogiflcoeaaProg
namespace Go.Proofs.Ytlndoogiflcoeaa.Cod
open Go Go.RowKit

theorem ret_int {k : IntKind} {a b : Int} (h : a = b) : Ending.returned (.int k a) = .returned (.int k b) := by rw [h]
theorem ret_bool {a b : Bool} (h : a = b) : Ending.returned (.bool a) = .returned (.bool b) := by rw [h]

def SkipOk (L : List Ins) (z : Int) (w : World) (e : Ending) (w' : World) : Prop := e = .returned (.int .i64 (skip L z)) ∧ Below w.heap.size w w'

theorem ins_good {i : Ins} (h1 : 1 ≤ i.op) (h2 : i.op ≤ 6) (h3 : i.op ≠ 6) : i.bad = false ∧ i.ar = 0 := by
  simp [Ins.bad, Ins.ar]; omega
theorem ins_comp {i : Ins} (h1 : i.op = 6) (h2 : 1 ≤ i.a) (h3 : i.a ≤ 255) : i.bad = false ∧ (i.ar : Int) = i.a ∧ i.ar ≤ 255 := by
  simp [Ins.bad, Ins.ar, h1]; omega
theorem ins_bad {i : Ins} (h : i.op < 1 ∨ 6 < i.op ∨ i.op = 6 ∧ (i.a < 1 ∨ 255 < i.a)) : i.bad = true := by
  simp [Ins.bad]; omega

def SkRel (L : List Ins) (z : Int) (w : World) (a n : Value) (wr : World) : Prop :=
  ∃ k m : Nat, k ≤ L.length ∧ a = .int .i64 k ∧ n = .int .i64 m ∧ m ≤ k * 255 + 1 ∧ skA L m k = skip L z ∧ Below w.heap.size w wr


theorem skr_bad {L : List Ins} {k m : Nat} {z : Int} {w wr : World} (hk : k < L.length) (h0 : 0 < m) (HS : Hid (skA L m k = skip L z)) (hb : L[k].bad = true) (hB : Below w.heap.size w wr) : SkipOk L z w (.returned (.int .i64 (-1))) wr := by
  refine ⟨ret_int ?_, hB⟩
  rw [← HS.out]
  obtain ⟨q, rfl⟩ : ∃ q, m = q + 1 := ⟨m - 1, by omega⟩
  exact (skA_bad L q k hk hb).symm
theorem skr_end {L : List Ins} {k m : Nat} {z : Int} {w wr : World} (hk : L.length ≤ k) (h0 : 0 < m) (HS : Hid (skA L m k = skip L z)) (hB : Below w.heap.size w wr) : SkipOk L z w (.returned (.int .i64 (-1))) wr := by
  refine ⟨ret_int ?_, hB⟩
  rw [← HS.out]
  obtain ⟨q, rfl⟩ : ∃ q, m = q + 1 := ⟨m - 1, by omega⟩
  exact (skA_end L q k hk).symm
theorem skr_zero {L : List Ins} {k m : Nat} {z : Int} {w wr : World} (h0 : ¬ 0 < m) (HS : Hid (skA L m k = skip L z)) (hB : Below w.heap.size w wr) : SkipOk L z w (.returned (.int .i64 k)) wr := by
  refine ⟨ret_int ?_, hB⟩
  rw [← HS.out]
  obtain rfl : m = 0 := by omega
  exact (skA_zero L k).symm
theorem skr_step {L : List Ins} {k m : Nat} {z : Int} {w wr : World} {x y : Int} (hk : k < L.length) (h0 : 0 < m) (HS : Hid (skA L m k = skip L z)) (hm : m ≤ k * 255 + 1) (hB : Below w.heap.size w wr)
    (hb : L[k].bad = false) (ha : (L[k].ar : Int) = y - m + 1) (har : L[k].ar ≤ 255) (hx : x = k + 1) : SkRel L z w (.int .i64 x) (.int .i64 y) wr := by
  obtain ⟨q, rfl⟩ : ∃ q, m = q + 1 := ⟨m - 1, by omega⟩
  refine ⟨k + 1, q + L[k].ar, by omega, by rw [hx]; rfl, by congr 1; omega, by omega, ?_, hB⟩
  rw [← skA_step L q k hk hb]; exact HS.out

set_option maxHeartbeats 400000 in
theorem go_skip (L : List Ins) (z : Int) (v : Value) (w : World) (hv : InsSl w v L) (hl : L.length ≤ 1000000) :
    Calls Try.prog 27 #[v, .int .i64 z] w (SkipOk L z w) := by
  obtain ⟨a, cap, rfl, hc⟩ := hv
  by_cases hz : z < 0
  · go_enter Try.func27, Try.ntmps27
    go_wp2
    go_ret
    exact ⟨ret_int (skip_neg L z hz).symm, Below.refl _ _⟩
  by_cases hz2 : (L.length : Int) < z
  · have hp := skip_past L z (by omega)
    have H := Lib.hid hp
    clear hp
    go_enter Try.func27, Try.ntmps27
    go_wp2
    refine wp_loop_rounds 1 ?_
    rw [rounds_succ]
    go_wp2
    go_ret
    exact ⟨ret_int H.out.symm, Below.refl _ _⟩
  obtain ⟨k0, rfl⟩ : ∃ k : Nat, z = k := ⟨z.toNat, by omega⟩
  have hst : SkRel L k0 w (.int .i64 k0) (.int .i64 ((1 : Nat) : Int)) w := ⟨k0, 1, by omega, rfl, rfl, by omega, (skip_nat L k0).symm, Below.refl _ _⟩
  have H := Lib.hid hst
  clear hst
  go_enter Try.func27, Try.ntmps27
  go_wp2
  go_loopw [1, 5] (fun a n wr => SkRel L k0 w a n wr) (fun a _ _ => 1000002 - (intOf a).toNat)
  case atStart => exact H.out
  case round =>
    obtain ⟨k, m, hk, rfl, rfl, hm, hsk, hbl⟩ := hrel
    have HS := Lib.hid hsk
    clear hsk H
    by_cases hlt : k < L.length
    · obtain ⟨b, off, rfl, hi⟩ := hc k hlt
      have hi' := hi.below hbl hi.lt
      obtain ⟨g0, g1, g2, g3⟩ := hi'
      have hbr : b < wr.heap.size := by have := hi.lt; have := hbl.size; omega
      clear hc hi
      go_wp2
      all_goals first
        | (go_ret; exact skr_zero (by assumption) HS hbl)
        | (go_ret; exact skr_bad hlt (by assumption) HS (ins_bad (by omega)) (hbl.alloc hbl.size _))
        | (have h6 : L[k].op = 6 := by simpa using (by assumption : (L[k].op == 6) = true)
           go_ret; exact skr_bad hlt (by assumption) HS (ins_bad (by omega)) (hbl.alloc hbl.size _))
        | (have h6 : L[k].op = 6 := by simpa using (by assumption : (L[k].op == 6) = true)
           obtain ⟨e1, e2, e3⟩ := ins_comp h6 (by omega) (by omega)
           go_roundw
           case rel => exact skr_step hlt (by assumption) HS hm (hbl.alloc hbl.size _) e1 (by omega) e3 rfl
           case measure => simp [intOf]; omega)
        | (have h6 : L[k].op ≠ 6 := by simpa using (by assumption : (L[k].op == 6) = false)
           obtain ⟨e1, e2⟩ := ins_good (i := L[k]) (by omega) (by omega) h6
           go_roundw
           case rel => exact skr_step hlt (by assumption) HS hm (hbl.alloc hbl.size _) e1 (by omega) (by omega) rfl
           case measure => simp [intOf]; omega)
    · go_wp2
      all_goals first
        | (go_ret; exact skr_zero (by assumption) HS hbl)
        | (go_ret; exact skr_end (by omega) (by assumption) HS hbl)
end Go.Proofs.Ytlndoogiflcoeaa.Cod
