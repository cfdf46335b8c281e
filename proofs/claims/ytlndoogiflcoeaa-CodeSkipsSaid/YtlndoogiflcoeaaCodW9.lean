/-
  The reference's Same says yes of one code read twice; the document's example; walked over the program.
-/
import Derived.Test.YtlndoogiflcoeaaCodW8
import Derived.Deep.QuietTactic
import Derived.BigQuiet
namespace Go.Proofs.Ytlndoogiflcoeaa.Cod
open Go Go.RowKit Go.Proofs.Ytlndoogiflcoeaa.Reg

def SaRel (n : Nat) (W : World) (c : Value) (wr : World) : Prop := ∃ k : Nat, k ≤ n ∧ c = .int .i64 k ∧ Below W.heap.size W wr

theorem two (w : World) (a b : Obj) : ((w.alloc a).alloc b).heap[w.heap.size]? = some a ∧ ((w.alloc a).alloc b).heap[w.heap.size + 1]? = some b ∧ ((w.alloc a).alloc b).heap.size = w.heap.size + 2 ∧ Below w.heap.size w ((w.alloc a).alloc b) :=
  ⟨heap_alloc2_old w a b, heap_alloc2_new w a b, by simp, ((Below.refl _ _).alloc (Nat.le_refl _) _).alloc (by simp) _⟩

set_option maxHeartbeats 800000 in
theorem ref_same (c : Cod) (v1 v2 : Value) (w : World) (hv1 : InsSl w v1 c.l) (hv2 : InsSl w v2 c.l) (hl : c.l.length ≤ 1000000) :
    Calls Try.prog 29 #[codVal c v1, codVal c v2] w (Says true w) := by
  obtain ⟨aa, cap, rfl, hc⟩ := hv1
  obtain ⟨ab, cap2, rfl, hc2⟩ := hv2
  obtain ⟨nm, ar, sl, bo, L⟩ := c
  dsimp only at *
  obtain ⟨t0, t1, tsz, tbl⟩ := two w (.cells #[.string nm, .int .i64 ar, .int .i64 sl, .int .i64 bo, .slice aa L.length cap] 41) (.cells #[.string nm, .int .i64 ar, .int .i64 sl, .int .i64 bo, .slice ab L.length cap2] 41)
  have HC := Lib.hid hc
  have HC2 := Lib.hid hc2
  have T0 := Lib.hid t0
  have T1 := Lib.hid t1
  have TS := Lib.hid tsz
  have TB := Lib.hid tbl
  clear hc hc2 t0 t1 tsz tbl
  go_enter Try.func29, Try.ntmps29
  go_wp2
  generalize ((w.alloc (.cells #[.string nm, .int .i64 ar, .int .i64 sl, .int .i64 bo, .slice aa L.length cap] 41)).alloc (.cells #[.string nm, .int .i64 ar, .int .i64 sl, .int .i64 bo, .slice ab L.length cap2] 41)) = W at *
  have hst : SaRel L.length W (.int .i64 ((0 : Nat) : Int)) W := ⟨0, by omega, rfl, Below.refl _ _⟩
  have H := Lib.hid hst
  clear hst
  go_loopw [44] (fun c wr => SaRel L.length W c wr) (fun c _ => L.length - (intOf c).toNat)
  case atStart => exact H.out
  case round =>
    obtain ⟨k, hk, rfl, hbl⟩ := hrel
    have hbl0 : Below w.heap.size w wr := TB.out.trans (hbl.mono (by have := TS.out; omega))
    have hsz : w.heap.size + 2 ≤ W.heap.size := by have := TS.out; omega
    have hszr : W.heap.size ≤ wr.heap.size := hbl.size
    have f4 := cell_of_row wr w.heap.size 4 _ _ _ ((hbl.block _ (by omega)).trans T0.out)
    have e4 := cell_of_row wr (w.heap.size + 1) 4 _ _ _ ((hbl.block _ (by omega)).trans T1.out)
    clear H
    by_cases hkl : k < L.length
    · obtain ⟨b2, off, rfl, hi⟩ := HC.out k hkl
      obtain ⟨b3, off3, rfl, hi3⟩ := HC2.out k hkl
      obtain ⟨g0, g1, g2, g3⟩ := hi.below hbl0 hi.lt
      obtain ⟨d0, d1, d2, d3⟩ := hi3.below hbl0 hi3.lt
      clear hi hi3
      generalize L[k] = x at *
      obtain ⟨iop, ia, in_, is⟩ := x
      dsimp only at *
      have hin : (k : Int) < (L.length : Int) := by omega
      have hin0 : (0 : Int) ≤ (k : Int) := by omega
      go_wp2
      go_quiet (fail)
      go_wp2
      go_roundw
      case rel => exact ⟨k + 1, by omega, by go_num, ⟨hbl.os, hbl.tape, hbl.output, hbl.size, hbl.block⟩⟩
      case measure => simp [intOf]; omega
    · go_wp2
      go_ret
      exact says rfl hbl0

def exCod : Cod := ⟨⟨#[112]⟩, 2, 1, 3, [⟨2, 0, 0, ⟨#[]⟩⟩, ⟨6, 1, 0, ⟨#[102]⟩⟩, ⟨3, 0, 0, ⟨#[]⟩⟩, ⟨5, 0, 0, ⟨#[113]⟩⟩]⟩

theorem ex_in {w : World} {b cap : Nat} {T : TypeId} (h : w.heap[b]? = some (.cells #[.int .i64 2, .int .i64 0, .int .i64 0, .string ⟨#[]⟩, .int .i64 6, .int .i64 1, .int .i64 0, .string ⟨#[102]⟩, .int .i64 3, .int .i64 0, .int .i64 0, .string ⟨#[]⟩, .int .i64 5, .int .i64 0, .int .i64 0, .string ⟨#[113]⟩] T (0, 0))) :
    InsSl w (.slice (some ⟨b, 0, none⟩) 4 cap) exCod.l := by
  refine ⟨_, cap, rfl, fun j hj => ⟨b, 0, rfl, ?_⟩⟩
  have hj4 : j < 4 := hj
  have : j = 0 ∨ j = 1 ∨ j = 2 ∨ j = 3 := by omega
  rcases this with rfl | rfl | rfl | rfl <;> exact ⟨cell_of_row w b _ _ _ _ h, cell_of_row w b _ _ _ _ h, cell_of_row w b _ _ _ _ h, cell_of_row w b _ _ _ _ h⟩

theorem example_any (w : World) : Calls Try.prog 41 #[] w (Gives exCod w) := by
  go_enter Try.func41, Try.ntmps41
  go_wp2
  exact bodyPost_ret (v := codVal exCod (.slice (some ⟨w.heap.size + 1, 0, none⟩) 4 4)) (by simp [results, Try.results41, go_sem, exCod]) rfl ⟨_, rfl, ex_in (heap_alloc2_new w _ _), ((Below.refl _ _).alloc (Nat.le_refl _) _).alloc (by simp) _⟩
end Go.Proofs.Ytlndoogiflcoeaa.Cod
