
/-
  Atoms, compound terms and indicators, of the program and of the reference, walked over the program.
-/
import Derived.Test.YtibjcfbilkkmkaaSame
import Derived.Laws.Tables
import Derived.Test.YtibjcfbilkkmkaaGna
namespace Go.Proofs.Ytibjcfbilkkmkaa.Tms
open Go Go.RowKit Go.Proofs.Ytibjcfbilkkmkaa.Reg
theorem ref_ind (s : ByteArray) (n : Int) (w : World) : Calls Try.prog 59 #[.string s, .int .i64 n] w (MakesTm (fun _ => False) (indT s n) w) := by
  go_enter Try.func59, Try.ntmps59
  go_wp2
  have hz := (heap_alloc_old (w.alloc (.cells #[.int .i64 4, .int .i64 0, .string slash, .slice (some ⟨w.heap.size + 1, 0, none⟩) 2 2] 30 (0, 0))) (.cells #[.int .i64 3, .int .i64 0, .string s, .slice none 0 0, .int .i64 2, .int .i64 n, .string ⟨#[]⟩, .slice none 0 0] 30 (0, 0)) (r := w.heap.size) (by simp)).trans (heap_alloc_new w _)
  have hc : ((w.alloc (.cells #[.int .i64 4, .int .i64 0, .string slash, .slice (some ⟨w.heap.size + 1, 0, none⟩) 2 2] 30 (0, 0))).alloc (.cells #[.int .i64 3, .int .i64 0, .string s, .slice none 0 0, .int .i64 2, .int .i64 n, .string ⟨#[]⟩, .slice none 0 0] 30 (0, 0))).heap[w.heap.size + 1]? = some (.cells #[.int .i64 3, .int .i64 0, .string s, .slice none 0 0, .int .i64 2, .int .i64 n, .string ⟨#[]⟩, .slice none 0 0] 30 (0, 0)) := by
    have h := heap_alloc_new (w.alloc (.cells #[.int .i64 4, .int .i64 0, .string slash, .slice (some ⟨w.heap.size + 1, 0, none⟩) 2 2] 30 (0, 0))) (.cells #[.int .i64 3, .int .i64 0, .string s, .slice none 0 0, .int .i64 2, .int .i64 n, .string ⟨#[]⟩, .slice none 0 0] 30 (0, 0))
    rwa [show (w.alloc (.cells #[.int .i64 4, .int .i64 0, .string slash, .slice (some ⟨w.heap.size + 1, 0, none⟩) 2 2] 30 (0, 0))).heap.size = w.heap.size + 1 by simp] at h
  refine bodyPost_ret (v := compV slash (some ⟨w.heap.size + 1, 0, none⟩) 2 2) (results_cell_row Try.results59 _ _ w.heap.size _ _ _ _ rfl hz Try.underlying30 rfl (by kernel_rfl)) rfl ⟨_, rfl, comp_is (l := [atomT s, intT n]) (pair_sl (t1 := atomT s) (t2 := intT n) (.inr (Nat.le_succ _)) hc (IsSl.nil _ _ none 0) (IsSl.nil _ _ none 0)), ((Below.refl _ _).alloc (Nat.le_refl _) _).alloc (by simp) _⟩

end Go.Proofs.Ytibjcfbilkkmkaa.Tms
