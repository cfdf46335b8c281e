
/-
  The statements of layer 16: only, walked over the program.
-/
import Derived.Test.YtkhchmgdaolojaaDoorTxo
namespace Go.Proofs.YtkhchmgdaolojaaDoor.Tms
open Go Go.RowKit Go.Proofs.YtkhchmgdaolojaaDoor.Reg Go.Proofs.YtkhchmgdaolojaaDoor.Rws Go.Proofs.YtkhchmgdaolojaaDoor.Maps Go.Instr
set_option linter.unusedVariables false
set_option linter.unusedSimpArgs false

set_option maxRecDepth 100000 in
set_option maxHeartbeats 4000000 in
theorem l16_only (f : Int) (t : Tm) (q q' : Option Addr) (k k' : Nat) (P : Nat → Prop) (w : World) (h1 : IntSl w AnyB (.slice q 1 k) [f]) (h2 : IsSl w P (.slice q' 1 k') [t]) :
    Calls Tryd.prog 18 #[.agg #[.bool true, .slice q 1 k, .slice q' 1 k', .int .i64 0, .int .i64 0, .string ⟨#[]⟩, .slice none 0 0], .int .i64 0, .int .i64 f] w (fun e w' => ∃ a c, e = .returned (.tuple #[.agg #[.int .i64 t.k, .int .i64 t.n, .string t.s, .slice a t.args.length c], .bool true]) ∧ IsTm w' (fun b => P b ∧ b < w.heap.size) (.agg #[.int .i64 t.k, .int .i64 t.n, .string t.s, .slice a t.args.length c]) t ∧ Below w.heap.size w w') := by
  obtain ⟨w1, w2, w3, w4⟩ := two w (.cells #[.bool true, .slice q 1 k, .slice q' 1 k', .int .i64 0, .int .i64 0, .string ⟨#[]⟩, .slice none 0 0] 35 (0, 0)) (.cells #[.int .i64 0, .int .i64 0, .string ⟨#[]⟩, .slice none 0 0] 28 (0, 0))
  have h2' := h2.lt2.below w4
  obtain ⟨a, c, e, -, -, h3⟩ := h1.below w4
  obtain ⟨ib, io, ea, -, il, hc⟩ := h3 0 (by simp)
  simp only [Value.slice.injEq] at e
  obtain ⟨rfl, -, -⟩ := e
  subst ea
  obtain ⟨tb, oo, eb, -⟩ := h2'.at 0 (by simp)
  subst eb
  obtain ⟨ta, tc, x0, x1, x2, x3, it, lt⟩ := (h2'.atb 0 (by simp)).read
  simp only [List.getElem_cons_zero, Nat.zero_mul, Nat.add_zero] at x0 x1 x2 x3 it hc
  obtain ⟨b0, b1, b2, b3, b4, b5, b6⟩ := row7 w1
  have HR := Lib.hid w2
  have HB := Lib.hid w4
  have HIT := Lib.hid it
  clear h1 h2 h2' h3 w1 w2 w3 w4 it
  have cf : (f != f) = false := by simp
  go_enter Tryd.func18, Tryd.ntmps18
  go_wp2_with (with_reducible show wpList _ _ _ (⟨none, .store _ (.tmp 6) _, _, _, _, _⟩ :: _) _ _
               go_must (refine wpList_store_row rfl 28 (.tmp 6) (.tmp 45) rfl (w.heap.size + 1) #[.int .i64 t.k, .int .i64 t.n, .string t.s, .slice ta t.args.length tc] rfl rfl _ _ HR.out size_term rfl (one4 _ _ _ _ _ _) ?_))
  have hz := setRow_heap _ (w.heap.size + 1) _ (#[.int .i64 t.k, .int .i64 t.n, .string t.s, .slice ta t.args.length tc] : Array Value) _ _ HR.out
  exact bodyPost_ret (v := .tuple #[.agg #[.int .i64 t.k, .int .i64 t.n, .string t.s, .slice ta t.args.length tc], .bool true]) (Push.results_cell_tmp Tryd.results18 _ _ (w.heap.size + 1) _ #[.int .i64 t.k, .int .i64 t.n, .string t.s, .slice ta t.args.length tc] _ _ _ rfl (by simp) hz Tryd.underlying28 rfl (by kernel_rfl)) rfl
    ⟨_, _, rfl, HIT.out.imp (fun _ h => h) (fun b hb _ => setRow_other _ _ _ _ (by have := hb.2; omega)), below_row HB.out (by omega)⟩
end Go.Proofs.YtkhchmgdaolojaaDoor.Tms
