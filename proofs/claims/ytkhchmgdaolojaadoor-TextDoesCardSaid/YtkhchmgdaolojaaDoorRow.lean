
/-
  Terms in rows that a call makes: one, two; a term whose blocks are any.
-/
import Derived.Test.YtkhchmgdaolojaaDoorTs
import Derived.Test.YtkhchmgdaolojaaDoorGmy
namespace Go.Proofs.YtkhchmgdaolojaaDoor.Tms
open Go Go.RowKit Go.Proofs.YtkhchmgdaolojaaDoor.Reg Go.Proofs.YtkhchmgdaolojaaDoor.Rws
set_option linter.unusedVariables false

abbrev AnyB : Nat → Prop := fun _ => True
abbrev varV (n : Int) : Value := .agg #[.int .i64 1, .int .i64 n, .string ⟨#[]⟩, .slice none 0 0]
def varT (n : Int) : Tm := .mk 1 n ⟨#[]⟩ []
theorem var_is (w : World) (P : Nat → Prop) (n : Int) : IsTm w P (varV n) (varT n) := IsTm.mk' (t := varT n) (IsSl.nil w P none 0)
theorem IsTm.any {w : World} {P : Nat → Prop} {v : Value} {t : Tm} (h : IsTm w P v t) : IsTm w AnyB v t := h.imp (fun _ _ => trivial) fun _ _ _ => rfl
theorem row2 {w : World} {x y : Tm} {a a' : Option Addr} {c c' : Nat} (hx : IsTm w AnyB (.agg #[.int .i64 x.k, .int .i64 x.n, .string x.s, .slice a x.args.length c]) x) (hy : IsTm w AnyB (.agg #[.int .i64 y.k, .int .i64 y.n, .string y.s, .slice a' y.args.length c']) y) :
    IsSl (w.alloc (.cells #[.int .i64 x.k, .int .i64 x.n, .string x.s, .slice a x.args.length c, .int .i64 y.k, .int .i64 y.n, .string y.s, .slice a' y.args.length c'] 28 (0, 0))) AnyB (.slice (some ⟨w.heap.size, 0, none⟩) 2 2) [x, y] := by
  have hb : Below w.heap.size w (w.alloc (.cells #[.int .i64 x.k, .int .i64 x.n, .string x.s, .slice a x.args.length c, .int .i64 y.k, .int .i64 y.n, .string y.s, .slice a' y.args.length c'] 28 (0, 0))) := (Below.refl _ _).alloc (Nat.le_refl _) _
  have h := heap_alloc_new w (.cells #[.int .i64 x.k, .int .i64 x.n, .string x.s, .slice a x.args.length c, .int .i64 y.k, .int .i64 y.n, .string y.s, .slice a' y.args.length c'] 28 (0, 0))
  exact sl_of_cells (cs := [.int .i64 x.k, .int .i64 x.n, .string x.s, .slice a x.args.length c, .int .i64 y.k, .int .i64 y.n, .string y.s, .slice a' y.args.length c']) h (CellsOf.cons (hx.below hb) (CellsOf.cons (hy.below hb) trivial)) rfl trivial

theorem row_on {W W' : World} {b : Nat} {o : Obj} (h : W.heap[b]? = some o) (hb : Below W.heap.size W W') : W'.heap[b]? = some o := (hb.block b (Array.getElem?_eq_some_iff.1 h).1).trans h
end Go.Proofs.YtkhchmgdaolojaaDoor.Tms
