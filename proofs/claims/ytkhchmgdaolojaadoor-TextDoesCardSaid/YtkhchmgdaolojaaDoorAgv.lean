
/-
  Arguments' own variables: two, three of them, laid in any order.
-/
import Derived.Test.YtkhchmgdaolojaaDoorChd
import Derived.Test.YtkhchmgdaolojaaDoorRls
namespace Go.Proofs.YtkhchmgdaolojaaDoor.Tms
open Go Go.RowKit Go.Proofs.YtkhchmgdaolojaaDoor.Reg Go.Proofs.YtkhchmgdaolojaaDoor.Rws
set_option linter.unusedVariables false
set_option linter.unusedSimpArgs false

theorem IsSl.atb {w : World} {P : Nat → Prop} {b off n c : Nat} {ts : List Tm} (h : IsSl w P (.slice (some ⟨b, off, none⟩) n c) ts) (i : Nat) (hi : i < ts.length) : TmAt w P b (off + i * 4) ts[i] := by
  obtain ⟨b', off', e, -, hat⟩ := h.at i hi
  simp only [Option.some.injEq, Addr.mk.injEq, and_true] at e
  obtain ⟨rfl, rfl⟩ := e
  exact hat
/-- an argument's own variable -/
def ArgAt (t : Tm) (Q : Nat → Prop) (W : World) (b : Nat) : Prop := ∃ a c, W.heap[b]? = some (.cells #[.int .i64 t.k, .int .i64 t.n, .string t.s, .slice a t.args.length c] 28 (0, 0)) ∧ IsSl W Q (.slice a t.args.length c) t.args
theorem ArgAt.below {t : Tm} {Q : Nat → Prop} {b : Nat} {W W' : World} (h : ArgAt t Q W b) (hb : Below W.heap.size W W') : ArgAt t Q W' b := let ⟨a, c, h1, h2⟩ := h; ⟨a, c, row_on h1 hb, h2.below hb⟩
def Args2 (x y : Tm) (Q : Nat → Prop) (W0 : World) (v3 v4 : Value) (wx : World) : Prop := ∃ b3 b4, v3 = .pointer (some ⟨b3, 0, none⟩) ∧ v4 = .pointer (some ⟨b4, 0, none⟩) ∧ ArgAt x Q wx b3 ∧ ArgAt y Q wx b4 ∧ Below W0.heap.size W0 wx
theorem Args2.lift {x y : Tm} {Q : Nat → Prop} {W0 W2 wx : World} {v3 v4 : Value} (hb : Below W0.heap.size W0 W2) (h : Args2 x y Q W2 v3 v4 wx) : Args2 x y Q W0 v3 v4 wx := let ⟨b3, b4, h1, h2, h3, h4, h5⟩ := h; ⟨b3, b4, h1, h2, h3, h4, hb.trans (h5.mono hb.size)⟩
theorem args_two {x y : Tm} {Q : Nat → Prop} {g g' : Nat} {W0 W : World} {a a' : Option Addr} {c c' : Nat} {o o' : Array Value} (hb : Below W0.heap.size W0 W) (hg : W0.heap.size ≤ g) (hg' : W0.heap.size ≤ g') (hne : g ≠ g') (hQ : ∀ b, Q b → b < W0.heap.size) (r1 : W.heap[g]? = some (.cells o 28 (0, 0))) (r2 : W.heap[g']? = some (.cells o' 28 (0, 0)))
    (h1 : IsSl W Q (.slice a x.args.length c) x.args) (h2 : IsSl W Q (.slice a' y.args.length c') y.args) :
    Args2 x y Q W0 (.pointer (some ⟨g, 0, none⟩)) (.pointer (some ⟨g', 0, none⟩)) ((W.setRow g #[.int .i64 x.k, .int .i64 x.n, .string x.s, .slice a x.args.length c]).setRow g' #[.int .i64 y.k, .int .i64 y.n, .string y.s, .slice a' y.args.length c']) := by
  have hr1 := setRow_heap W g _ (#[.int .i64 x.k, .int .i64 x.n, .string x.s, .slice a x.args.length c] : Array Value) _ _ r1
  have hr2 := (setRow_other W g g' #[.int .i64 x.k, .int .i64 x.n, .string x.s, .slice a x.args.length c] (Ne.symm hne)).trans r2
  have hr3 := setRow_heap _ g' _ (#[.int .i64 y.k, .int .i64 y.n, .string y.s, .slice a' y.args.length c'] : Array Value) _ _ hr2
  have hoth : ∀ b, b ≠ g → b ≠ g' → ((W.setRow g #[.int .i64 x.k, .int .i64 x.n, .string x.s, .slice a x.args.length c]).setRow g' #[.int .i64 y.k, .int .i64 y.n, .string y.s, .slice a' y.args.length c']).heap[b]? = W.heap[b]? := fun b n1 n2 => (setRow_other _ _ _ _ n2).trans (setRow_other _ _ _ _ n1)
  refine ⟨g, g', rfl, rfl, ⟨a, c, (setRow_other _ _ _ _ hne).trans hr1, h1.imp (fun _ h => h) fun b hb _ => hoth b (by have := hQ b hb; omega) (by have := hQ b hb; omega)⟩, ⟨a', c', hr3, h2.imp (fun _ h => h) fun b hb _ => hoth b (by have := hQ b hb; omega) (by have := hQ b hb; omega)⟩, hb.os, hb.tape, hb.output, by simpa using hb.size, fun b hlt => (hoth b (by omega) (by omega)).trans (hb.block b hlt)⟩
theorem three (w : World) (a b c : Obj) : (((w.alloc a).alloc b).alloc c).heap[w.heap.size]? = some a ∧ (((w.alloc a).alloc b).alloc c).heap[w.heap.size + 1]? = some b ∧ (((w.alloc a).alloc b).alloc c).heap[w.heap.size + 2]? = some c ∧ Below w.heap.size w (((w.alloc a).alloc b).alloc c) := by
  obtain ⟨h1, h2, h3, h4⟩ := two w a b
  have hb := (Below.refl ((w.alloc a).alloc b).heap.size _).alloc (Nat.le_refl _) c
  refine ⟨row_on h1 hb, row_on h2 hb, ?_, h4.trans (hb.mono (by omega))⟩
  have := heap_alloc_new ((w.alloc a).alloc b) c
  rw [h3] at this
  exact this
def Args3 (x y z : Tm) (Q : Nat → Prop) (W0 : World) (v3 v4 v5 : Value) (wx : World) : Prop := ∃ b3 b4 b5, v3 = .pointer (some ⟨b3, 0, none⟩) ∧ v4 = .pointer (some ⟨b4, 0, none⟩) ∧ v5 = .pointer (some ⟨b5, 0, none⟩) ∧ ArgAt x Q wx b3 ∧ ArgAt y Q wx b4 ∧ ArgAt z Q wx b5 ∧ Below W0.heap.size W0 wx
theorem Args3.lift {x y z : Tm} {Q : Nat → Prop} {W0 W2 wx : World} {v3 v4 v5 : Value} (hb : Below W0.heap.size W0 W2) (h : Args3 x y z Q W2 v3 v4 v5 wx) : Args3 x y z Q W0 v3 v4 v5 wx := let ⟨b3, b4, b5, h1, h2, h3, h4, h5, h6, h7⟩ := h; ⟨b3, b4, b5, h1, h2, h3, h4, h5, h6, hb.trans (h7.mono hb.size)⟩
theorem args_three {x y z : Tm} {Q : Nat → Prop} {g g' g'' : Nat} {W0 W : World} {a a' a'' : Option Addr} {c c' c'' : Nat} {o o' o'' : Array Value} (hb : Below W0.heap.size W0 W) (hg : W0.heap.size ≤ g) (hg' : W0.heap.size ≤ g') (hg'' : W0.heap.size ≤ g'') (n1 : g ≠ g') (n2 : g ≠ g'') (n3 : g' ≠ g'') (hQ : ∀ b, Q b → b < W0.heap.size)
    (r1 : W.heap[g]? = some (.cells o 28 (0, 0))) (r2 : W.heap[g']? = some (.cells o' 28 (0, 0))) (r3 : W.heap[g'']? = some (.cells o'' 28 (0, 0)))
    (h1 : IsSl W Q (.slice a x.args.length c) x.args) (h2 : IsSl W Q (.slice a' y.args.length c') y.args) (h3 : IsSl W Q (.slice a'' z.args.length c'') z.args) :
    Args3 x y z Q W0 (.pointer (some ⟨g, 0, none⟩)) (.pointer (some ⟨g', 0, none⟩)) (.pointer (some ⟨g'', 0, none⟩)) (((W.setRow g #[.int .i64 x.k, .int .i64 x.n, .string x.s, .slice a x.args.length c]).setRow g' #[.int .i64 y.k, .int .i64 y.n, .string y.s, .slice a' y.args.length c']).setRow g'' #[.int .i64 z.k, .int .i64 z.n, .string z.s, .slice a'' z.args.length c'']) := by
  generalize hC : (#[.int .i64 x.k, .int .i64 x.n, .string x.s, .slice a x.args.length c] : Array Value) = C
  generalize hC' : (#[.int .i64 y.k, .int .i64 y.n, .string y.s, .slice a' y.args.length c'] : Array Value) = C'
  generalize hC'' : (#[.int .i64 z.k, .int .i64 z.n, .string z.s, .slice a'' z.args.length c''] : Array Value) = C''
  have k1 := setRow_heap W g _ C _ _ r1
  have k2 := setRow_heap (W.setRow g C) g' _ C' _ _ ((setRow_other _ _ _ _ (Ne.symm n1)).trans r2)
  have k3 := setRow_heap ((W.setRow g C).setRow g' C') g'' _ C'' _ _ ((setRow_other _ _ _ _ (Ne.symm n3)).trans ((setRow_other _ _ _ _ (Ne.symm n2)).trans r3))
  have hoth : ∀ b, b ≠ g → b ≠ g' → b ≠ g'' → (((W.setRow g C).setRow g' C').setRow g'' C'').heap[b]? = W.heap[b]? := fun b n1 n2 n3 => (setRow_other _ _ _ _ n3).trans ((setRow_other _ _ _ _ n2).trans (setRow_other _ _ _ _ n1))
  refine ⟨g, g', g'', rfl, rfl, rfl, ⟨a, c, ?_, h1.imp (fun _ h => h) fun b hb _ => hoth b (by have := hQ b hb; omega) (by have := hQ b hb; omega) (by have := hQ b hb; omega)⟩, ⟨a', c', ?_, h2.imp (fun _ h => h) fun b hb _ => hoth b (by have := hQ b hb; omega) (by have := hQ b hb; omega) (by have := hQ b hb; omega)⟩, ⟨a'', c'', ?_, h3.imp (fun _ h => h) fun b hb _ => hoth b (by have := hQ b hb; omega) (by have := hQ b hb; omega) (by have := hQ b hb; omega)⟩, hb.os, hb.tape, hb.output, by simpa using hb.size, fun b hlt => (hoth b (by omega) (by omega) (by omega)).trans (hb.block b hlt)⟩
  · rw [hC]; exact (setRow_other _ _ _ _ n2).trans ((setRow_other _ _ _ _ n1).trans k1)
  · rw [hC']; exact (setRow_other _ _ _ _ n3).trans k2
  · rw [hC'']; exact k3
end Go.Proofs.YtkhchmgdaolojaaDoor.Tms
