
/-
  Layer 2: sets of sorts: of, has, all, walked over the program.
-/
import Derived.Test.YtohfgfmekciekaaDoorNaB
import Derived.Test.YtohfgfmekciekaaDoorChn
import Derived.Handy
namespace Go.Proofs.YtohfgfmekciekaaDoor.Nam
open Go Go.RowKit Go.Proofs.YtohfgfmekciekaaDoor.Reg
set_option linter.unusedVariables false
set_option linter.unusedSimpArgs false

theorem draw_b {w u : World} {n : Nat} (h : Below n w u) (k : Nat) : Below n w (u.drewN k) := ⟨h.os, by simpa using h.tape, h.output, by simpa using h.size, fun b hb => by simpa using h.block b hb⟩
theorem box_b (w : World) (o : Obj) : Below w.heap.size w (w.alloc o) := (Below.refl _ _).alloc (Nat.le_refl _) _
def Makes (v : Value) (w : World) (e : Ending) (w' : World) : Prop := e = .returned v ∧ Below w.heap.size w w'
set_option maxRecDepth 100000 in
theorem go_of1 (b : Nat) (w : World) (h : w.heap[b]? = some (.cells #[.int .i64 2] 3 (0, 0))) :
    Calls Tryd.prog 19 #[.slice (some ⟨b, 0, none⟩) 1 1] w (Makes (.agg #[.int .u64 4]) w) := by
  have c0 : w.cell? ⟨b, 0, none⟩ = some (.int .i64 2) := cell_of_row w b 0 _ _ _ h
  have hb : b < w.heap.size := (Array.getElem?_eq_some_iff.1 h).1
  clear h
  go_enter Tryd.func19, Tryd.ntmps19
  go_wp2
  go_rounds 2
  exact bodyPost_ret (v := .agg #[.int .u64 4]) (by simp [results, Tryd.results19, go_sem]; kernel_rfl) rfl ⟨rfl, by go_grown⟩
set_option maxRecDepth 100000 in
theorem go_of3 (b : Nat) (w : World) (h : w.heap[b]? = some (.cells #[.int .i64 2, .int .i64 3, .int .i64 4] 3 (0, 0))) :
    Calls Tryd.prog 19 #[.slice (some ⟨b, 0, none⟩) 3 3] w (Makes (.agg #[.int .u64 28]) w) := by
  have c0 : w.cell? ⟨b, 0, none⟩ = some (.int .i64 2) := cell_of_row w b 0 _ _ _ h
  have c1 : w.cell? ⟨b, 1, none⟩ = some (.int .i64 3) := cell_of_row w b 1 _ _ _ h
  have c2 : w.cell? ⟨b, 2, none⟩ = some (.int .i64 4) := cell_of_row w b 2 _ _ _ h
  have hb : b < w.heap.size := (Array.getElem?_eq_some_iff.1 h).1
  clear h
  go_enter Tryd.func19, Tryd.ntmps19
  go_wp2
  go_rounds 4
  exact bodyPost_ret (v := .agg #[.int .u64 28]) (by simp [results, Tryd.results19, go_sem]; kernel_rfl) rfl ⟨rfl, by go_grown⟩
set_option maxRecDepth 100000 in
theorem go_of5 (b : Nat) (w : World) (h : w.heap[b]? = some (.cells #[.int .i64 5] 3 (0, 0))) :
    Calls Tryd.prog 19 #[.slice (some ⟨b, 0, none⟩) 1 1] w (Makes (.agg #[.int .u64 32]) w) := by
  have c0 : w.cell? ⟨b, 0, none⟩ = some (.int .i64 5) := cell_of_row w b 0 _ _ _ h
  have hb : b < w.heap.size := (Array.getElem?_eq_some_iff.1 h).1
  clear h
  go_enter Tryd.func19, Tryd.ntmps19
  go_wp2
  go_rounds 2
  exact bodyPost_ret (v := .agg #[.int .u64 32]) (by simp [results, Tryd.results19, go_sem]; kernel_rfl) rfl ⟨rfl, by go_grown⟩
def hasB (set : Int) (k : Nat) : Bool := bits .and .u64 (set / 2 ^ k) 1 == 1
set_option maxRecDepth 100000 in
theorem sort_hi (c : UInt8) : sort c ≤ 8 := by
  have h : ∀ n, n < 256 → sortN n ≤ 8 := by decide
  exact h _ c.toNat_lt
theorem sort_sym (c : UInt8) (w : World) : Calls Tryd.prog 10 #[.int .u8 c.toNat] w (fun e w' => e = .returned (.int .i64 (sort c)) ∧ w' = w) := (go_Sort c w).mono fun _ _ ⟨h, e⟩ => ⟨h, e.symm⟩
set_option maxRecDepth 100000 in
theorem go_has (set : Int) (hs0 : 0 ≤ set) (hs1 : set ≤ 1000) (c : UInt8) (w : World) : Calls Tryd.prog 20 #[.agg #[.int .u64 set], .int .u8 c.toNat] w (Makes (.bool (hasB set (sort c))) w) := by
  have hb := sort_hi c
  have HS := Lib.hid (show ∀ w, Calls Tryd.prog 10 #[.int .u8 c.toNat] w (fun e w' => e = .returned (.int .i64 (sort c)) ∧ w' = w) from sort_sym c)
  generalize c.toNat = n at *
  generalize sort c = k at *
  go_enter Tryd.func20, Tryd.ntmps20
  go_wp2
  go_quiet ((go_at_call 10; exact Calls.quiet_of_same (HS.out _)))
  go_wp2
  go_ret
  exact ⟨ret_bool (by unfold hasB; rfl), draw_b (box_b _ _) _⟩
end Go.Proofs.YtohfgfmekciekaaDoor.Nam
