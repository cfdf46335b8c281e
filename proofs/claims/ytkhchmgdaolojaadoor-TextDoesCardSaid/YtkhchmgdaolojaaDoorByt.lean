
/-
  A slice of bytes that the call itself keeps: made, put behind, turned into a string. Plain laws.
-/
import Derived.Test.YtkhchmgdaolojaaDoorReg
import Derived.Test.YtkhchmgdaolojaaDoorBas
import Derived.Test.YtkhchmgdaolojaaDoorProg
import Derived.Laws.AppendOwn
import Derived.Laws.MakeOwn
import Derived.Laws.OwnMore
import Derived.Laws.IdiomStrings
import Derived.Lib.AppendStr
namespace Go.Proofs.YtkhchmgdaolojaaDoor.Byt
open Go Go.RowKit
set_option linter.unusedVariables false
set_option linter.unusedSimpArgs false

def cellB (c : UInt8) : Value := .int .u8 (c.toNat : Int)
/-- the slice value v keeps a row of the call's own, from block 'base' on; its bytes are l -/
def OwnB (w : World) (base : Nat) (v : Value) (l : List UInt8) : Prop := w.ownsRow base 5 1 v l.length (l.map cellB)
theorem OwnB.nil (w : World) (base : Nat) : OwnB w base (.slice none 0 0) [] := World.ownsRow_nil w base _ _
theorem OwnB.low {w : World} {base : Nat} {v : Value} {l : List UInt8} (h : OwnB w base v l) : ∀ k, v.ownBlock = some k → base ≤ k ∧ k < w.heap.size := World.ownsRow.lt h
theorem OwnB.below {w w' : World} {base : Nat} {v : Value} {l : List UInt8} (h : OwnB w base v l) (hb : Below w.heap.size w w') : OwnB w' base v l := by
  refine ⟨h.1, ?_⟩
  rcases h.2 with h | ⟨g, cap, cur, e, h, hg, rest⟩
  · exact .inl h
  · exact .inr ⟨g, cap, cur, e, h, (hb.block g (Array.getElem?_eq_some_iff.1 hg).1).trans hg, rest⟩
theorem OwnB.form {w : World} {base : Nat} {v : Value} {l : List UInt8} (h : OwnB w base v l) : (v = .slice none 0 0 ∧ l = []) ∨ ∃ g cap, v = .slice (some ⟨g, 0, none⟩) l.length cap := by
  rcases h.2 with ⟨h0, hn⟩ | ⟨g, cap, cur, e, -⟩
  · exact .inl ⟨h0, List.eq_nil_of_length_eq_zero hn⟩
  · exact .inr ⟨g, cap, e⟩
theorem OwnB.slot {w : World} {base : Nat} {v : Value} {l : List UInt8} (h : OwnB w base v l) : ∃ a cap, v = .slice a l.length cap := by
  rcases h.form with ⟨rfl, rfl⟩ | ⟨g, cap, rfl⟩
  · exact ⟨_, _, rfl⟩
  · exact ⟨_, _, rfl⟩
theorem OwnB.cell {w : World} {base g cap n : Nat} {l : List UInt8} (h : OwnB w base (.slice (some ⟨g, 0, none⟩) n cap) l) (j : Nat) (hj : j < l.length) : w.cell? ⟨g, j, none⟩ = some (cellB l[j]) := by
  have hn : n = l.length := by
    rcases h.2 with ⟨h0, -⟩ | ⟨g', cap', cur, e, -⟩
    · cases h0
    · simp only [Value.slice.injEq] at e; exact e.2.1
  subst hn
  rw [World.ownsRow.cellAt h j (by omega)]
  simp [hj]
theorem info_b : (Tryd.prog.info? 5).map (fun i => (i.zero, i.size, i.bytes)) = some (some (.int .u8 0), 1, 1) := by kernel_rfl
theorem info_parts {i0 : Option TypeInfo} {z : Option Value} {n m : Nat} (h : i0.map (fun i => (i.zero, i.size, i.bytes)) = some (z, n, m)) : ∃ i, i0 = some i ∧ i.zero = z ∧ i.size = n ∧ i.bytes = m := by
  cases i0 with
  | none => cases h
  | some i => simp only [Option.map_some, Option.some.injEq, Prod.mk.injEq] at h; exact ⟨i, rfl, h⟩
theorem cells_one (l : List UInt8) : ∀ u ∈ l.map cellB, u.oneCell' = true := by
  intro u hu
  obtain ⟨c, -, rfl⟩ := List.mem_map.1 hu
  rfl
/-- append of bytes that lie in memory -/
theorem wpList_appB {w : World} {ops : Array Oper} {rest : List Oper} {o : Oper} {a : Act} {E : Exit → Act → World → Prop} (hgd : o.guard = none) (s x : Operand)
    (ho : o.op = .call { callee := .builtin .append, args := #[s, x], argTypes := #[73, 73] })
    (base : Nat) (v : Value) (l m : List UInt8) (ad : Addr) (c : Nat) (hs : a.eval s = v) (hown : OwnB w base v l) (hx : a.eval x = .slice (some ad) m.length c)
    (hc : ∀ j (hj : j < m.length), w.cell? (ad.add j) = some (cellB m[j])) (hlen : l.length + m.length ≤ 140737488355328) (hbase : base ≤ w.heap.size)
    (h : ∀ v' w', OwnB w' base v' (l ++ m) → Below base w w' → wpList Tryd.prog ops E rest (a.put o.dst v') w') : wpList Tryd.prog ops E (o :: rest) a w := by
  obtain ⟨i0, hi, hz0, hz1, hz2⟩ := info_parts info_b
  refine wpList_plain hgd fun K' hK => ?_
  obtain ⟨v', w', hr, hown', hgr, -⟩ := run_append_own (P := Tryd.prog) w base 73 o.type 5 i0 (.int .u8 0) 1 1 Tryd.underlying73 hi hz0 hz1 hz2 rfl (by decide) v l.length (l.map cellB) hown ad m.length c (m.map cellB) (by simp) (fun j u hu => by
    have hj : j < m.length := by have := (List.getElem?_eq_some_iff.1 hu).1; simpa using this
    rw [hc j hj]
    simpa [hj] using hu) (cells_one m) (by unfold maxLen; omega) (by omega) hbase
  unfold Oper.wp execOp
  simp only [ho, resolve, invoke, builtin, Sem.run_bind, Sem.run_pure, Result.andThen_ok, List.map_toArray, List.map_cons, List.map_nil, hs, hx, hr]
  refine hK _ _ (h v' w' ?_ ((Below.refl base w).grown hgr hbase fun k e => (hown.low k e).1))
  unfold OwnB
  rw [List.map_append, List.length_append]; exact hown'
/-- append of a literal's bytes -/
theorem wpList_appL {w : World} {ops : Array Oper} {rest : List Oper} {o : Oper} {a : Act} {E : Exit → Act → World → Prop} (hgd : o.guard = none) (s x : Operand)
    (ho : o.op = .call { callee := .builtin .append, args := #[s, x], argTypes := #[73, 73] })
    (base : Nat) (v : Value) (l m : List UInt8) (g c : Nat) (T : TypeId) (fr : Nat × Nat) (hs : a.eval s = v) (hown : OwnB w base v l) (hx : a.eval x = .slice (some ⟨g, 0, none⟩) m.length c)
    (hg : w.heap[g]? = some (.cells (m.map cellB).toArray T fr)) (hlen : l.length + m.length ≤ 140737488355328) (hbase : base ≤ w.heap.size)
    (h : ∀ v' w', OwnB w' base v' (l ++ m) → Below base w w' → wpList Tryd.prog ops E rest (a.put o.dst v') w') : wpList Tryd.prog ops E (o :: rest) a w :=
  wpList_appB hgd s x ho base v l m ⟨g, 0, none⟩ c hs hown hx (fun j hj => by
    rw [Addr.add_lit, cell_of_row w g _ _ _ _ hg, Nat.zero_add]; simp [hj]) hlen hbase h
/-- the bytes as a string -/
theorem wpList_strB {w : World} {ops : Array Oper} {rest : List Oper} {o : Oper} {a : Act} {E : Exit → Act → World → Prop} (hgd : o.guard = none) (x : Operand) (ho : o.op = .convert 73 9 x)
    (base : Nat) (v : Value) (l : List UInt8) (hx : a.eval x = v) (hown : OwnB w base v l)
    (h : wpList Tryd.prog ops E rest (a.put o.dst (.string ⟨l.toArray⟩)) w) : wpList Tryd.prog ops E (o :: rest) a w := by
  refine wpList_plain hgd fun K' hK => ?_
  have hrun : (convert 73 9 v).run Tryd.prog w = .ok (.string ⟨l.toArray⟩) w := by
    rcases hown.form with ⟨rfl, rfl⟩ | ⟨g, cap, rfl⟩
    · rw [run_convert_bytes_string (P := Tryd.prog) w 73 9 5 none 0 0 Tryd.underlying73 Tryd.underlying5 Tryd.underlying9]
      kernel_rfl
    · exact run_convert_bytes_back (P := Tryd.prog) w 73 9 5 ⟨g, 0, none⟩ cap l Tryd.underlying73 Tryd.underlying5 Tryd.underlying9 (fun j hj => by rw [Addr.add_lit, Nat.zero_add]; exact hown.cell j hj)
  unfold Oper.wp execOp
  simp only [ho, Sem.run_bind, Sem.run_pure, Result.andThen_ok, hx, hrun]
  exact hK _ _ h
end Go.Proofs.YtkhchmgdaolojaaDoor.Byt
