
/-
  append of all that a slice of numbers holds.
-/
import Derived.Test.YtoklbeogmcdgaaaSlb
import Derived.Test.YtoklbeogmcdgaaaRvr
import Derived.Deep.Upon
namespace Go.Proofs.Ytoklbeogmcdgaaa.Tms
open Go Go.RowKit Go.Proofs.Ytoklbeogmcdgaaa.Reg Go.Proofs.Ytoklbeogmcdgaaa.Rws Go.Proofs.Ytoklbeogmcdgaaa.Maps
set_option linter.unusedVariables false
set_option linter.unusedSimpArgs false

theorem ints_pickA {w : World} {P : Nat → Prop} {q : Option Addr} {n c : Nat} {L : List Int} (h : IntSl w P (.slice q n c) L) (i : Nat) (hi : i < L.length) : ∃ b off, q = some ⟨b, off, none⟩ ∧ w.cell? ⟨b, off + i, none⟩ = some (.int .i64 L[i]) := by
  obtain ⟨a', c', e, -, -, h3⟩ := h
  obtain ⟨b, off, e1, -, -, hc⟩ := h3 i hi
  simp only [Value.slice.injEq] at e
  exact ⟨b, off, by rw [e.1]; exact e1, hc⟩
theorem ints_roomA {w : World} {P : Nat → Prop} {q : Option Addr} {n c : Nat} {L : List Int} (h : IntSl w P (.slice q n c) L) : n ≤ c ∧ c ≤ maxLen := by
  obtain ⟨a', c', e, h1, h2, -⟩ := h
  simp only [Value.slice.injEq] at e
  obtain ⟨-, rfl, rfl⟩ := e
  exact ⟨h1, h2⟩
theorem ints_flat : ∀ (L : List Int), (L.map fun x => [Value.int .i64 x]).flatten = L.map (Value.int .i64)
  | [] => rfl
  | a :: L => by simp [ints_flat L]
/-- the same for ints -/
theorem wpList_putJ {Q : Program} {w : World} {ops : Array Oper} {rest : List Oper} {o : Oper} {a : Act} {E : Exit → Act → World → Prop} (hgd : o.guard = none) (s x : Operand) (t : TypeId)
    (ho : o.op = .call { callee := .builtin .append, args := #[s, x], argTypes := #[t, t] }) (ht : Q.underlying t = some (.slice iKind.T)) {z : Value} {bytes : Nat} (hi : (Q.info? iKind.T).map (fun i => (i.zero, i.size, i.bytes)) = some (some z, iKind.sz, bytes)) (hz : z.cells.size = iKind.sz)
    (base : Nat) (P : Nat → Prop) (v : Value) (l L : List Int) (q : Option Addr) (c : Nat) (hs : a.eval s = v) (hown : Own iKind w base (fun _ => False) v l) (hx : a.eval x = .slice q L.length c)
    (hL : IntSl w P (.slice q L.length c) L) (h63 : l.length + L.length ≤ maxLen) (hlen : (l.length + L.length) * bytes ≤ 140737488355328) (hbase : base ≤ w.heap.size)
    (h : ∀ v' w', Own iKind w' base (fun _ => False) v' (l ++ L) → Below base w w' → w.grownBy w' v.ownBlock → (∀ k, v'.ownBlock = some k → v.ownBlock = some k ∨ w.heap.size ≤ k) → wpList Q ops E rest (a.put o.dst v') w') : wpList Q ops E (o :: rest) a w := by
  cases L with
  | cons x0 L =>
    obtain ⟨b, off, rfl, -⟩ := ints_pickA hL 0 (by simp)
    refine wpList_putN hgd s x t ho ht hi hz base (fun _ => False) v l ((x0 :: L).map fun x => [Value.int .i64 x]) (x0 :: L) ⟨b, off, none⟩ c hs hown hx (fun j u hu => ?_) (by simp) (each_of_is w _ _) h63 hlen hbase h
    rw [ints_flat] at hu
    obtain ⟨hj, e⟩ := List.getElem?_eq_some_iff.1 hu
    rw [List.length_map] at hj
    rw [List.getElem_map] at e
    obtain ⟨b', off', e1, hc⟩ := ints_pickA hL j hj
    simp only [Option.some.injEq, Addr.mk.injEq, and_true] at e1
    obtain ⟨rfl, rfl⟩ := e1
    rw [Addr.add_lit, hc, e]
  | nil =>
    obtain ⟨i0, hi, hz0, hz1, hz2⟩ := info_parts hi
    have hown' := hown
    obtain ⟨xss, ⟨g1, g2⟩, g3⟩ := hown'
    obtain ⟨ba, cap, rfl, hle⟩ : ∃ ba cap, v = .slice ba l.length cap ∧ l.length ≤ cap := by
      rcases g2 with ⟨rfl, hn⟩ | ⟨g, cap, cur, rfl, -, -, hc, -⟩
      · exact ⟨none, 0, by rw [hn], by omega⟩
      · exact ⟨_, cap, rfl, hc⟩
    have hsrc : Src Q i0.size t (.slice q 0 c) 0 [] w := by
      cases q with
      | none => exact Src.ofNil w ht c
      | some ad => exact Src.ofSlice w ht ad 0 c [] (by simp) (by simp) (by simp)
    have hr := run_append_nothing (P := Q) w t t o.type iKind.T i0 ht hi ba l.length cap hle (.slice q 0 c) hsrc
    refine wpList_plain hgd fun K' hK => ?_
    unfold Oper.wp execOp
    simp only [List.length_nil] at hx
    simp only [ho, resolve, invoke, builtin, Sem.run_bind, Sem.run_pure, Result.andThen_ok, List.map_toArray, List.map_cons, List.map_nil, hs, hx, hr]
    exact hK _ _ (h _ _ (by simpa using hown) (Below.refl _ _) (World.grownBy.refl _ _) fun k e => .inl e)
end Go.Proofs.Ytoklbeogmcdgaaa.Tms
