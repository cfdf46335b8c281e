
/-
  append of all that a slice of terms holds, be it nothing, to a slice that the call keeps.
-/
import Derived.Test.YtibjcfbilkkmkaaGfl
import Derived.Deep.Upon
namespace Go.Proofs.Ytibjcfbilkkmkaa.Tms
open Go Go.RowKit Go.Proofs.Ytibjcfbilkkmkaa.Rws
set_option linter.unusedVariables false

theorem args_each {w : World} {P : Nat → Prop} (b off : Nat) : ∀ (ts : List Tm) (j : Nat), ArgsFrom w P (some ⟨b, off, none⟩) j ts →
    ∃ yss, Each tmKind w P yss ts ∧ ∀ k u, yss.flatten[k]? = some u → w.cell? ⟨b, off + j * 4 + k, none⟩ = some u
  | [], j, _ => ⟨[], trivial, fun k u h => by simp at h⟩
  | .mk k n s ar :: ts, j, h => by
    unfold ArgsFrom at h
    obtain ⟨⟨b', off', e, hb, ht⟩, h2⟩ := h
    simp only [Option.some.injEq, Addr.mk.injEq, and_true] at e
    obtain ⟨rfl, rfl⟩ := e
    unfold TmAt at ht
    obtain ⟨q, c, h0, h1, h3, h4, h5⟩ := ht
    obtain ⟨yss, y1, y2⟩ := args_each b off ts (j + 1) h2
    refine ⟨[.int .i64 k, .int .i64 n, .string s, .slice q ar.length c] :: yss, ⟨⟨q, c, rfl, h5⟩, y1⟩, fun i u hu => ?_⟩
    match i with
    | 0 => simp at hu; subst hu; exact h0
    | 1 => simp at hu; subst hu; exact h1
    | 2 => simp at hu; subst hu; exact h3
    | 3 => simp at hu; subst hu; exact h4
    | i + 4 =>
      have e : off + j * 4 + (i + 4) = off + (j + 1) * 4 + i := by omega
      rw [e]
      exact y2 i u (by simpa using hu)
theorem wpList_putA {Q : Program} {w : World} {ops : Array Oper} {rest : List Oper} {o : Oper} {a : Act} {E : Exit → Act → World → Prop} (hgd : o.guard = none) (s x : Operand) (t : TypeId)
    (ho : o.op = .call { callee := .builtin .append, args := #[s, x], argTypes := #[t, t] }) (ht : Q.underlying t = some (.slice tmKind.T)) {z : Value} {bytes : Nat} (hi : (Q.info? tmKind.T).map (fun i => (i.zero, i.size, i.bytes)) = some (some z, tmKind.sz, bytes)) (hz : z.cells.size = tmKind.sz)
    (base : Nat) (P P2 : Nat → Prop) (v : Value) (l ts : List Tm) (q : Option Addr) (c : Nat) (hs : a.eval s = v) (hown : Own tmKind w base P v l) (hx : a.eval x = .slice q ts.length c)
    (harg : ArgsFrom w P2 q 0 ts) (hP : ∀ b, P2 b → P b ∧ v.ownBlock ≠ some b) (h63 : l.length + ts.length ≤ maxLen) (hlen : (l.length + ts.length) * bytes ≤ 140737488355328) (hbase : base ≤ w.heap.size)
    (h : ∀ v' w', Own tmKind w' base P v' (l ++ ts) → Below base w w' → w.grownBy w' v.ownBlock → (∀ k, v'.ownBlock = some k → v.ownBlock = some k ∨ w.heap.size ≤ k) → wpList Q ops E rest (a.put o.dst v') w') : wpList Q ops E (o :: rest) a w := by
  cases ts with
  | cons t0 ts =>
    have harg' := harg
    unfold ArgsFrom at harg'
    obtain ⟨⟨b, off, rfl, -, -⟩, -⟩ := harg'
    obtain ⟨yss, y1, y2⟩ := args_each b off (t0 :: ts) 0 harg
    exact wpList_putN hgd s x t ho ht hi hz base P v l yss (t0 :: ts) ⟨b, off, none⟩ c hs hown hx (fun j u hu => by rw [Addr.add_lit]; have := y2 j u hu; rwa [Nat.zero_mul, Nat.add_zero] at this) (by simp) (y1.mono hP fun _ _ _ => rfl) h63 hlen hbase h
  | nil =>
    obtain ⟨i0, hi, hz0, hz1, hz2⟩ := info_parts hi
    have hown' := hown
    obtain ⟨xss, ⟨g1, g2⟩, g3⟩ := hown'
    obtain ⟨ba, cap, rfl, hle⟩ : ∃ ba cap, v = .slice ba l.length cap ∧ l.length ≤ cap := by
      rcases g2 with ⟨rfl, hn⟩ | ⟨g, cap, cur, rfl, -, -, hc, -⟩
      · exact ⟨none, 0, by rw [hn], by omega⟩
      · exact ⟨_, cap, rfl, hc⟩
    have hsrc : Src Q i0.size t (.slice q 0 c) 0 [] w := by
      cases q with
      | none => exact Src.ofNil w ht c
      | some ad => exact Src.ofSlice w ht ad 0 c [] (by simp) (by simp) (by simp)
    have hr := run_append_nothing (P := Q) w t t o.type tmKind.T i0 ht hi ba l.length cap hle (.slice q 0 c) hsrc
    refine wpList_plain hgd fun K' hK => ?_
    unfold Oper.wp execOp
    simp only [List.length_nil] at hx
    simp only [ho, resolve, invoke, builtin, Sem.run_bind, Sem.run_pure, Result.andThen_ok, List.map_toArray, List.map_cons, List.map_nil, hs, hx, hr]
    exact hK _ _ (h _ _ (by simpa using hown) (Below.refl _ _) (World.grownBy.refl _ _) fun k e => .inl e)
end Go.Proofs.Ytibjcfbilkkmkaa.Tms
