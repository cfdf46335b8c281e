
/-
  A stack of pairs of terms that the call itself keeps: what it owns, and what it reads as. The order of terms, plain.
-/
import Derived.Test.YtmlceamcpelklaaTs
import Derived.Test.YtmlceamcpelklaaTmC
import Derived.Test.YtmlceamcpelklaaGnb
namespace Go.Proofs.Ytmlceamcpelklaa.Tms
open Go Go.RowKit
set_option linter.unusedVariables false

mutual
/-- the order of terms: the parts from the left, each ahead of its Args -/
def cmpT : Tm → Tm → Int
  | .mk k n s a, .mk k' n' s' a' => if cmpHead (.mk k n s a) (.mk k' n' s' a') ≠ 0 then cmpHead (.mk k n s a) (.mk k' n' s' a') else cmpL a a'
def cmpL : List Tm → List Tm → Int
  | t :: ts, u :: us => if cmpT t u ≠ 0 then cmpT t u else cmpL ts us
  | _, _ => 0
end
/-- of pairs, the first that differ -/
def cmpP : List (Tm × Tm) → Int
  | [] => 0
  | p :: l => if cmpT p.1 p.2 ≠ 0 then cmpT p.1 p.2 else cmpP l
theorem cmpP_app : ∀ (l m : List (Tm × Tm)), cmpP (l ++ m) = if cmpP l ≠ 0 then cmpP l else cmpP m
  | [], m => by simp [cmpP]
  | p :: l, m => by
    simp only [List.cons_append, cmpP, cmpP_app l m]
    by_cases h : cmpT p.1 p.2 = 0 <;> simp [h]
theorem cmpL_zip : ∀ (a b : List Tm), a.length = b.length → cmpL a b = cmpP (a.zip b)
  | [], [], _ => by simp [cmpL, cmpP]
  | t :: ts, u :: us, h => by simp only [cmpL, List.zip_cons_cons, cmpP, cmpL_zip ts us (by simpa using h)]
theorem cmpHead_len {t u : Tm} (h : cmpHead t u = 0) : t.args.length = u.args.length := by
  have key : ∀ a b : Int, cmpI a b = 0 → a = b := fun a b h => by
    unfold cmpI at h
    by_cases h1 : a < b
    · rw [if_pos h1] at h; omega
    · by_cases h2 : b < a
      · rw [if_neg h1, if_pos h2] at h; omega
      · omega
  unfold cmpHead at h
  by_cases q1 : cmpI t.k u.k = 0
  · by_cases q2 : cmpI t.args.length u.args.length = 0
    · have := key _ _ q2; omega
    · rw [if_neg (by simpa using q1), if_pos q2] at h; exact absurd h q2
  · rw [if_pos q1] at h; exact absurd h q1

def flatP : List (Tm × Tm) → List Tm
  | [] => []
  | p :: l => p.1 :: p.2 :: flatP l
theorem flatP_app : ∀ l m, flatP (l ++ m) = flatP l ++ flatP m
  | [], m => rfl
  | p :: l, m => by simp [flatP, flatP_app l m]
theorem flatP_len : ∀ l, (flatP l).length = 2 * l.length
  | [] => rfl
  | p :: l => by simp [flatP, flatP_len l]; omega

theorem CellsOf.len {w : World} {P : Nat → Prop} : ∀ {xs : List Value} {ts : List Tm}, CellsOf w P xs ts → xs.length = 4 * ts.length
  | [], [], _ => rfl
  | _ :: _ :: _ :: _ :: _, _ :: _, ⟨_, _, _, _, h⟩ => by have := CellsOf.len h; simp; omega
  | [], _ :: _, h => h.elim
  | _ :: [], [], h => h.elim
  | _ :: [], _ :: _, h => h.elim
  | _ :: _ :: [], [], h => h.elim
  | _ :: _ :: [], _ :: _, h => h.elim
  | _ :: _ :: _ :: [], [], h => h.elim
  | _ :: _ :: _ :: [], _ :: _, h => h.elim
  | _ :: _ :: _ :: _ :: _, [], h => h.elim
theorem CellsOf.split {w : World} {P : Nat → Prop} : ∀ {us : List Tm} {xs : List Value} {ts : List Tm}, CellsOf w P xs (us ++ ts) → ∃ ys zs, xs = ys ++ zs ∧ CellsOf w P ys us ∧ CellsOf w P zs ts
  | [], xs, ts, h => ⟨[], xs, rfl, trivial, h⟩
  | u :: us, k :: n :: s :: l :: rest, ts, ⟨h1, h2, h3, h4, h5⟩ => by
    obtain ⟨ys, zs, e, h6, h7⟩ := CellsOf.split h5
    exact ⟨k :: n :: s :: l :: ys, zs, by simp [e], ⟨h1, h2, h3, h4, h6⟩, h7⟩
  | _ :: _, [], _, h => h.elim
  | _ :: _, _ :: [], _, h => h.elim
  | _ :: _, _ :: _ :: [], _, h => h.elim
  | _ :: _, _ :: _ :: _ :: [], _, h => h.elim
theorem CellsOf.join {w : World} {P : Nat → Prop} : ∀ {ys zs : List Value} {us ts : List Tm}, CellsOf w P ys us → CellsOf w P zs ts → CellsOf w P (ys ++ zs) (us ++ ts)
  | [], zs, [], ts, _, h => h
  | k :: n :: s :: l :: rest, zs, u :: us, ts, ⟨h1, h2, h3, h4, h5⟩, h => ⟨h1, h2, h3, h4, CellsOf.join h5 h⟩
  | [], _, _ :: _, _, h, _ => h.elim
  | _ :: [], _, [], _, h, _ => h.elim
  | _ :: [], _, _ :: _, _, h, _ => h.elim
  | _ :: _ :: [], _, [], _, h, _ => h.elim
  | _ :: _ :: [], _, _ :: _, _, h, _ => h.elim
  | _ :: _ :: _ :: [], _, [], _, h, _ => h.elim
  | _ :: _ :: _ :: [], _, _ :: _, _, h, _ => h.elim
  | _ :: _ :: _ :: _ :: _, _, [], _, h, _ => h.elim

/-- the slice value v owns a row of pairs of the call's own; it reads as l, through blocks of P that are not that row -/
def OwnP (w : World) (base : Nat) (P : Nat → Prop) (v : Value) (l : List (Tm × Tm)) : Prop :=
  ∃ xs, w.ownsRow base 147 8 v l.length xs ∧ CellsOf w (fun b => P b ∧ v.ownBlock ≠ some b ∧ b < w.heap.size) xs (flatP l)
theorem OwnP.low {w : World} {base : Nat} {P : Nat → Prop} {v : Value} {l : List (Tm × Tm)} (h : OwnP w base P v l) : ∀ k, v.ownBlock = some k → base ≤ k ∧ k < w.heap.size := h.choose_spec.1.lt
theorem OwnP.below {w w' : World} {base : Nat} {P : Nat → Prop} {v : Value} {l : List (Tm × Tm)} (h : OwnP w base P v l) (hb : Below w.heap.size w w') : OwnP w' base P v l := by
  obtain ⟨xs, h1, h2⟩ := h
  refine ⟨xs, ⟨h1.1, ?_⟩, h2.imp2 (fun b h => ⟨h.1, h.2.1, Nat.lt_of_lt_of_le h.2.2 hb.size⟩) fun b _ hlt => hb.block b hlt⟩
  rcases h1.2 with h | ⟨g, cap, cur, e, h, hg, rest⟩
  · exact .inl h
  · exact .inr ⟨g, cap, cur, e, h, (hb.block g (Array.getElem?_eq_some_iff.1 hg).1).trans hg, rest⟩
/-- the last pair is taken off: its eight cells, and what they read as -/
theorem OwnP.pop {w : World} {base g cap n : Nat} {P : Nat → Prop} {l : List (Tm × Tm)} {p : Tm × Tm} (h : OwnP w base P (.slice (some ⟨g, 0, none⟩) (n + 1) cap) (l ++ [p])) (hn : l.length = n) :
    OwnP w base P (.slice (some ⟨g, 0, none⟩) n cap) l ∧ n + 1 ≤ cap ∧ cap ≤ maxLen ∧ ∃ a c a' c', w.cell? ⟨g, n * 8, none⟩ = some (.int .i64 p.1.k) ∧ w.cell? ⟨g, n * 8 + 1, none⟩ = some (.int .i64 p.1.n) ∧ w.cell? ⟨g, n * 8 + 2, none⟩ = some (.string p.1.s) ∧ w.cell? ⟨g, n * 8 + 3, none⟩ = some (.slice a p.1.args.length c) ∧
      w.cell? ⟨g, n * 8 + 4, none⟩ = some (.int .i64 p.2.k) ∧ w.cell? ⟨g, n * 8 + 5, none⟩ = some (.int .i64 p.2.n) ∧ w.cell? ⟨g, n * 8 + 6, none⟩ = some (.string p.2.s) ∧ w.cell? ⟨g, n * 8 + 7, none⟩ = some (.slice a' p.2.args.length c') ∧
      IsTm w (fun b => P b ∧ g ≠ b ∧ b < w.heap.size) (.agg #[.int .i64 p.1.k, .int .i64 p.1.n, .string p.1.s, .slice a p.1.args.length c]) p.1 ∧ IsTm w (fun b => P b ∧ g ≠ b ∧ b < w.heap.size) (.agg #[.int .i64 p.2.k, .int .i64 p.2.n, .string p.2.s, .slice a' p.2.args.length c']) p.2 := by
  obtain ⟨xs, h1, h2⟩ := h
  rw [flatP_app] at h2
  obtain ⟨ys, zs, rfl, h3, h4⟩ := h2.split
  have hys : ys.length = n * 8 := by have := h3.len; rw [flatP_len] at this; omega
  have hcell := fun j (hj : j < (n + 1) * 8) => (show w.ownsRow base 147 8 (.slice (some ⟨g, 0, none⟩) (n + 1) cap) (n + 1) (ys ++ zs) by simpa [hn] using h1).cellAt j hj
  have hz : zs.length = 8 := h4.len
  match zs, hz, h4 with
  | [z0, z1, z2, z3, z4, z5, z6, z7], _, ⟨e0, e1, e2, ⟨a, c, e3, ha⟩, f0, f1, f2, ⟨a', c', f3, ha'⟩, _⟩ =>
    have at_ := fun j (hj : j < 8) => (hcell (n * 8 + j) (by omega)).trans (List.getElem?_append_right (by omega) : (ys ++ [z0, z1, z2, z3, z4, z5, z6, z7])[n * 8 + j]? = _)
    simp only [hys, Nat.add_sub_cancel_left] at at_
    have hne : ∀ b, (Value.slice (some ⟨g, 0, none⟩) (n + 1) cap).ownBlock ≠ some b → g ≠ b := fun b h e => h (by simp [Value.ownBlock, e])
    obtain ⟨-, h5 | ⟨g', cap', cur, e, hb, hg, hc, hm, hs, ht⟩⟩ := h1
    · cases h5.1
    · simp only [Value.slice.injEq, Option.some.injEq, Addr.mk.injEq, and_true] at e
      obtain ⟨rfl, el, rfl⟩ := e
      rw [← el] at hc ht
      refine ⟨⟨ys, ⟨by rw [hn]; exact hys, .inr ⟨_, _, cur, by rw [hn], hb, hg, by omega, hm, hs, ?_⟩⟩, h3.imp2 (fun b h => ⟨h.1, fun e => h.2.1 (by simpa [Value.ownBlock] using e), h.2.2⟩) fun _ _ _ => rfl⟩, hc, hm, a, c, a', c', ?_⟩
      · have := congrArg (List.take (n * 8)) ht
        rw [List.take_take, List.take_append_of_le_length (by omega), List.take_of_length_le (l := ys) (by omega)] at this
        rw [← this, hn]
        congr 1
        omega
      · refine ⟨by simpa [e0] using at_ 0 (by decide), by simpa [e1] using at_ 1 (by decide), by simpa [e2] using at_ 2 (by decide), by simpa [e3] using at_ 3 (by decide), by simpa [f0] using at_ 4 (by decide), by simpa [f1] using at_ 5 (by decide), by simpa [f2] using at_ 6 (by decide), by simpa [f3] using at_ 7 (by decide), ?_, ?_⟩
        · exact ⟨a, c, rfl, ArgsFrom.imp (fun b h => ⟨h.1, hne b h.2.1, h.2.2⟩) (fun _ _ _ => rfl) _ _ _ ha⟩
        · exact ⟨a', c', rfl, ArgsFrom.imp (fun b h => ⟨h.1, hne b h.2.1, h.2.2⟩) (fun _ _ _ => rfl) _ _ _ ha'⟩
theorem OwnP.rows {w : World} {base : Nat} {P : Nat → Prop} {v : Value} {l : List (Tm × Tm)} {xs : List Value} (h : OwnP w base P v l) (hx : w.ownsRow base 147 8 v l.length xs) : CellsOf w (fun b => P b ∧ v.ownBlock ≠ some b ∧ b < w.heap.size) xs (flatP l) := by
  obtain ⟨xs', h1, h2⟩ := h
  have ex : xs' = xs := by
    rcases h1.2 with ⟨rfl, hn⟩ | ⟨g, cap, cur, e, -, hg, -, -, -, ht⟩
    · have a := h1.1; have b := hx.1; rw [hn] at a b; simp at a b; rw [a, b]
    · rcases hx.2 with ⟨e', hn⟩ | ⟨g', cap', cur', e', -, hg', -, -, -, ht'⟩
      · rw [e] at e'; cases e'
      · rw [e] at e'
        simp only [Value.slice.injEq, Option.some.injEq, Addr.mk.injEq, and_true] at e'
        obtain ⟨rfl, -, -⟩ := e'
        rw [hg] at hg'
        simp only [Option.some.injEq, Obj.cells.injEq, and_true] at hg'
        rw [← ht, ← ht', hg']
  subst ex
  exact h2

theorem info_both : (Try.prog.info? 147).map (fun i => (i.zero, i.size, i.bytes)) = some (some (.agg #[.int .i64 0, .int .i64 0, .string ⟨#[]⟩, .slice none 0 0, .int .i64 0, .int .i64 0, .string ⟨#[]⟩, .slice none 0 0]), 8, 112) := by kernel_rfl

/-- append of a pair whose eight cells lie in a block of their own -/
theorem wpList_push_pair {w : World} {ops : Array Oper} {rest : List Oper} {o : Oper} {a : Act} {Q : Exit → Act → World → Prop} (hgd : o.guard = none) (s x : Operand)
    (ho : o.op = .call { callee := .builtin .append, args := #[s, x], argTypes := #[148, 148] }) (base : Nat) (P : Nat → Prop) (v : Value) (l : List (Tm × Tm)) (c0 c1 c2 c3 d0 d1 d2 d3 : Value) (t u : Tm) (g c : Nat) (T : TypeId) (fr : Nat × Nat) (hs : a.eval s = v) (hown : OwnP w base P v l)
    (hx : a.eval x = .slice (some ⟨g, 0, none⟩) 1 c) (hg : w.heap[g]? = some (.cells #[c0, c1, c2, c3, d0, d1, d2, d3] T fr)) (ht : IsTm w (fun b => P b ∧ v.ownBlock ≠ some b) (.agg #[c0, c1, c2, c3]) t) (hu : IsTm w (fun b => P b ∧ v.ownBlock ≠ some b) (.agg #[d0, d1, d2, d3]) u)
    (hlen : l.length ≤ 1000000000) (hbase : base ≤ w.heap.size)
    (h : ∀ v' w', OwnP w' base P v' (l ++ [(t, u)]) → Below base w w' → w.grownBy w' v.ownBlock → (∀ k, v'.ownBlock = some k → v.ownBlock = some k ∨ w.heap.size ≤ k) → wpList Try.prog ops Q rest (a.put o.dst v') w') : wpList Try.prog ops Q (o :: rest) a w := by
  obtain ⟨i0, hi, hz0, hz1, hz2⟩ := info_parts info_both
  obtain ⟨xs, h1, h2⟩ := id hown
  have hone : ∀ y ∈ [c0, c1, c2, c3, d0, d1, d2, d3], y.oneCell' = true := by
    obtain ⟨q, r, e⟩ := ht.form
    obtain ⟨q', r', e'⟩ := hu.form
    simp only [Value.agg.injEq, Array.mk.injEq, List.cons.injEq, and_true] at e e'
    obtain ⟨rfl, rfl, rfl, rfl⟩ := e
    obtain ⟨rfl, rfl, rfl, rfl⟩ := e'
    simp [Value.oneCell']
  refine Push.wpList_push hgd s x 148 ho base 147 i0 _ 8 112 Try.underlying148 hi hz0 hz1 hz2 rfl (by decide) v l.length xs hs h1 ⟨g, 0, none⟩ c [c0, c1, c2, c3, d0, d1, d2, d3] hx rfl (fun j y hy => by rw [Addr.add_lit, cell_of_row w g _ _ _ _ hg, Nat.zero_add]; simpa using hy) hone (by unfold maxLen; omega) (by omega) hbase ?_
  intro v' w' hown' hgr hv
  have hsz : w.heap.size ≤ w'.heap.size := hgr.size
  have hblk : ∀ b, b < w.heap.size → v.ownBlock ≠ some b → w'.heap[b]? = w.heap[b]? := fun b hb hne => hgr.block b hb fun e => hne e.symm
  have hne : ∀ b, b < w.heap.size → v.ownBlock ≠ some b → v'.ownBlock ≠ some b := fun b hb h e => by
    rcases hv b e with h' | h'
    · exact h h'
    · omega
  have ht' : IsTm w (fun b => P b ∧ v.ownBlock ≠ some b ∧ b < w.heap.size) (.agg #[c0, c1, c2, c3]) t := ht.lt.imp (fun b h => ⟨h.1.1, h.1.2, h.2⟩) fun _ _ _ => rfl
  have hu' : IsTm w (fun b => P b ∧ v.ownBlock ≠ some b ∧ b < w.heap.size) (.agg #[d0, d1, d2, d3]) u := hu.lt.imp (fun b h => ⟨h.1.1, h.1.2, h.2⟩) fun _ _ _ => rfl
  refine h v' w' ⟨xs ++ [c0, c1, c2, c3, d0, d1, d2, d3], by simpa using hown', ?_⟩ ?_ hgr hv
  · rw [flatP_app]
    have hc : CellsOf w (fun b => P b ∧ v.ownBlock ≠ some b ∧ b < w.heap.size) [c0, c1, c2, c3, d0, d1, d2, d3] (flatP [(t, u)]) := CellsOf.cons ht' (CellsOf.cons hu' trivial)
    exact ((hown.rows h1).join hc).imp2 (fun b h => ⟨h.1, hne b h.2.2 h.2.1, by omega⟩) fun b h _ => hblk b h.2.2 h.2.1
  · exact (Below.refl base w).grown hgr hbase fun k e => (h1.lt k e).1
end Go.Proofs.Ytmlceamcpelklaa.Tms
