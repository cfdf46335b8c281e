
/-
  A row that the call keeps: an element's cells are read, one of its cells is stored, it is cut. Plain laws over any program.
-/
import Derived.Test.YtcmgfelbbmeanaaVars
namespace Go.Proofs.Ytcmgfelbbmeanaa.Rws
open Go Go.RowKit
set_option linter.unusedVariables false
set_option linter.unusedSimpArgs false

section
variable {α : Type} {K : Kind α}
theorem Each.get {w : World} {P : Nat → Prop} : ∀ {xss : List (List Value)} {l : List α}, Each K w P xss l → ∀ i (h : i < l.length), ∃ cs, xss[i]? = some cs ∧ K.R w P cs l[i]
  | [], [], _, i, h => by simp at h
  | x :: xss, a :: l, h, 0, _ => ⟨x, rfl, h.1⟩
  | x :: xss, a :: l, h, i + 1, hi => by
    obtain ⟨cs, e, hr⟩ := Each.get h.2 i (by simpa using hi)
    exact ⟨cs, by simpa using e, by simpa using hr⟩
  | [], _ :: _, h, _, _ => h.elim
  | _ :: _, [], h, _, _ => h.elim
theorem Each.flatAt {w : World} {P : Nat → Prop} : ∀ {xss : List (List Value)} {l : List α}, Each K w P xss l → ∀ i cs, xss[i]? = some cs → ∀ j, j < K.sz → xss.flatten[i * K.sz + j]? = cs[j]?
  | [], [], _, i, cs, e, _, _ => by simp at e
  | x :: xss, a :: l, h, 0, cs, e, j, hj => by
    obtain rfl : x = cs := by simpa using e
    have hl := K.len h.1
    simp only [List.flatten_cons, Nat.zero_mul, Nat.zero_add]
    rw [List.getElem?_append_left (by omega)]
  | x :: xss, a :: l, h, i + 1, cs, e, j, hj => by
    have hl := K.len h.1
    have := Each.flatAt h.2 i cs (by simpa using e) j hj
    simp only [List.flatten_cons]
    rw [Nat.add_mul, Nat.one_mul, List.getElem?_append_right (by omega), ← this]
    congr 1
    omega
  | [], _ :: _, h, _, _, _, _, _ => h.elim
  | _ :: _, [], h, _, _, _, _, _ => h.elim
theorem Each.setAt {w : World} {P : Nat → Prop} {a' : α} {u : Value} : ∀ {xss : List (List Value)} {l : List α}, Each K w P xss l → ∀ i cs, xss[i]? = some cs → ∀ j, j < K.sz → K.R w P (cs.set j u) a' →
    ∃ yss, Each K w P yss (l.set i a') ∧ yss.flatten = xss.flatten.set (i * K.sz + j) u
  | [], [], _, i, cs, e, _, _, _ => by simp at e
  | x :: xss, a :: l, h, 0, cs, e, j, hj, hr => by
    obtain rfl : x = cs := by simpa using e
    have hl := K.len h.1
    refine ⟨x.set j u :: xss, ⟨hr, h.2⟩, ?_⟩
    simp only [List.flatten_cons, Nat.zero_mul, Nat.zero_add]
    rw [List.set_append_left _ _ (by omega)]
  | x :: xss, a :: l, h, i + 1, cs, e, j, hj, hr => by
    have hl := K.len h.1
    obtain ⟨yss, h1, h2⟩ := Each.setAt h.2 i cs (by simpa using e) j hj hr
    refine ⟨x :: yss, ⟨h.1, h1⟩, ?_⟩
    simp only [List.flatten_cons, h2]
    rw [Nat.add_mul, Nat.one_mul, List.set_append_right _ _ (by omega)]
    congr 2
    omega
  | [], _ :: _, h, _, _, _, _, _, _ => h.elim
  | _ :: _, [], h, _, _, _, _, _, _ => h.elim
theorem Each.takeN {w : World} {P : Nat → Prop} : ∀ {xss : List (List Value)} {l : List α}, Each K w P xss l → ∀ n, Each K w P (xss.take n) (l.take n) ∧ (xss.take n).flatten = xss.flatten.take (n * K.sz)
  | [], [], _, n => by simp [Each]
  | x :: xss, a :: l, h, 0 => by simp [Each]
  | x :: xss, a :: l, h, n + 1 => by
    have hl := K.len h.1
    obtain ⟨h1, h2⟩ := Each.takeN h.2 n
    refine ⟨⟨h.1, h1⟩, ?_⟩
    simp only [List.take_succ_cons, List.flatten_cons, h2]
    rw [Nat.add_mul, Nat.one_mul, List.take_append, List.take_of_length_le (l := x) (by omega), show n * K.sz + K.sz - x.length = n * K.sz by omega]
  | [], _ :: _, h, _ => h.elim
  | _ :: _, [], h, _ => h.elim

/-- an element's cells -/
theorem Own.elem {w : World} {base g n cap : Nat} {P : Nat → Prop} {l : List α} (h : Own K w base P (.slice (some ⟨g, 0, none⟩) n cap) l) (hn : l.length = n) (i : Nat) (hi : i < l.length) :
    ∃ cs, K.R w (fun b => P b ∧ g ≠ b ∧ b < w.heap.size) cs l[i] ∧ ∀ j, j < K.sz → w.cell? ⟨g, i * K.sz + j, none⟩ = cs[j]? := by
  obtain ⟨xss, h1, h2⟩ := h
  obtain ⟨cs, e, hr⟩ := h2.get i hi
  refine ⟨cs, K.mono (fun b hb => ⟨hb.1, fun e => hb.2.1 (by simp [Value.ownBlock, e]), hb.2.2⟩) (fun _ _ _ => rfl) hr, fun j hj => ?_⟩
  rw [hn] at h1
  have hlt : i * K.sz + j < n * K.sz := by
    have : (i + 1) * K.sz ≤ n * K.sz := Nat.mul_le_mul_right _ (by omega)
    rw [Nat.add_mul, Nat.one_mul] at this
    omega
  rw [h1.cellAt _ hlt]
  exact h2.flatAt i cs e j hj
theorem Own.thaw {w : World} {base g n cap : Nat} {P : Nat → Prop} {l : List α} (h : Own K w base P (.slice (some ⟨g, 0, none⟩) n cap) l) (hn : l.length = n) (j : Nat) : w.frozen? ⟨g, j, none⟩ = false := by
  obtain ⟨xss, h1, h2⟩ := h
  rw [hn] at h1
  exact h1.frozenAt j
theorem Own.caps {w : World} {base g n cap : Nat} {P : Nat → Prop} {l : List α} (h : Own K w base P (.slice (some ⟨g, 0, none⟩) n cap) l) : n ≤ cap ∧ cap ≤ maxLen := by
  obtain ⟨xss, ⟨-, h1⟩, -⟩ := h
  rcases h1 with ⟨e, -⟩ | ⟨g', cap', cur, e, -, -, h2, h3, -⟩
  · cases e
  · simp only [Value.slice.injEq] at e
    obtain ⟨-, rfl, rfl⟩ := e
    exact ⟨h2, h3⟩
/-- one cell of an element is stored -/
theorem Own.stored {w : World} {base g n cap : Nat} {P : Nat → Prop} {l : List α} (h : Own K w base P (.slice (some ⟨g, 0, none⟩) n cap) l) (hn : l.length = n) (i : Nat) (hi : i < l.length) (j : Nat) (hj : j < K.sz) (u : Value) (a' : α)
    (hr : ∀ cs, K.R w (fun b => P b ∧ (Value.slice (some ⟨g, 0, none⟩) n cap).ownBlock ≠ some b ∧ b < w.heap.size) cs l[i] → K.R w (fun b => P b ∧ (Value.slice (some ⟨g, 0, none⟩) n cap).ownBlock ≠ some b ∧ b < w.heap.size) (cs.set j u) a') : Own K (w.setCell ⟨g, i * K.sz + j, none⟩ u) base P (.slice (some ⟨g, 0, none⟩) n cap) (l.set i a') := by
  obtain ⟨xss, h1, h2⟩ := h
  obtain ⟨cs, e, hr0⟩ := h2.get i hi
  obtain ⟨yss, h3, h4⟩ := h2.setAt i cs e j hj (hr _ hr0)
  rw [hn] at h1
  have hs := h1.stored (i * K.sz + j) u
  refine ⟨yss, ?_, h3.mono (fun b hb => ⟨hb.1, hb.2.1, by simpa [World.setCell] using hb.2.2⟩) fun b hb hlt => Below.heap_setCell _ _ _ _ (fun e => hb.2.1 (by simp [Value.ownBlock, e]))⟩
  rw [List.length_set, hn, h4]
  exact hs.1
/-- the first m elements -/
theorem Own.cut {w : World} {base g n cap m : Nat} {P : Nat → Prop} {l : List α} (h : Own K w base P (.slice (some ⟨g, 0, none⟩) n cap) l) (hn : l.length = n) (hm : m ≤ n) : Own K w base P (.slice (some ⟨g, 0, none⟩) m cap) (l.take m) := by
  obtain ⟨xss, ⟨h0, h1⟩, h2⟩ := h
  obtain ⟨h3, h4⟩ := h2.takeN m
  have hlen : (l.take m).length = m := by simp; omega
  refine ⟨xss.take m, ⟨by rw [h4, hlen, List.length_take, h0, hn]; exact Nat.min_eq_left (Nat.mul_le_mul_right _ hm), ?_⟩, h3.mono (fun b hb => ⟨hb.1, fun e => hb.2.1 (by simpa [Value.ownBlock] using e), hb.2.2⟩) fun _ _ _ => rfl⟩
  rcases h1 with ⟨e, -⟩ | ⟨g', cap', cur, e, hb, hg, hc, hm', hs, ht⟩
  · cases e
  · right
    simp only [Value.slice.injEq, Option.some.injEq, Addr.mk.injEq, and_true] at e
    obtain ⟨rfl, e2, rfl⟩ := e
    refine ⟨g, cap, cur, by rw [hlen], hb, hg, by omega, hm', hs, ?_⟩
    rw [hlen, h4, ← ht, List.take_take, Nat.min_eq_left]
    rw [hn]
    exact Nat.mul_le_mul_right _ hm
end
end Go.Proofs.Ytcmgfelbbmeanaa.Rws
