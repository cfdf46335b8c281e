
/-
  term.compare of the program (two parts, but for their Args), walked; cmp.Compare of numbers.
  A stack of pairs of terms that the call itself keeps: what it owns, and what it reads as. The order of terms, plain.
  term.Compare of the program walked: the order of terms.
-/
import Derived.Test.YtkhchmgdaolojaaShl
import Derived.Test.YtkhchmgdaolojaaSame
import Derived.Lib.Bytealg
import Derived.Test.YtkhchmgdaolojaaTs
import Derived.Test.YtkhchmgdaolojaaGnb
import Derived.Deep.LoopGhost
namespace Go.Proofs.Ytkhchmgdaolojaa.Tms
open Go Go.RowKit

def cmpI (a b : Int) : Int := if a < b then -1 else if b < a then 1 else 0

theorem nan_int (x : Int) (w : World) : Calls Try.prog 113 #[.int .i64 x] w fun e w' => e = .returned (.bool false) ∧ w = w' := by
  have hx : (x != x) = false := by simp
  go_enter Try.func113, Try.ntmps113
  go_wp2
  go_ret
  exact ⟨rfl, rfl⟩
theorem nan_int64 (x : Int) (w : World) : Calls Try.prog 114 #[.int .i64 x] w fun e w' => e = .returned (.bool false) ∧ w = w' := by
  have hx : (x != x) = false := by simp
  go_enter Try.func114, Try.ntmps114
  go_wp2
  go_ret
  exact ⟨rfl, rfl⟩
theorem cmp_int (a b : Int) (w : World) : Calls Try.prog 100 #[.int .i64 a, .int .i64 b] w fun e w' => e = .returned (.int .i64 (cmpI a b)) ∧ w = w' := by
  have go : ∀ c, cmpI a b = c → Calls Try.prog 100 #[.int .i64 a, .int .i64 b] w fun e w' => e = .returned (.int .i64 c) ∧ w = w' := by
    intro c hc
    by_cases h1 : a < b
    · have : c = -1 := by rw [← hc]; simp [cmpI, h1]
      subst this
      clear hc
      go_enter Try.func100, Try.ntmps100
      go_wp2_with (go_at_call 113; refine (nan_int _ _).mono ?_; rintro e w' ⟨rfl, rfl⟩)
      go_ret
      exact ⟨rfl, rfl⟩
    by_cases h2 : b < a
    · have : c = 1 := by rw [← hc]; simp [cmpI, h1, h2]
      subst this
      clear hc
      go_enter Try.func100, Try.ntmps100
      go_wp2_with (go_at_call 113; refine (nan_int _ _).mono ?_; rintro e w' ⟨rfl, rfl⟩)
      go_ret
      exact ⟨rfl, rfl⟩
    · have : c = 0 := by rw [← hc]; simp [cmpI, h1, h2]
      subst this
      clear hc
      go_enter Try.func100, Try.ntmps100
      go_wp2_with (go_at_call 113; refine (nan_int _ _).mono ?_; rintro e w' ⟨rfl, rfl⟩)
      go_ret
      exact ⟨rfl, rfl⟩
  exact go _ rfl
theorem cmp_int64 (a b : Int) (w : World) : Calls Try.prog 101 #[.int .i64 a, .int .i64 b] w fun e w' => e = .returned (.int .i64 (cmpI a b)) ∧ w = w' := by
  have go : ∀ c, cmpI a b = c → Calls Try.prog 101 #[.int .i64 a, .int .i64 b] w fun e w' => e = .returned (.int .i64 c) ∧ w = w' := by
    intro c hc
    by_cases h1 : a < b
    · have : c = -1 := by rw [← hc]; simp [cmpI, h1]
      subst this
      clear hc
      go_enter Try.func101, Try.ntmps101
      go_wp2_with (go_at_call 114; refine (nan_int64 _ _).mono ?_; rintro e w' ⟨rfl, rfl⟩)
      go_ret
      exact ⟨rfl, rfl⟩
    by_cases h2 : b < a
    · have : c = 1 := by rw [← hc]; simp [cmpI, h1, h2]
      subst this
      clear hc
      go_enter Try.func101, Try.ntmps101
      go_wp2_with (go_at_call 114; refine (nan_int64 _ _).mono ?_; rintro e w' ⟨rfl, rfl⟩)
      go_ret
      exact ⟨rfl, rfl⟩
    · have : c = 0 := by rw [← hc]; simp [cmpI, h1, h2]
      subst this
      clear hc
      go_enter Try.func101, Try.ntmps101
      go_wp2_with (go_at_call 114; refine (nan_int64 _ _).mono ?_; rintro e w' ⟨rfl, rfl⟩)
      go_ret
      exact ⟨rfl, rfl⟩
  exact go _ rfl
/-- two parts, but for their Args -/
def cmpHead (a b : Tm) : Int :=
  if cmpI a.k b.k ≠ 0 then cmpI a.k b.k else if cmpI a.args.length b.args.length ≠ 0 then cmpI a.args.length b.args.length else if cmpI a.n b.n ≠ 0 then cmpI a.n b.n else Lib.compareBytes a.s.data.toList b.s.data.toList

set_option maxHeartbeats 1600000 in
theorem tm_compare (t u : Tm) (v v' : Value) (P P' : Nat → Prop) (w : World) (h : IsTm w P v t) (h' : IsTm w P' v' u) :
    Calls Try.prog 82 #[v, v'] w fun e w' => e = .returned (.int .i64 (cmpHead t u)) ∧ Below w.heap.size w w' := by
  obtain ⟨a, c, rfl⟩ := h.form
  obtain ⟨a', c', rfl⟩ := h'.form
  clear h h'
  obtain ⟨-, -, -, tbl⟩ := two w (.cells #[.int .i64 t.k, .int .i64 t.n, .string t.s, .slice a t.args.length c] 49) (.cells #[.int .i64 u.k, .int .i64 u.n, .string u.s, .slice a' u.args.length c'] 49)
  have TB := Lib.hid tbl
  clear tbl
  have go : ∀ r, cmpHead t u = r → Calls Try.prog 82 #[.agg #[.int .i64 t.k, .int .i64 t.n, .string t.s, .slice a t.args.length c], .agg #[.int .i64 u.k, .int .i64 u.n, .string u.s, .slice a' u.args.length c']] w fun e w' => e = .returned (.int .i64 r) ∧ Below w.heap.size w w' := by
    intro r hr
    unfold cmpHead at hr
    by_cases q1 : cmpI t.k u.k ≠ 0
    · rw [if_pos q1] at hr
      subst hr
      have q : (cmpI t.k u.k == 0) = false := by simpa using q1
      clear q1
      go_enter Try.func82, Try.ntmps82
      go_wp2_with (first
        | (go_at_call 100; refine (cmp_int _ _ _).mono ?_; rintro e w' ⟨rfl, rfl⟩)
        | (go_at_call 101; refine (cmp_int64 _ _ _).mono ?_; rintro e w' ⟨rfl, rfl⟩)
        | (go_at_call 102; refine (Try.strings_Compare _ _ _).mono ?_; rintro e w' ⟨rfl, rfl⟩))
      go_ret
      exact ⟨rfl, TB.out⟩
    rw [if_neg q1] at hr
    have q1' : (cmpI t.k u.k == 0) = true := by simpa using q1
    clear q1
    by_cases q2 : cmpI t.args.length u.args.length ≠ 0
    · rw [if_pos q2] at hr
      subst hr
      have q : (cmpI t.args.length u.args.length == 0) = false := by simpa using q2
      clear q2
      go_enter Try.func82, Try.ntmps82
      go_wp2_with (first
        | (go_at_call 100; refine (cmp_int _ _ _).mono ?_; rintro e w' ⟨rfl, rfl⟩)
        | (go_at_call 101; refine (cmp_int64 _ _ _).mono ?_; rintro e w' ⟨rfl, rfl⟩)
        | (go_at_call 102; refine (Try.strings_Compare _ _ _).mono ?_; rintro e w' ⟨rfl, rfl⟩))
      go_ret
      exact ⟨rfl, TB.out⟩
    rw [if_neg q2] at hr
    have q2' : (cmpI t.args.length u.args.length == 0) = true := by simpa using q2
    clear q2
    by_cases q3 : cmpI t.n u.n ≠ 0
    · rw [if_pos q3] at hr
      subst hr
      have q : (cmpI t.n u.n == 0) = false := by simpa using q3
      clear q3
      go_enter Try.func82, Try.ntmps82
      go_wp2_with (first
        | (go_at_call 100; refine (cmp_int _ _ _).mono ?_; rintro e w' ⟨rfl, rfl⟩)
        | (go_at_call 101; refine (cmp_int64 _ _ _).mono ?_; rintro e w' ⟨rfl, rfl⟩)
        | (go_at_call 102; refine (Try.strings_Compare _ _ _).mono ?_; rintro e w' ⟨rfl, rfl⟩))
      go_ret
      exact ⟨rfl, TB.out⟩
    · rw [if_neg q3] at hr
      subst hr
      have q3' : (cmpI t.n u.n == 0) = true := by simpa using q3
      clear q3
      go_enter Try.func82, Try.ntmps82
      go_wp2_with (first
        | (go_at_call 100; refine (cmp_int _ _ _).mono ?_; rintro e w' ⟨rfl, rfl⟩)
        | (go_at_call 101; refine (cmp_int64 _ _ _).mono ?_; rintro e w' ⟨rfl, rfl⟩)
        | (go_at_call 102; refine (Try.strings_Compare _ _ _).mono ?_; rintro e w' ⟨rfl, rfl⟩))
      go_ret
      exact ⟨rfl, TB.out⟩
  exact go _ rfl
end Go.Proofs.Ytkhchmgdaolojaa.Tms
namespace Go.Proofs.Ytkhchmgdaolojaa.Tms
open Go Go.RowKit
set_option linter.unusedVariables false

mutual
/-- the order of terms: the parts from the left, each ahead of its Args -/
def cmpT : Tm → Tm → Int
  | .mk k n s a, .mk k' n' s' a' => if cmpHead (.mk k n s a) (.mk k' n' s' a') ≠ 0 then cmpHead (.mk k n s a) (.mk k' n' s' a') else cmpL a a'
def cmpL : List Tm → List Tm → Int
  | t :: ts, u :: us => if cmpT t u ≠ 0 then cmpT t u else cmpL ts us
  | _, _ => 0
end
/-- of pairs, the first that differ -/
def cmpP : List (Tm × Tm) → Int
  | [] => 0
  | p :: l => if cmpT p.1 p.2 ≠ 0 then cmpT p.1 p.2 else cmpP l
theorem cmpP_app : ∀ (l m : List (Tm × Tm)), cmpP (l ++ m) = if cmpP l ≠ 0 then cmpP l else cmpP m
  | [], m => by simp [cmpP]
  | p :: l, m => by
    simp only [List.cons_append, cmpP, cmpP_app l m]
    by_cases h : cmpT p.1 p.2 = 0 <;> simp [h]
theorem cmpL_zip : ∀ (a b : List Tm), a.length = b.length → cmpL a b = cmpP (a.zip b)
  | [], [], _ => by simp [cmpL, cmpP]
  | t :: ts, u :: us, h => by simp only [cmpL, List.zip_cons_cons, cmpP, cmpL_zip ts us (by simpa using h)]
theorem cmpHead_len {t u : Tm} (h : cmpHead t u = 0) : t.args.length = u.args.length := by
  have key : ∀ a b : Int, cmpI a b = 0 → a = b := fun a b h => by
    unfold cmpI at h
    by_cases h1 : a < b
    · rw [if_pos h1] at h; omega
    · by_cases h2 : b < a
      · rw [if_neg h1, if_pos h2] at h; omega
      · omega
  unfold cmpHead at h
  by_cases q1 : cmpI t.k u.k = 0
  · by_cases q2 : cmpI t.args.length u.args.length = 0
    · have := key _ _ q2; omega
    · rw [if_neg (by simpa using q1), if_pos q2] at h; exact absurd h q2
  · rw [if_pos q1] at h; exact absurd h q1

def flatP : List (Tm × Tm) → List Tm
  | [] => []
  | p :: l => p.1 :: p.2 :: flatP l
theorem flatP_app : ∀ l m, flatP (l ++ m) = flatP l ++ flatP m
  | [], m => rfl
  | p :: l, m => by simp [flatP, flatP_app l m]
theorem flatP_len : ∀ l, (flatP l).length = 2 * l.length
  | [] => rfl
  | p :: l => by simp [flatP, flatP_len l]; omega

theorem CellsOf.len {w : World} {P : Nat → Prop} : ∀ {xs : List Value} {ts : List Tm}, CellsOf w P xs ts → xs.length = 4 * ts.length
  | [], [], _ => rfl
  | _ :: _ :: _ :: _ :: _, _ :: _, ⟨_, _, _, _, h⟩ => by have := CellsOf.len h; simp; omega
  | [], _ :: _, h => h.elim
  | _ :: [], [], h => h.elim
  | _ :: [], _ :: _, h => h.elim
  | _ :: _ :: [], [], h => h.elim
  | _ :: _ :: [], _ :: _, h => h.elim
  | _ :: _ :: _ :: [], [], h => h.elim
  | _ :: _ :: _ :: [], _ :: _, h => h.elim
  | _ :: _ :: _ :: _ :: _, [], h => h.elim
theorem CellsOf.split {w : World} {P : Nat → Prop} : ∀ {us : List Tm} {xs : List Value} {ts : List Tm}, CellsOf w P xs (us ++ ts) → ∃ ys zs, xs = ys ++ zs ∧ CellsOf w P ys us ∧ CellsOf w P zs ts
  | [], xs, ts, h => ⟨[], xs, rfl, trivial, h⟩
  | u :: us, k :: n :: s :: l :: rest, ts, ⟨h1, h2, h3, h4, h5⟩ => by
    obtain ⟨ys, zs, e, h6, h7⟩ := CellsOf.split h5
    exact ⟨k :: n :: s :: l :: ys, zs, by simp [e], ⟨h1, h2, h3, h4, h6⟩, h7⟩
  | _ :: _, [], _, h => h.elim
  | _ :: _, _ :: [], _, h => h.elim
  | _ :: _, _ :: _ :: [], _, h => h.elim
  | _ :: _, _ :: _ :: _ :: [], _, h => h.elim
theorem CellsOf.join {w : World} {P : Nat → Prop} : ∀ {ys zs : List Value} {us ts : List Tm}, CellsOf w P ys us → CellsOf w P zs ts → CellsOf w P (ys ++ zs) (us ++ ts)
  | [], zs, [], ts, _, h => h
  | k :: n :: s :: l :: rest, zs, u :: us, ts, ⟨h1, h2, h3, h4, h5⟩, h => ⟨h1, h2, h3, h4, CellsOf.join h5 h⟩
  | [], _, _ :: _, _, h, _ => h.elim
  | _ :: [], _, [], _, h, _ => h.elim
  | _ :: [], _, _ :: _, _, h, _ => h.elim
  | _ :: _ :: [], _, [], _, h, _ => h.elim
  | _ :: _ :: [], _, _ :: _, _, h, _ => h.elim
  | _ :: _ :: _ :: [], _, [], _, h, _ => h.elim
  | _ :: _ :: _ :: [], _, _ :: _, _, h, _ => h.elim
  | _ :: _ :: _ :: _ :: _, _, [], _, h, _ => h.elim

/-- the slice value v owns a row of pairs of the call's own; it reads as l, through blocks of P that are not that row -/
def OwnP (w : World) (base : Nat) (P : Nat → Prop) (v : Value) (l : List (Tm × Tm)) : Prop :=
  ∃ xs, w.ownsRow base 169 8 v l.length xs ∧ CellsOf w (fun b => P b ∧ v.ownBlock ≠ some b ∧ b < w.heap.size) xs (flatP l)
theorem OwnP.low {w : World} {base : Nat} {P : Nat → Prop} {v : Value} {l : List (Tm × Tm)} (h : OwnP w base P v l) : ∀ k, v.ownBlock = some k → base ≤ k ∧ k < w.heap.size := h.choose_spec.1.lt
theorem OwnP.below {w w' : World} {base : Nat} {P : Nat → Prop} {v : Value} {l : List (Tm × Tm)} (h : OwnP w base P v l) (hb : Below w.heap.size w w') : OwnP w' base P v l := by
  obtain ⟨xs, h1, h2⟩ := h
  refine ⟨xs, ⟨h1.1, ?_⟩, h2.imp2 (fun b h => ⟨h.1, h.2.1, Nat.lt_of_lt_of_le h.2.2 hb.size⟩) fun b _ hlt => hb.block b hlt⟩
  rcases h1.2 with h | ⟨g, cap, cur, e, h, hg, rest⟩
  · exact .inl h
  · exact .inr ⟨g, cap, cur, e, h, (hb.block g (Array.getElem?_eq_some_iff.1 hg).1).trans hg, rest⟩
/-- the last pair is taken off: its eight cells, and what they read as -/
theorem OwnP.pop {w : World} {base g cap n : Nat} {P : Nat → Prop} {l : List (Tm × Tm)} {p : Tm × Tm} (h : OwnP w base P (.slice (some ⟨g, 0, none⟩) (n + 1) cap) (l ++ [p])) (hn : l.length = n) :
    OwnP w base P (.slice (some ⟨g, 0, none⟩) n cap) l ∧ n + 1 ≤ cap ∧ cap ≤ maxLen ∧ ∃ a c a' c', w.cell? ⟨g, n * 8, none⟩ = some (.int .i64 p.1.k) ∧ w.cell? ⟨g, n * 8 + 1, none⟩ = some (.int .i64 p.1.n) ∧ w.cell? ⟨g, n * 8 + 2, none⟩ = some (.string p.1.s) ∧ w.cell? ⟨g, n * 8 + 3, none⟩ = some (.slice a p.1.args.length c) ∧
      w.cell? ⟨g, n * 8 + 4, none⟩ = some (.int .i64 p.2.k) ∧ w.cell? ⟨g, n * 8 + 5, none⟩ = some (.int .i64 p.2.n) ∧ w.cell? ⟨g, n * 8 + 6, none⟩ = some (.string p.2.s) ∧ w.cell? ⟨g, n * 8 + 7, none⟩ = some (.slice a' p.2.args.length c') ∧
      IsTm w (fun b => P b ∧ g ≠ b ∧ b < w.heap.size) (.agg #[.int .i64 p.1.k, .int .i64 p.1.n, .string p.1.s, .slice a p.1.args.length c]) p.1 ∧ IsTm w (fun b => P b ∧ g ≠ b ∧ b < w.heap.size) (.agg #[.int .i64 p.2.k, .int .i64 p.2.n, .string p.2.s, .slice a' p.2.args.length c']) p.2 := by
  obtain ⟨xs, h1, h2⟩ := h
  rw [flatP_app] at h2
  obtain ⟨ys, zs, rfl, h3, h4⟩ := h2.split
  have hys : ys.length = n * 8 := by have := h3.len; rw [flatP_len] at this; omega
  have hcell := fun j (hj : j < (n + 1) * 8) => (show w.ownsRow base 169 8 (.slice (some ⟨g, 0, none⟩) (n + 1) cap) (n + 1) (ys ++ zs) by simpa [hn] using h1).cellAt j hj
  have hz : zs.length = 8 := h4.len
  match zs, hz, h4 with
  | [z0, z1, z2, z3, z4, z5, z6, z7], _, ⟨e0, e1, e2, ⟨a, c, e3, ha⟩, f0, f1, f2, ⟨a', c', f3, ha'⟩, _⟩ =>
    have at_ := fun j (hj : j < 8) => (hcell (n * 8 + j) (by omega)).trans (List.getElem?_append_right (by omega) : (ys ++ [z0, z1, z2, z3, z4, z5, z6, z7])[n * 8 + j]? = _)
    simp only [hys, Nat.add_sub_cancel_left] at at_
    have hne : ∀ b, (Value.slice (some ⟨g, 0, none⟩) (n + 1) cap).ownBlock ≠ some b → g ≠ b := fun b h e => h (by simp [Value.ownBlock, e])
    obtain ⟨-, h5 | ⟨g', cap', cur, e, hb, hg, hc, hm, hs, ht⟩⟩ := h1
    · cases h5.1
    · simp only [Value.slice.injEq, Option.some.injEq, Addr.mk.injEq, and_true] at e
      obtain ⟨rfl, el, rfl⟩ := e
      rw [← el] at hc ht
      refine ⟨⟨ys, ⟨by rw [hn]; exact hys, .inr ⟨_, _, cur, by rw [hn], hb, hg, by omega, hm, hs, ?_⟩⟩, h3.imp2 (fun b h => ⟨h.1, fun e => h.2.1 (by simpa [Value.ownBlock] using e), h.2.2⟩) fun _ _ _ => rfl⟩, hc, hm, a, c, a', c', ?_⟩
      · have := congrArg (List.take (n * 8)) ht
        rw [List.take_take, List.take_append_of_le_length (by omega), List.take_of_length_le (l := ys) (by omega)] at this
        rw [← this, hn]
        congr 1
        omega
      · refine ⟨by simpa [e0] using at_ 0 (by decide), by simpa [e1] using at_ 1 (by decide), by simpa [e2] using at_ 2 (by decide), by simpa [e3] using at_ 3 (by decide), by simpa [f0] using at_ 4 (by decide), by simpa [f1] using at_ 5 (by decide), by simpa [f2] using at_ 6 (by decide), by simpa [f3] using at_ 7 (by decide), ?_, ?_⟩
        · exact ⟨a, c, rfl, ArgsFrom.imp (fun b h => ⟨h.1, hne b h.2.1, h.2.2⟩) (fun _ _ _ => rfl) _ _ _ ha⟩
        · exact ⟨a', c', rfl, ArgsFrom.imp (fun b h => ⟨h.1, hne b h.2.1, h.2.2⟩) (fun _ _ _ => rfl) _ _ _ ha'⟩
theorem OwnP.rows {w : World} {base : Nat} {P : Nat → Prop} {v : Value} {l : List (Tm × Tm)} {xs : List Value} (h : OwnP w base P v l) (hx : w.ownsRow base 169 8 v l.length xs) : CellsOf w (fun b => P b ∧ v.ownBlock ≠ some b ∧ b < w.heap.size) xs (flatP l) := by
  obtain ⟨xs', h1, h2⟩ := h
  have ex : xs' = xs := by
    rcases h1.2 with ⟨rfl, hn⟩ | ⟨g, cap, cur, e, -, hg, -, -, -, ht⟩
    · have a := h1.1; have b := hx.1; rw [hn] at a b; simp at a b; rw [a, b]
    · rcases hx.2 with ⟨e', hn⟩ | ⟨g', cap', cur', e', -, hg', -, -, -, ht'⟩
      · rw [e] at e'; cases e'
      · rw [e] at e'
        simp only [Value.slice.injEq, Option.some.injEq, Addr.mk.injEq, and_true] at e'
        obtain ⟨rfl, -, -⟩ := e'
        rw [hg] at hg'
        simp only [Option.some.injEq, Obj.cells.injEq, and_true] at hg'
        rw [← ht, ← ht', hg']
  subst ex
  exact h2

theorem info_both : (Try.prog.info? 169).map (fun i => (i.zero, i.size, i.bytes)) = some (some (.agg #[.int .i64 0, .int .i64 0, .string ⟨#[]⟩, .slice none 0 0, .int .i64 0, .int .i64 0, .string ⟨#[]⟩, .slice none 0 0]), 8, 112) := by kernel_rfl

/-- append of a pair whose eight cells lie in a block of their own -/
theorem wpList_push_pair {w : World} {ops : Array Oper} {rest : List Oper} {o : Oper} {a : Act} {Q : Exit → Act → World → Prop} (hgd : o.guard = none) (s x : Operand)
    (ho : o.op = .call { callee := .builtin .append, args := #[s, x], argTypes := #[170, 170] }) (base : Nat) (P : Nat → Prop) (v : Value) (l : List (Tm × Tm)) (c0 c1 c2 c3 d0 d1 d2 d3 : Value) (t u : Tm) (g c : Nat) (T : TypeId) (fr : Nat × Nat) (hs : a.eval s = v) (hown : OwnP w base P v l)
    (hx : a.eval x = .slice (some ⟨g, 0, none⟩) 1 c) (hg : w.heap[g]? = some (.cells #[c0, c1, c2, c3, d0, d1, d2, d3] T fr)) (ht : IsTm w (fun b => P b ∧ v.ownBlock ≠ some b) (.agg #[c0, c1, c2, c3]) t) (hu : IsTm w (fun b => P b ∧ v.ownBlock ≠ some b) (.agg #[d0, d1, d2, d3]) u)
    (hlen : l.length ≤ 1000000000) (hbase : base ≤ w.heap.size)
    (h : ∀ v' w', OwnP w' base P v' (l ++ [(t, u)]) → Below base w w' → w.grownBy w' v.ownBlock → (∀ k, v'.ownBlock = some k → v.ownBlock = some k ∨ w.heap.size ≤ k) → wpList Try.prog ops Q rest (a.put o.dst v') w') : wpList Try.prog ops Q (o :: rest) a w := by
  obtain ⟨i0, hi, hz0, hz1, hz2⟩ := info_parts info_both
  obtain ⟨xs, h1, h2⟩ := id hown
  have hone : ∀ y ∈ [c0, c1, c2, c3, d0, d1, d2, d3], y.oneCell' = true := by
    obtain ⟨q, r, e⟩ := ht.form
    obtain ⟨q', r', e'⟩ := hu.form
    simp only [Value.agg.injEq, Array.mk.injEq, List.cons.injEq, and_true] at e e'
    obtain ⟨rfl, rfl, rfl, rfl⟩ := e
    obtain ⟨rfl, rfl, rfl, rfl⟩ := e'
    simp [Value.oneCell']
  refine Push.wpList_push hgd s x 170 ho base 169 i0 _ 8 112 Try.underlying170 hi hz0 hz1 hz2 rfl (by decide) v l.length xs hs h1 ⟨g, 0, none⟩ c [c0, c1, c2, c3, d0, d1, d2, d3] hx rfl (fun j y hy => by rw [Addr.add_lit, cell_of_row w g _ _ _ _ hg, Nat.zero_add]; simpa using hy) hone (by unfold maxLen; omega) (by omega) hbase ?_
  intro v' w' hown' hgr hv
  have hsz : w.heap.size ≤ w'.heap.size := hgr.size
  have hblk : ∀ b, b < w.heap.size → v.ownBlock ≠ some b → w'.heap[b]? = w.heap[b]? := fun b hb hne => hgr.block b hb fun e => hne e.symm
  have hne : ∀ b, b < w.heap.size → v.ownBlock ≠ some b → v'.ownBlock ≠ some b := fun b hb h e => by
    rcases hv b e with h' | h'
    · exact h h'
    · omega
  have ht' : IsTm w (fun b => P b ∧ v.ownBlock ≠ some b ∧ b < w.heap.size) (.agg #[c0, c1, c2, c3]) t := ht.lt.imp (fun b h => ⟨h.1.1, h.1.2, h.2⟩) fun _ _ _ => rfl
  have hu' : IsTm w (fun b => P b ∧ v.ownBlock ≠ some b ∧ b < w.heap.size) (.agg #[d0, d1, d2, d3]) u := hu.lt.imp (fun b h => ⟨h.1.1, h.1.2, h.2⟩) fun _ _ _ => rfl
  refine h v' w' ⟨xs ++ [c0, c1, c2, c3, d0, d1, d2, d3], by simpa using hown', ?_⟩ ?_ hgr hv
  · rw [flatP_app]
    have hc : CellsOf w (fun b => P b ∧ v.ownBlock ≠ some b ∧ b < w.heap.size) [c0, c1, c2, c3, d0, d1, d2, d3] (flatP [(t, u)]) := CellsOf.cons ht' (CellsOf.cons hu' trivial)
    exact ((hown.rows h1).join hc).imp2 (fun b h => ⟨h.1, hne b h.2.2 h.2.1, by omega⟩) fun b h _ => hblk b h.2.2 h.2.1
  · exact (Below.refl base w).grown hgr hbase fun k e => (h1.lt k e).1
end Go.Proofs.Ytkhchmgdaolojaa.Tms
namespace Go.Proofs.Ytkhchmgdaolojaa.Tms
open Go Go.RowKit Go.Proofs.Ytkhchmgdaolojaa.Reg
set_option linter.unusedVariables false

def sumP : List (Tm × Tm) → Nat
  | [] => 0
  | p :: l => p.1.size + sumP l
theorem sumP_app : ∀ l m, sumP (l ++ m) = sumP l + sumP m
  | [], m => by simp [sumP]
  | p :: l, m => by simp [sumP, sumP_app l m]; omega
theorem len_sumP : ∀ l : List (Tm × Tm), l.length ≤ sumP l
  | [] => by simp
  | p :: l => by have := len_sumP l; have := size_pos p.1; simp [sumP]; omega

abbrev Lo (P P' : Nat → Prop) (B : Nat) : Nat → Prop := fun b => (P b ∨ P' b) ∧ b < B
/-- the stack, and what is still to be told -/
structure CpInv (w : World) (Q : Nat → Prop) (g cap n : Nat) (l : List (Tm × Tm)) (wr : World) : Prop where
  len : l.length = n
  own : OwnP wr (w.heap.size + 2) Q (.slice (some ⟨g, 0, none⟩) n cap) l
  bel : Below w.heap.size w wr
  big : w.heap.size + 2 ≤ wr.heap.size
def CpRel (t u : Tm) (w : World) (Q : Nat → Prop) (k : Nat) (v5 : Value) (wr : World) : Prop :=
  ∃ (l : List (Tm × Tm)) (g cap n : Nat), v5 = .slice (some ⟨g, 0, none⟩) n cap ∧ CpInv w Q g cap n l wr ∧ cmpP l.reverse = cmpT t u ∧ sumP l ≤ k ∧ k ≤ t.size

theorem cp_start (t u : Tm) (w : World) (Q : Nat → Prop) (a a' : Option Addr) (c c' : Nat) (hQ : ∀ b, Q b → b < w.heap.size) (h : IsTm w Q (.agg #[.int .i64 t.k, .int .i64 t.n, .string t.s, .slice a t.args.length c]) t) (h' : IsTm w Q (.agg #[.int .i64 u.k, .int .i64 u.n, .string u.s, .slice a' u.args.length c']) u) :
    CpRel t u w Q t.size (.slice (some ⟨w.heap.size + 1 + 1, 0, none⟩) 1 1) (((w.alloc (.cells #[.int .i64 t.k, .int .i64 t.n, .string t.s, .slice a t.args.length c] 49 (0, 0))).alloc (.cells #[.int .i64 u.k, .int .i64 u.n, .string u.s, .slice a' u.args.length c'] 49 (0, 0))).alloc
      (.cells #[.int .i64 t.k, .int .i64 t.n, .string t.s, .slice a t.args.length c, .int .i64 u.k, .int .i64 u.n, .string u.s, .slice a' u.args.length c'] 169 (0, 0))) := by
  obtain ⟨-, -, tsz, tbl⟩ := two w (.cells #[.int .i64 t.k, .int .i64 t.n, .string t.s, .slice a t.args.length c] 49 (0, 0)) (.cells #[.int .i64 u.k, .int .i64 u.n, .string u.s, .slice a' u.args.length c'] 49 (0, 0))
  generalize (w.alloc (.cells #[.int .i64 t.k, .int .i64 t.n, .string t.s, .slice a t.args.length c] 49 (0, 0))).alloc (.cells #[.int .i64 u.k, .int .i64 u.n, .string u.s, .slice a' u.args.length c'] 49 (0, 0)) = w2 at *
  have hb : Below w2.heap.size w2 (w2.alloc (.cells #[.int .i64 t.k, .int .i64 t.n, .string t.s, .slice a t.args.length c, .int .i64 u.k, .int .i64 u.n, .string u.s, .slice a' u.args.length c'] 169 (0, 0))) := (Below.refl _ _).alloc (Nat.le_refl _) _
  have hbel := tbl.trans (hb.mono (by omega))
  refine ⟨[(t, u)], w.heap.size + 1 + 1, 1, 1, rfl, ⟨rfl, ⟨[.int .i64 t.k, .int .i64 t.n, .string t.s, .slice a t.args.length c, .int .i64 u.k, .int .i64 u.n, .string u.s, .slice a' u.args.length c'], ?_, ?_⟩, hbel, by simp; omega⟩, by simp [cmpP]; intro h; exact h.symm, by simp [sumP], Nat.le_refl _⟩
  · rw [show w.heap.size + 1 + 1 = w2.heap.size by omega]
    exact World.ownsRow_lit w2 _ 1 (by omega) (by decide) rfl
  · have k1 : ∀ {v : Value} {x : Tm}, IsTm w Q v x → IsTm (w2.alloc (.cells #[.int .i64 t.k, .int .i64 t.n, .string t.s, .slice a t.args.length c, .int .i64 u.k, .int .i64 u.n, .string u.s, .slice a' u.args.length c'] 169 (0, 0)))
        (fun b => Q b ∧ (Value.slice (some ⟨w.heap.size + 1 + 1, 0, none⟩) 1 1).ownBlock ≠ some b ∧ b < (w2.alloc (.cells #[.int .i64 t.k, .int .i64 t.n, .string t.s, .slice a t.args.length c, .int .i64 u.k, .int .i64 u.n, .string u.s, .slice a' u.args.length c'] 169 (0, 0))).heap.size) v x := fun h =>
      h.imp (fun b h => ⟨h, by have := hQ b h; simp [Value.ownBlock]; omega, by have := hQ b h; simp; omega⟩) fun b h _ => hbel.block b (hQ b h)
    exact CellsOf.cons (k1 h) (CellsOf.cons (k1 h') trivial)

theorem sumP_rev : ∀ l, sumP l.reverse = sumP l
  | [] => rfl
  | p :: l => by simp [sumP, sumP_app, sumP_rev l]; omega
theorem sumP_zip : ∀ a b : List Tm, sumP (a.zip b) ≤ sizeL a
  | [], b => by simp [sumP]
  | t :: ts, [] => by simp [sumP]
  | t :: ts, u :: us => by have := sumP_zip ts us; simp only [List.zip_cons_cons, sumP, sizeL]; omega
theorem cmp_turn {t u x y : Tm} {l : List (Tm × Tm)} (h : cmpP (l ++ [(x, y)]).reverse = cmpT t u) (h0 : cmpHead x y = 0) : cmpP (l ++ (x.args.zip y.args).reverse).reverse = cmpT t u := by
  have hl := cmpHead_len h0
  have hT : cmpT x y = cmpP (x.args.zip y.args) := by
    rw [← cmpL_zip _ _ hl]
    obtain ⟨k1, n1, s1, a1⟩ := x
    obtain ⟨k2, n2, s2, a2⟩ := y
    rw [cmpT, if_neg (by simpa using h0)]
    rfl
  rw [← h, List.reverse_append, List.reverse_append, List.reverse_reverse, List.reverse_singleton, cmpP_app, List.singleton_append]
  show _ = (if cmpT x y ≠ 0 then cmpT x y else _)
  rw [hT]

/-- a slice of one pair, in a row of its own -/
def NewRow8 (B : Nat) (cs : Array Value) (v : Value) (u : World) : Prop := ∃ b, v = .slice (some ⟨b, 0, none⟩) 1 1 ∧ B ≤ b ∧ u.heap[b]? = some (.cells cs 169 (0, 0))
theorem NewRow8.below {B : Nat} {cs : Array Value} {v : Value} {u u' : World} (h : NewRow8 B cs v u) (hb : Below u.heap.size u u') : NewRow8 B cs v u' :=
  let ⟨b, e, hB, hh⟩ := h; ⟨b, e, hB, (hb.block b (Array.getElem?_eq_some_iff.1 hh).1).trans hh⟩
theorem NewRow8.made {B : Nat} {cs : Array Value} {u : World} (h : B ≤ u.heap.size) : NewRow8 B cs (.slice (some ⟨u.heap.size, 0, none⟩) 1 1) (u.alloc (.cells cs 169 (0, 0))) := ⟨_, rfl, h, heap_alloc_new _ _⟩

theorem OwnP.form {w : World} {base : Nat} {P : Nat → Prop} {v : Value} {l : List (Tm × Tm)} (h : OwnP w base P v l) (hn : 0 < l.length) : ∃ g cap, v = .slice (some ⟨g, 0, none⟩) l.length cap := by
  obtain ⟨xs, ⟨-, ⟨-, h0⟩ | ⟨g, cap, cur, e, -⟩⟩, -⟩ := h
  · omega
  · exact ⟨g, cap, e⟩

structure CpIn (w : World) (Q : Nat → Prop) (s6 : Nat) (x y : Tm) (xa ya : Option Addr) (xc yc : Nat) (l' : List (Tm × Tm)) (q g cap n : Nat) (wr : World) : Prop where
  len : n = l'.length + (x.args.length - q)
  own : OwnP wr (w.heap.size + 2) Q (.slice (some ⟨g, 0, none⟩) n cap) (l' ++ ((x.args.zip y.args).drop q).reverse)
  bel : Below w.heap.size w wr
  box : wr.heap[s6]? = some (.cells #[.int .i64 x.k, .int .i64 x.n, .string x.s, .slice xa x.args.length xc, .int .i64 y.k, .int .i64 y.n, .string y.s, .slice ya y.args.length yc] 169 (0, 0))
  ne : g ≠ s6
  low : w.heap.size + 2 ≤ s6 ∧ s6 < wr.heap.size
  xi : IsTm wr Q (.agg #[.int .i64 x.k, .int .i64 x.n, .string x.s, .slice xa x.args.length xc]) x
  yi : IsTm wr Q (.agg #[.int .i64 y.k, .int .i64 y.n, .string y.s, .slice ya y.args.length yc]) y
def CpInRel (w : World) (Q : Nat → Prop) (s6 : Nat) (x y : Tm) (xa ya : Option Addr) (xc yc : Nat) (l' : List (Tm × Tm)) (v5 v8 : Value) (wr : World) : Prop :=
  ∃ q g cap n, q ≤ x.args.length ∧ v8 = .int .i64 ((q : Int) - 1) ∧ v5 = .slice (some ⟨g, 0, none⟩) n cap ∧ CpIn w Q s6 x y xa ya xc yc l' q g cap n wr

set_option maxHeartbeats 1600000 in
theorem tm_Compare (t u : Tm) (v v' : Value) (P P' : Nat → Prop) (w : World) (hM : t.size ≤ 1000000000) (hM' : u.size ≤ 1000000000) (h : IsTm w P v t) (h' : IsTm w P' v' u) :
    Calls Try.prog 65 #[v, v'] w fun e w' => e = .returned (.int .i64 (cmpT t u)) ∧ Below w.heap.size w w' := by
  have hl := h.lt.imp (P' := Lo P P' w.heap.size) (fun b h => ⟨.inl h.1, h.2⟩) fun _ _ _ => rfl
  have hl' := h'.lt.imp (P' := Lo P P' w.heap.size) (fun b h => ⟨.inr h.1, h.2⟩) fun _ _ _ => rfl
  obtain ⟨a, c, rfl⟩ := hl.form
  obtain ⟨a', c', rfl⟩ := hl'.form
  have HST := Lib.hid (cp_start t u w (Lo P P' w.heap.size) a a' c c' (fun b h => h.2) hl hl')
  clear h h' hl hl'
  go_enter Try.func65, Try.ntmps65
  go_wp2
  go_loopg [5] t.size (fun k v5 wr => CpRel t u w (Lo P P' w.heap.size) k v5 wr)
  case atStart => exact HST.out
  case round =>
    obtain ⟨l, g, cap, n, rfl, inv, hc, hk, hkt⟩ := hrel
    clear HST
    have HC := Lib.hid hc
    clear hc
    rcases nil_or_snoc l with rfl | ⟨l', p, rfl⟩
    · obtain rfl : n = 0 := inv.len.symm
      have HB := Lib.hid inv.bel
      clear inv
      go_wp2
      go_ret
      exact ⟨by rw [show cmpT t u = 0 from HC.out.symm]; rfl, HB.out⟩
    · obtain ⟨m, rfl⟩ : ∃ m, n = m + 1 := ⟨l'.length, by rw [← inv.len]; simp⟩
      have hm : l'.length = m := by have := inv.len; simpa using this
      obtain ⟨own', hcap, hcm, xa, xc, ya, yc, x0, x1, x2, x3, y0, y1, y2, y3, xi, yi⟩ := inv.own.pop hm
      obtain ⟨x, y⟩ := p
      dsimp only at *
      have hsum : sumP l' + x.size ≤ gk := by have := sumP_app l' [(x, y)]; simp only [sumP] at this; omega
      have hbig := inv.big
      have HB := Lib.hid inv.bel
      have OWN := Lib.hid own'
      have XI := Lib.hid xi
      have YI := Lib.hid yi
      have HM := Lib.hid hm
      have hmb : m + 1 ≤ 1000000000 := by have := len_sumP l'; have := size_pos x; omega
      clear inv own' xi yi hm hk
      have hmm : ((m : Int) + 1 - 1) = m := by omega
      have hglt : g < wr.heap.size := (OWN.out.low g rfl).2
      have hb8 := heap_alloc_new wr (.cells #[.int .i64 x.k, .int .i64 x.n, .string x.s, .slice xa x.args.length xc, .int .i64 y.k, .int .i64 y.n, .string y.s, .slice ya y.args.length yc] 169 (0, 0))
      have hba : Below wr.heap.size wr (wr.alloc (.cells #[.int .i64 x.k, .int .i64 x.n, .string x.s, .slice xa x.args.length xc, .int .i64 y.k, .int .i64 y.n, .string y.s, .slice ya y.args.length yc] 169 (0, 0))) := (Below.refl _ _).alloc (Nat.le_refl _) _
      have hbs : (wr.alloc (.cells #[.int .i64 x.k, .int .i64 x.n, .string x.s, .slice xa x.args.length xc, .int .i64 y.k, .int .i64 y.n, .string y.s, .slice ya y.args.length yc] 169 (0, 0))).heap.size = wr.heap.size + 1 := by simp
      have H8 := Lib.hid hb8
      have HBA := Lib.hid hba
      have HBS := Lib.hid hbs
      clear hb8 hba hbs
      go_wp2_with fail
      refine (tm_compare x y _ _ _ _ _ (XI.out.below HBA.out) (YI.out.below HBA.out)).mono ?_
      rintro e4 w4 ⟨rfl, hb4⟩
      have H84 := Lib.hid ((hb4.block _ (by have := HBS.out; omega)).trans H8.out)
      have hba4 := HBA.out.trans (hb4.mono (by have := HBS.out; omega))
      have HB4 := Lib.hid (HB.out.trans (hba4.mono HB.out.size))
      have OWN4 := Lib.hid (OWN.out.below hba4)
      have XI4 := Lib.hid (XI.out.below hba4)
      have YI4 := Lib.hid (YI.out.below hba4)
      have hs4 : wr.heap.size + 1 ≤ w4.heap.size := by have := HBS.out; have := hb4.size; omega
      clear hb4 hba4 H8 HBA HBS HB OWN XI YI x0 x1 x2 x3 y0 y1 y2 y3
      by_cases hc0 : cmpHead x y = 0
      case neg =>
        have hc0' : (cmpHead x y != 0) = true := by simpa using hc0
        have hres : cmpT t u = cmpHead x y := by
          have h1 := HC.out
          have hT : cmpT x y = cmpHead x y := by
            obtain ⟨k1, n1, s1, a1⟩ := x
            obtain ⟨k2, n2, s2, a2⟩ := y
            rw [cmpT, if_pos hc0]
          rw [List.reverse_append, List.reverse_singleton, List.singleton_append] at h1
          rw [← h1]
          show (if cmpT x y ≠ 0 then cmpT x y else _) = _
          rw [hT, if_pos hc0]
        have HRES := Lib.hid hres
        clear hc0 hres
        go_wp2
        go_ret
        exact ⟨by rw [HRES.out]; rfl, HB4.out⟩
      have hxl := cmpHead_len hc0
      have hc0' : (cmpHead x y != 0) = false := by simpa using hc0
      have HC0 := Lib.hid (cmp_turn HC.out hc0)
      have hxs : x.args.length ≤ 1000000000 := by have := len_le x.args; obtain ⟨k1, n1, s1, a1⟩ := x; simp only [Tm.size, Tm.args] at *; omega
      have hsx : sizeL x.args + 1 = x.size := by obtain ⟨k1, n1, s1, a1⟩ := x; simp [Tm.size, Tm.args]
      have f3 : w4.cell? ⟨wr.heap.size, 3, none⟩ = some (.slice xa x.args.length xc) := cell_of_row w4 _ 3 _ _ _ H84.out
      have hgne : g ≠ wr.heap.size := by omega
      have hin : CpInRel w (Lo P P' w.heap.size) wr.heap.size x y xa ya xc yc l' (.slice (some ⟨g, 0, none⟩) m cap) (.int .i64 ((x.args.length : Int) - 1)) w4 :=
        ⟨x.args.length, g, cap, m, Nat.le_refl _, rfl, rfl, by rw [HM.out]; omega, by rw [List.drop_of_length_le (by simp; omega)]; simpa using OWN4.out, HB4.out, H84.out, hgne, ⟨hbig, by omega⟩, XI4.out.imp (fun _ h => h.1) (fun _ _ _ => rfl), YI4.out.imp (fun _ h => h.1) (fun _ _ _ => rfl)⟩
      have HIN := Lib.hid hin
      have HXL := Lib.hid hxl
      have HSX := Lib.hid hsx
      clear hc0 hin hxl hsx H84 HB4 OWN4 XI4 YI4 HC
      go_wp2
      clear f3
      generalize wr.heap.size = s6 at *
      go_loopw [5, 8] (fun v5 v8 w5 => CpInRel w (Lo P P' w.heap.size) s6 x y xa ya xc yc l' v5 v8 w5) (fun _ v8 _ => (intOf v8 + 1).toNat)
      case atStart => exact HIN.out
      case round =>
        obtain ⟨q, g5, cap5, n5, hq, rfl, rfl, ci⟩ := hrel
        clear HIN
        rcases q with _ | r
        · have CI := Lib.hid ci
          clear ci
          have hxp := size_pos x
          go_wp2
          go_roundg (gk - 1)
          case measure => omega
          case rel =>
            have c := CI.out
            have ho := c.own
            rw [List.drop_zero] at ho
            refine ⟨l' ++ (x.args.zip y.args).reverse, g5, cap5, n5, rfl, ⟨?_, ho, c.bel, by have := c.low; omega⟩, HC0.out, ?_, by omega⟩
            · have := c.len; have := HXL.out; simp; omega
            · have h1 := sumP_app l' (x.args.zip y.args).reverse
              have h2 := sumP_rev (x.args.zip y.args)
              have h3 := sumP_zip x.args y.args
              have h4 := HSX.out
              omega
        · have e8 : (((r + 1 : Nat) : Int) - 1) = r := by omega
          rw [e8]
          clear e8
          have hry : r < y.args.length := by have := HXL.out; omega
          obtain ⟨xb, xo, rfl, -, xt⟩ := ci.xi.args.at r hq
          obtain ⟨yb, yo, rfl, -, yt⟩ := ci.yi.args.at r hry
          obtain ⟨pa, pc, x0, x1, x2, x3, xri, -⟩ := xt.read
          obtain ⟨qa, qc, y0, y1, y2, y3, yri, -⟩ := yt.read
          have f3 : wr.cell? ⟨s6, 3, none⟩ = some (.slice (some ⟨xb, xo, none⟩) x.args.length xc) := cell_of_row wr _ 3 _ _ _ ci.box
          have f7 : wr.cell? ⟨s6, 4 + 3, none⟩ = some (.slice (some ⟨yb, yo, none⟩) y.args.length yc) := cell_of_row wr _ 7 _ _ _ ci.box
          have hcs : Cells [(s6, 3, .slice (some ⟨xb, xo, none⟩) x.args.length xc), (s6, 4 + 3, .slice (some ⟨yb, yo, none⟩) y.args.length yc), (xb, xo + r * 4, .int .i64 x.args[r].k), (xb, xo + r * 4 + 1, .int .i64 x.args[r].n), (xb, xo + r * 4 + 2, .string x.args[r].s), (xb, xo + r * 4 + 3, .slice pa x.args[r].args.length pc),
              (yb, yo + r * 4, .int .i64 y.args[r].k), (yb, yo + r * 4 + 1, .int .i64 y.args[r].n), (yb, yo + r * 4 + 2, .string y.args[r].s), (yb, yo + r * 4 + 3, .slice qa y.args[r].args.length qc)] wr := ⟨f3, f7, x0, x1, x2, x3, y0, y1, y2, y3, trivial⟩
          have hdr : (x.args.zip y.args).drop r = (x.args[r], y.args[r]) :: (x.args.zip y.args).drop (r + 1) := by
            rw [List.drop_eq_getElem_cons (by simp; omega)]
            simp
          have HDR := Lib.hid hdr
          have CI := Lib.hid ci
          have XRI := Lib.hid xri
          have YRI := Lib.hid yri
          have hri : (r : Int) < (x.args.length : Int) := by omega
          have hrj : (r : Int) < (y.args.length : Int) := by omega
          clear hdr ci xri yri xt yt x0 x1 x2 x3 y0 y1 y2 y3 f3 f7
          generalize x.args[r] = xr at *
          generalize y.args[r] = yr at *
          go_wp2
          refine wp_region_rest (by kernel_rfl) ?_
          have hd : Below wr.heap.size wr wr.drew := (Below.refl _ _).drew
          have HCS := Lib.hid (hcs.below hd)
          have hci := CI.out
          have HOWN := Lib.hid (hci.own.below hd)
          have HBX := Lib.hid ((hd.block _ hci.low.2).trans hci.box)
          have HBL := Lib.hid (hci.bel.trans (hd.mono hci.bel.size))
          have HXI := Lib.hid (hci.xi.below hd)
          have HYI := Lib.hid (hci.yi.below hd)
          replace XRI := Lib.hid (XRI.out.below hd)
          replace YRI := Lib.hid (YRI.out.below hd)
          have hlow := hci.low
          have hlow2 : s6 < wr.drew.heap.size := hlow.2
          have HLEN := Lib.hid hci.len
          have HNE := Lib.hid hci.ne
          clear hcs hd hci CI
          generalize wr.drew = W0 at *
          refine rest_opsL 0 15 60 [_, _, _, _, _, _, _, _, _, _, _, _, _, _, _] (pk 0 [isV ?a1_0, isV ?a1_1, isV ?a1_2, isV ?a1_3, isV ?a1_4, isV ?a1_5, isV ?a1_6, isV ?a1_7, isV ?a1_8, isV ?a1_9, isV ?a1_10, isV ?a1_11, isV ?a1_12, isV ?a1_13, fun v u => NewRow8 W0.heap.size #[.int .i64 xr.k, .int .i64 xr.n, .string xr.s, .slice pa xr.args.length pc, .int .i64 yr.k, .int .i64 yr.n, .string yr.s, .slice qa yr.args.length qc] v u]) (fun _ _ => none) rfl (by kernel_rfl) (by kernel_rfl) rfl (.inr (by kernel_rfl)) ?hS1 ?hop1 ?_
          case hop1 =>
            refine hops_cons ?_ ?_
            · intro v u hu hs Q' hQ
              simp only [putAll, dstOf]
              clear hs
              go_wp2
              exact ⟨rfl, Below.refl _ _, by (show _ = _; rfl), fun _ h => nomatch h⟩
            refine hops_cons ?_ ?_
            · intro v u hu hs Q' hQ
              simp only [putAll, dstOf]
              clear hs
              go_wp2
              exact ⟨rfl, Below.refl _ _, by (show _ = _; rfl), fun _ h => nomatch h⟩
            refine hops_cons ?_ ?_
            · intro v u hu hs Q' hQ
              simp only [putAll, dstOf]
              have s_1 : v 1 = _ := hs 1 (by kernel_rfl) (by decide) (by decide)
              clear hs
              go_wp2
              exact ⟨rfl, Below.refl _ _, by (show _ = _; rfl), fun _ h => nomatch h⟩
            refine hops_cons ?_ ?_
            · intro v u hu hs Q' hQ
              simp only [putAll, dstOf]
              have s_2 : v 2 = _ := hs 2 (by kernel_rfl) (by decide) (by decide)
              have y := HCS.out.below hu
              have g0 := y.1
              have g1 := y.2.1
              have g2 := y.2.2.1
              have g3 := y.2.2.2.1
              have g4 := y.2.2.2.2.1
              have g5 := y.2.2.2.2.2.1
              have g6 := y.2.2.2.2.2.2.1
              have g7 := y.2.2.2.2.2.2.2.1
              have g8 := y.2.2.2.2.2.2.2.2.1
              have g9 := y.2.2.2.2.2.2.2.2.2.1
              clear y
              clear hs
              go_wp2
              exact ⟨rfl, Below.refl _ _, by (show _ = _; rfl), fun _ h => nomatch h⟩
            refine hops_cons ?_ ?_
            · intro v u hu hs Q' hQ
              simp only [putAll, dstOf]
              clear hs
              go_wp2
              exact ⟨rfl, Below.refl _ _, by (show _ = _; rfl), fun _ h => nomatch h⟩
            refine hops_cons ?_ ?_
            · intro v u hu hs Q' hQ
              simp only [putAll, dstOf]
              have s_3 : v 3 = _ := hs 3 (by kernel_rfl) (by decide) (by decide)
              have s_4 : v 4 = _ := hs 4 (by kernel_rfl) (by decide) (by decide)
              clear hs
              go_wp2
              exact ⟨rfl, Below.refl _ _, by (show _ = _; rfl), fun _ h => nomatch h⟩
            refine hops_cons ?_ ?_
            · intro v u hu hs Q' hQ
              simp only [putAll, dstOf]
              have s_5 : v 5 = _ := hs 5 (by kernel_rfl) (by decide) (by decide)
              have y := HCS.out.below hu
              have g0 := y.1
              have g1 := y.2.1
              have g2 := y.2.2.1
              have g3 := y.2.2.2.1
              have g4 := y.2.2.2.2.1
              have g5 := y.2.2.2.2.2.1
              have g6 := y.2.2.2.2.2.2.1
              have g7 := y.2.2.2.2.2.2.2.1
              have g8 := y.2.2.2.2.2.2.2.2.1
              have g9 := y.2.2.2.2.2.2.2.2.2.1
              clear y
              clear hs
              go_wp2
              exact ⟨rfl, Below.refl _ _, by (show _ = _; rfl), fun _ h => nomatch h⟩
            refine hops_cons ?_ ?_
            · intro v u hu hs Q' hQ
              simp only [putAll, dstOf]
              clear hs
              go_wp2
              exact ⟨rfl, Below.refl _ _, by (show _ = _; rfl), fun _ h => nomatch h⟩
            refine hops_cons ?_ ?_
            · intro v u hu hs Q' hQ
              simp only [putAll, dstOf]
              have s_7 : v 7 = _ := hs 7 (by kernel_rfl) (by decide) (by decide)
              clear hs
              go_wp2
              exact ⟨rfl, Below.refl _ _, by (show _ = _; rfl), fun _ h => nomatch h⟩
            refine hops_cons ?_ ?_
            · intro v u hu hs Q' hQ
              simp only [putAll, dstOf]
              have s_8 : v 8 = _ := hs 8 (by kernel_rfl) (by decide) (by decide)
              have y := HCS.out.below hu
              have g0 := y.1
              have g1 := y.2.1
              have g2 := y.2.2.1
              have g3 := y.2.2.2.1
              have g4 := y.2.2.2.2.1
              have g5 := y.2.2.2.2.2.1
              have g6 := y.2.2.2.2.2.2.1
              have g7 := y.2.2.2.2.2.2.2.1
              have g8 := y.2.2.2.2.2.2.2.2.1
              have g9 := y.2.2.2.2.2.2.2.2.2.1
              clear y
              clear hs
              go_wp2
              exact ⟨rfl, Below.refl _ _, by (show _ = _; rfl), fun _ h => nomatch h⟩
            refine hops_cons ?_ ?_
            · intro v u hu hs Q' hQ
              simp only [putAll, dstOf]
              clear hs
              go_wp2
              exact ⟨rfl, Below.refl _ _, by (show _ = _; rfl), fun _ h => nomatch h⟩
            refine hops_cons ?_ ?_
            · intro v u hu hs Q' hQ
              simp only [putAll, dstOf]
              have s_9 : v 9 = _ := hs 9 (by kernel_rfl) (by decide) (by decide)
              have s_10 : v 10 = _ := hs 10 (by kernel_rfl) (by decide) (by decide)
              clear hs
              go_wp2
              exact ⟨rfl, Below.refl _ _, by (show _ = _; rfl), fun _ h => nomatch h⟩
            refine hops_cons ?_ ?_
            · intro v u hu hs Q' hQ
              simp only [putAll, dstOf]
              have s_11 : v 11 = _ := hs 11 (by kernel_rfl) (by decide) (by decide)
              have y := HCS.out.below hu
              have g0 := y.1
              have g1 := y.2.1
              have g2 := y.2.2.1
              have g3 := y.2.2.2.1
              have g4 := y.2.2.2.2.1
              have g5 := y.2.2.2.2.2.1
              have g6 := y.2.2.2.2.2.2.1
              have g7 := y.2.2.2.2.2.2.2.1
              have g8 := y.2.2.2.2.2.2.2.2.1
              have g9 := y.2.2.2.2.2.2.2.2.2.1
              clear y
              clear hs
              go_wp2
              exact ⟨rfl, Below.refl _ _, by (show _ = _; rfl), fun _ h => nomatch h⟩
            refine hops_cons ?_ ?_
            · intro v u hu hs Q' hQ
              simp only [putAll, dstOf]
              have s_6 : v 6 = _ := hs 6 (by kernel_rfl) (by decide) (by decide)
              have s_12 : v 12 = _ := hs 12 (by kernel_rfl) (by decide) (by decide)
              clear hs
              go_wp2
              exact ⟨rfl, Below.refl _ _, by (show _ = _; rfl), fun _ h => nomatch h⟩
            refine hops_cons ?_ ?_
            · intro v u hu hs Q' hQ
              simp only [putAll, dstOf]
              have s_13 : v 13 = _ := hs 13 (by kernel_rfl) (by decide) (by decide)
              clear hs
              go_wp2
              exact ⟨rfl, (Below.refl _ _).alloc (Nat.le_refl _) _, NewRow8.made hu.size, fun _ h => nomatch h⟩
            exact hops_nil
          case hS1 =>
            intro j v u u' hkj hjn h hb
            match j, hkj, hjn, h with
            | 0, _, _, h => exact h
            | 1, _, _, h => exact h
            | 2, _, _, h => exact h
            | 3, _, _, h => exact h
            | 4, _, _, h => exact h
            | 5, _, _, h => exact h
            | 6, _, _, h => exact h
            | 7, _, _, h => exact h
            | 8, _, _, h => exact h
            | 9, _, _, h => exact h
            | 10, _, _, h => exact h
            | 11, _, _, h => exact h
            | 12, _, _, h => exact h
            | 13, _, _, h => exact h
            | 14, _, _, h => exact h.below hb
            | q + 15, _, hq, _ => exact absurd hq (by omega)
          intro v u hu hs hap
          have s_0 : v 0 = _ := hs 0 (by decide) (by decide)
          have s_1 : v 1 = _ := hs 1 (by decide) (by decide)
          have s_2 : v 2 = _ := hs 2 (by decide) (by decide)
          have s_3 : v 3 = _ := hs 3 (by decide) (by decide)
          have s_4 : v 4 = _ := hs 4 (by decide) (by decide)
          have s_5 : v 5 = _ := hs 5 (by decide) (by decide)
          have s_6 : v 6 = _ := hs 6 (by decide) (by decide)
          have s_7 : v 7 = _ := hs 7 (by decide) (by decide)
          have s_8 : v 8 = _ := hs 8 (by decide) (by decide)
          have s_9 : v 9 = _ := hs 9 (by decide) (by decide)
          have s_10 : v 10 = _ := hs 10 (by decide) (by decide)
          have s_11 : v 11 = _ := hs 11 (by decide) (by decide)
          have s_12 : v 12 = _ := hs 12 (by decide) (by decide)
          have s_13 : v 13 = _ := hs 13 (by decide) (by decide)
          have s_14 : NewRow8 W0.heap.size #[.int .i64 xr.k, .int .i64 xr.n, .string xr.s, .slice pa xr.args.length pc, .int .i64 yr.k, .int .i64 yr.n, .string yr.s, .slice qa yr.args.length qc] (v 14) u := hs 14 (by decide) (by decide)
          simp only [putAll, dstOf]
          obtain ⟨rb, er, hrb, hrow⟩ := s_14
          have hgl := (HOWN.out.low g5 rfl).1
          have hgl2 : w.heap.size + 2 ≤ g5 := hgl
          have hav : ∀ b, Lo P P' w.heap.size b → Lo P P' w.heap.size b ∧ Value.ownBlock (.slice (some ⟨g5, 0, none⟩) n5 cap5) ≠ some b := fun b h => ⟨h, fun e => by have h1 := h.2; have h2 : g5 = b := Option.some.inj (show some g5 = some b from e); omega⟩
          have IX := Lib.hid ((XRI.out.below hu).imp hav fun _ _ _ => rfl)
          have IY := Lib.hid ((YRI.out.below hu).imp hav fun _ _ _ => rfl)
          replace HOWN := Lib.hid (HOWN.out.below hu)
          replace HBX := Lib.hid ((hu.block _ hlow2).trans HBX.out)
          replace HBL := Lib.hid (HBL.out.trans (hu.mono HBL.out.size))
          replace HXI := Lib.hid (HXI.out.below hu)
          replace HYI := Lib.hid (HYI.out.below hu)
          have hs6 : s6 < u.heap.size := by have := hu.size; omega
          have HROW := Lib.hid hrow
          have hll : (l' ++ ((x.args.zip y.args).drop (r + 1)).reverse).length ≤ 1000000000 + 1000000000 := by have := HM.out; simp; omega
          have hbase : w.heap.size + 2 ≤ u.heap.size := by omega
          have hll5 : (l' ++ ((x.args.zip y.args).drop (r + 1)).reverse).length ≤ 1000000000 := by
            have h0 := HM.out
            have h1 := len_sumP l'
            have h2 := len_le x.args
            have h3 := HSX.out
            have h4 : t.size ≤ 1000000000 := hM
            simp
            omega
          clear hs hap hu hrow hav hgl hll s_1 s_2 s_3 s_4 s_5 s_6 s_7 s_8 s_9 s_10 s_11 s_12 s_13 HCS XRI YRI
          refine rest_lineL 15 17 [_, _] rfl (by kernel_rfl) (by decide) (by decide) (by kernel_rfl) ?_
          simp only [Act.put, List.getElem?_toArray, List.getElem?_cons_succ, List.getElem?_cons_zero, Option.bind_some, List.setIfInBounds_toArray, List.set_cons_succ, List.set_cons_zero, Nat.reduceAdd, s_0, er]
          go_wp2_with (
            (with_reducible show wpList _ _ _ (⟨some 59, _, _, _, _, _⟩ :: _) _ _
             refine wpList_push_pair rfl (.tmp 44) (.tmp 58) rfl (w.heap.size + 2) _ _ _ _ _ _ _ _ _ _ _ xr yr rb _ _ _ rfl HOWN.out rfl HROW.out IX.out IY.out hll5 hbase ?_
             intro v3 w3 hown hb3 hgr hv3
             obtain ⟨g9, c9, e9⟩ := hown.form (by simp; omega)
             subst e9
             have el : (l' ++ ((x.args.zip y.args).drop (r + 1)).reverse ++ [(xr, yr)]) = l' ++ ((x.args.zip y.args).drop r).reverse := by rw [HDR.out, List.reverse_cons, List.append_assoc]
             have en : (l' ++ ((x.args.zip y.args).drop (r + 1)).reverse ++ [(xr, yr)]).length = n5 + 1 := by have h1 := HLEN.out; have h2 := HXL.out; simp; omega
             rw [en] at hown hv3 ⊢
             rw [el] at hown
             have hnew : CpIn w (Lo P P' w.heap.size) s6 x y (some ⟨xb, xo, none⟩) (some ⟨yb, yo, none⟩) xc yc l' r g9 c9 (n5 + 1) w3 := by
               have hne9 : g9 ≠ s6 := fun e => by
                 rcases hv3 g9 rfl with h | h
                 · have : g5 = g9 := Option.some.inj (show some g5 = some g9 from h)
                   exact HNE.out (this.trans e)
                 · omega
               refine ⟨by have h1 := HLEN.out; omega, hown, HBL.out.trans (hb3.mono (by omega)), (hgr.block _ hs6 (fun e => HNE.out (Option.some.inj (show some g5 = some s6 from e.symm)))).trans HBX.out, hne9, ⟨hlow.1, by have := hgr.size; omega⟩, ?_, ?_⟩
               · exact HXI.out.imp (fun _ h => h) fun b h _ => hb3.block b (by have := h.2; omega)
               · exact HYI.out.imp (fun _ h => h) fun b h _ => hb3.block b (by have := h.2; omega)
             have HNEW := Lib.hid hnew
             clear hnew hown hb3 hgr hv3 el en))
          refine then_rest (rest_end (by decide) ?_)
          go_wp2
          go_roundw
          case rel => exact ⟨r, g9, c9, n5 + 1, by omega, rfl, rfl, HNEW.out⟩
          case measure => simp [intOf]
end Go.Proofs.Ytkhchmgdaolojaa.Tms
