
/-
  goal.own walked over the program: what it returns reads as what it was given, its topmost Args in a row of the call's own.
-/
import Derived.Test.YtmlceamcpelklaaGnb
namespace Go.Proofs.Ytmlceamcpelklaa.Tms
open Go Go.RowKit Go.Proofs.Ytmlceamcpelklaa.Reg
set_option linter.unusedVariables false

/-- the topmost Args lie in a row of the call's own -/
def TopOwn (B : Nat) (t : Tm) (S : Nat → Prop) (wr : World) : Prop := ∃ a c, wr.cell? ⟨B, 3, none⟩ = some (.slice a t.args.length c) ∧ (t.args ≠ [] → ∃ g, a = some ⟨g, 0, none⟩ ∧ S g)
def Top (B : Nat) (t : Tm) (S : Nat → Prop) (l : List (Nat × Nat × Tm)) (wr : World) : Prop := l = [(B, 0, t)] ∨ TopOwn B t S wr
theorem Top.pop {B : Nat} {t : Tm} {S : Nat → Prop} {l : List (Nat × Nat × Tm)} {x : Nat × Nat × Tm} {wr : World} (h : Top B t S (l ++ [x]) wr) : x = (B, 0, t) ∨ TopOwn B t S wr := by
  rcases h with h | h
  · left
    cases l with
    | nil => simpa using h
    | cons y l => simp at h
  · exact .inr h
theorem top_end {B : Nat} {t : Tm} {S : Nat → Prop} {wr : World} {a : Option Addr} {c : Nat} (h : Top B t S [] wr) (x3 : wr.cell? ⟨B, 3, none⟩ = some (.slice a t.args.length c)) : t.args ≠ [] → ∃ g, a = some ⟨g, 0, none⟩ ∧ S g := by
  rcases h with h | ⟨a', c', h1, h2⟩
  · cases h
  · rw [x3] at h1
    simp only [Option.some.injEq, Value.slice.injEq, true_and] at h1
    obtain ⟨rfl, -⟩ := h1
    exact h2
theorem top_nil {B xb xo : Nat} {t : Tm} {S : Nat → Prop} {wr : World} {xk xn : Int} {xs : ByteArray} {ba : Option Addr} {bc : Nat} (h : (xb, xo, Tm.mk xk xn xs []) = (B, 0, t) ∨ TopOwn B t S wr) (x3 : wr.cell? ⟨xb, xo + 3, none⟩ = some (.slice ba 0 bc)) :
    TopOwn B t S (wr.setCell ⟨xb, xo + 3, none⟩ (.slice none 0 0)) := by
  have hsame : xb = B → xo = 0 → t.args = [] → TopOwn B t S (wr.setCell ⟨xb, xo + 3, none⟩ (.slice none 0 0)) := by
    rintro rfl rfl ht
    exact ⟨none, 0, by rw [ht]; exact cell_setCell_eq x3, fun h => absurd ht h⟩
  rcases h with h | ⟨a, c, h1, h2⟩
  · simp only [Prod.mk.injEq] at h
    obtain ⟨rfl, rfl, rfl⟩ := h
    exact hsame rfl rfl rfl
  · by_cases e : B = xb ∧ 3 = xo + 3
    · obtain ⟨rfl, e2⟩ := e
      obtain rfl : xo = 0 := by omega
      rw [x3] at h1
      simp only [Option.some.injEq, Value.slice.injEq] at h1
      exact hsame rfl rfl (List.eq_nil_of_length_eq_zero h1.2.1.symm)
    · exact ⟨a, c, by rw [cell_setCell_ne e]; exact h1, h2⟩
theorem top_turn {B xb xo g2 : Nat} {t : Tm} {S : Nat → Prop} {wr w2 : World} {xk xn : Int} {xs : ByteArray} {xa : List Tm} {ba : Option Addr} {bc m : Nat} (h : (xb, xo, Tm.mk xk xn xs xa) = (B, 0, t) ∨ TopOwn B t S wr) (hw : w2.cell? ⟨B, 3, none⟩ = wr.cell? ⟨B, 3, none⟩)
    (x3 : w2.cell? ⟨xb, xo + 3, none⟩ = some (.slice ba xa.length bc)) (hm : m = xa.length) : TopOwn B t (fun b => S b ∨ b = g2) (w2.setCell ⟨xb, xo + 3, none⟩ (.slice (some ⟨g2, 0, none⟩) m m)) := by
  subst hm
  have hsame : xb = B → xo = 0 → t.args.length = xa.length → TopOwn B t (fun b => S b ∨ b = g2) (w2.setCell ⟨xb, xo + 3, none⟩ (.slice (some ⟨g2, 0, none⟩) xa.length xa.length)) := by
    rintro rfl rfl ht
    exact ⟨_, _, by rw [ht]; exact cell_setCell_eq x3, fun _ => ⟨g2, rfl, .inr rfl⟩⟩
  rcases h with h | ⟨a, c, h1, h2⟩
  · simp only [Prod.mk.injEq] at h
    obtain ⟨rfl, rfl, rfl⟩ := h
    exact hsame rfl rfl rfl
  · by_cases e : B = xb ∧ 3 = xo + 3
    · obtain ⟨rfl, e2⟩ := e
      obtain rfl : xo = 0 := by omega
      rw [← hw, x3] at h1
      simp only [Option.some.injEq, Value.slice.injEq] at h1
      exact hsame rfl rfl h1.2.1.symm
    · exact ⟨a, c, by rw [cell_setCell_ne e, hw]; exact h1, fun h => let ⟨g, e1, e2⟩ := h2 h; ⟨g, e1, .inl e2⟩⟩
theorem top_push {t : Tm} {P S : Nat → Prop} {w : World} {B : Nat} {l : List (Nat × Nat × Tm)} {wr w' : World} {g cap n : Nat} {x : Value} (hs : Stack B g cap n l wr) (h : OwnInv t P S w B l wr) (ht : TopOwn B t S wr)
    (hg : (wr.alloc (.cells #[x] 155 (0, 0))).grownBy w' (some g)) : TopOwn B t S w' := by
  obtain ⟨cg, hcg, hBg⟩ := hs.blk
  obtain ⟨-, -, cur, hc⟩ := h.mine B h.root.1
  have hlt := (Array.getElem?_eq_some_iff.1 hc).1
  have hk : w'.heap[B]? = wr.heap[B]? := (hg.block B (by simp; omega) fun e => by
    cases e
    rw [hcg] at hc
    simp at hc).trans (heap_alloc_old _ _ hlt)
  obtain ⟨a, c, h1, h2⟩ := ht
  exact ⟨a, c, (World.cell?_of_block (a := ⟨B, 3, none⟩) hk).trans h1, h2⟩
/-- a row of the program's own, that may be written -/
def PlainG (w : World) (b : Nat) : Prop := ∃ cur, w.heap[b]? = some (.cells cur 27 (0, 0))
/-- a term that the call made: its topmost Args may be written -/
def GowPost (P : Nat → Prop) (t : Tm) (w : World) (e : Ending) (w' : World) : Prop := ∃ a c, e = .returned (.agg #[.int .i64 t.k, .int .i64 t.n, .string t.s, .slice a t.args.length c]) ∧ IsTm w' (fun b => P b ∨ w.heap.size ≤ b) (.agg #[.int .i64 t.k, .int .i64 t.n, .string t.s, .slice a t.args.length c]) t ∧
  (t.args ≠ [] → ∃ g, a = some ⟨g, 0, none⟩ ∧ w.heap.size ≤ g ∧ PlainG w' g) ∧ Below w.heap.size w w'
theorem gow_end {t : Tm} {P S : Nat → Prop} {w wr : World} {l : List (Nat × Nat × Tm)} {a : Option Addr} {c : Nat} {cs : Array Value} (inv : OwnInv t (fun b => P b ∧ b < w.heap.size) S w w.heap.size l wr) (htop : t.args ≠ [] → ∃ g, a = some ⟨g, 0, none⟩ ∧ S g)
    (it : IsTm wr (SP (fun b => P b ∧ b < w.heap.size) S) (.agg #[.int .i64 t.k, .int .i64 t.n, .string t.s, .slice a t.args.length c]) t) :
    GowPost P t w (.returned (.agg #[.int .i64 t.k, .int .i64 t.n, .string t.s, .slice a t.args.length c])) (wr.setRow (w.heap.size + 1) cs) := by
  obtain ⟨v, e, h1, h2⟩ := own_end (cs := cs) inv it
  obtain rfl := Ending.returned.inj e
  refine ⟨a, c, rfl, h1, fun h => ?_, h2⟩
  obtain ⟨g, e1, e2⟩ := htop h
  obtain ⟨h3, h4, cur, h5⟩ := inv.mine g e2
  exact ⟨g, e1, h3, cur, (setRow_other _ _ _ _ h4).trans h5⟩

def GowRel (t : Tm) (P : Nat → Prop) (w : World) (B k : Nat) (v3 : Value) (wr : World) : Prop :=
  ∃ (S : Nat → Prop) (l : List (Nat × Nat × Tm)) (g cap n : Nat), v3 = .slice (some ⟨g, 0, none⟩) n cap ∧ Stack B g cap n l wr ∧ OwnInv t P S w B l wr ∧ Top B t S l wr ∧ sumSz l ≤ k ∧ k ≤ t.size

theorem gow_start (t : Tm) (P : Nat → Prop) (w : World) (a : Option Addr) (cap : Nat) (h : IsTm w P (.agg #[.int .i64 t.k, .int .i64 t.n, .string t.s, .slice a t.args.length cap]) t) (hP : ∀ b, P b → b < w.heap.size) :
    GowRel t P w w.heap.size t.size (.slice (some ⟨w.heap.size + 1 + 1, 0, none⟩) 1 1) (((w.alloc (.cells #[.int .i64 t.k, .int .i64 t.n, .string t.s, .slice a t.args.length cap] 27 (0, 0))).alloc
      (.cells #[.int .i64 0, .int .i64 0, .string ⟨#[]⟩, .slice none 0 0] 27 (0, 0))).alloc (.cells #[.pointer (some ⟨w.heap.size, 0, none⟩)] 155 (0, 0))) := by
  generalize hw1 : w.alloc (.cells #[.int .i64 t.k, .int .i64 t.n, .string t.s, .slice a t.args.length cap] 27 (0, 0)) = w1
  have s1 : w1.heap.size = w.heap.size + 1 := by rw [← hw1]; simp
  have b1 : Below w.heap.size w w1 := by rw [← hw1]; exact (Below.refl _ _).alloc (Nat.le_refl _) _
  have r1 : w1.heap[w.heap.size]? = some (.cells #[.int .i64 t.k, .int .i64 t.n, .string t.s, .slice a t.args.length cap] 27 (0, 0)) := by rw [← hw1]; exact heap_alloc_new _ _
  generalize hw2 : w1.alloc (.cells #[.int .i64 0, .int .i64 0, .string ⟨#[]⟩, .slice none 0 0] 27 (0, 0)) = w2
  have s2 : w2.heap.size = w.heap.size + 2 := by rw [← hw2]; simp [s1]
  have b2 : Below w1.heap.size w1 w2 := by rw [← hw2]; exact (Below.refl _ _).alloc (Nat.le_refl _) _
  have r2 : w2.heap[w.heap.size + 1]? = some (.cells #[.int .i64 0, .int .i64 0, .string ⟨#[]⟩, .slice none 0 0] 27 (0, 0)) := by rw [← hw2, ← s1]; exact heap_alloc_new _ _
  generalize hw3 : w2.alloc (.cells #[.pointer (some ⟨w.heap.size, 0, none⟩)] 155 (0, 0)) = w3
  have s3 : w3.heap.size = w.heap.size + 3 := by rw [← hw3]; simp [s2]
  have b3 : Below w2.heap.size w2 w3 := by rw [← hw3]; exact (Below.refl _ _).alloc (Nat.le_refl _) _
  have b03 : Below w.heap.size w w3 := b1.trans ((b2.mono (by omega)).trans (b3.mono (by omega)))
  have r13 : w3.heap[w.heap.size]? = some (.cells #[.int .i64 t.k, .int .i64 t.n, .string t.s, .slice a t.args.length cap] 27 (0, 0)) := (b3.block _ (by omega)).trans ((b2.block _ (by omega)).trans r1)
  have h3 : IsTm w3 (SP P fun b => b = w.heap.size) (.agg #[.int .i64 t.k, .int .i64 t.n, .string t.s, .slice a t.args.length cap]) t := h.imp (fun _ h => .inl h) fun b _ hlt => b03.block b hlt
  have root : TmAt w3 (SP P fun b => b = w.heap.size) w.heap.size 0 t := TmAt.mk' (cell_of_row w3 _ _ _ _ _ r13) (cell_of_row w3 _ _ _ _ _ r13) (cell_of_row w3 _ _ _ _ _ r13) (cell_of_row w3 _ _ _ _ _ r13) h3.args
  refine ⟨fun b => b = w.heap.size, [(w.heap.size, 0, t)], w.heap.size + 1 + 1, 1, 1, rfl, ⟨rfl, ?_⟩, ⟨?_, hP, ⟨rfl, root⟩, ?_, b03, (b3.block _ (by omega)).trans r2⟩, .inl rfl, by simp [sumSz], Nat.le_refl _⟩
  · rw [← hw3, show w.heap.size + 1 + 1 = w2.heap.size by omega]
    exact World.ownsRow_lit w2 _ 1 (by omega) (by decide) rfl
  · rintro b rfl
    exact ⟨by omega, by omega, _, r13⟩
  · intro x hx
    simp only [List.mem_singleton] at hx
    subst hx
    exact ⟨rfl, root⟩

def GinRel (t : Tm) (P : Nat → Prop) (w : World) (B : Nat) (S : Nat → Prop) (l0 : List (Nat × Nat × Tm)) (xa : List Tm) (g2 : Nat) (v3 c : Value) (wr : World) : Prop :=
  ∃ (l : List (Nat × Nat × Tm)) (g cap n j : Nat), c = .int .i64 j ∧ j ≤ xa.length ∧ v3 = .slice (some ⟨g, 0, none⟩) n cap ∧ Stack B g cap n l wr ∧ OwnInv t P S w B l wr ∧ TopOwn B t S wr ∧ (∀ i (hi : i < xa.length), TmAt wr (SP P S) g2 (i * 4) xa[i]) ∧ S g2 ∧ sumSz l = sumSz l0 + sizeL (xa.take j)

set_option maxHeartbeats 1600000 in
theorem goal_own (t : Tm) (v : Value) (P : Nat → Prop) (w : World) (hM : t.size ≤ 1000000000) (h : IsTm w P v t) :
    Calls Try.prog 61 #[v] w (GowPost P t w) := by
  have hl := h.lt
  clear h
  obtain ⟨a, cap, rfl⟩ := hl.form
  have hst := gow_start t _ w a cap hl fun b h => h.2
  have HST := Lib.hid hst
  clear hl hst
  go_enter Try.func61, Try.ntmps61
  go_wp2
  go_loopg [3] t.size (fun k v3 wr => GowRel t (fun b => P b ∧ b < w.heap.size) w w.heap.size k v3 wr)
  case atStart => exact HST.out
  case round =>
    obtain ⟨S, l, g, cp, n, rfl, hst, inv, htop, hk, hkt⟩ := hrel
    clear HST
    rcases nil_or_snoc l with rfl | ⟨l', x, rfl⟩
    · obtain rfl : n = 0 := hst.len.symm
      have hread := inv.root.2.read
      have hres := inv.res
      have INV := Lib.hid inv
      have HRES := Lib.hid hres
      obtain ⟨a', c', x0, x1, x2, x3, it, hlt⟩ := hread
      have HTOP := Lib.hid (top_end htop x3)
      clear htop
      have IT := Lib.hid it
      clear inv hres it hst
      go_wp2_with (refine wpList_store_row rfl 27 (.tmp 2) (.tmp 59) rfl (w.heap.size + 1) #[.int .i64 t.k, .int .i64 t.n, .string t.s, .slice a' t.args.length c'] rfl rfl _ _ HRES.out size_term rfl (one4 _ _ _ _ _ _) ?_)
      have hz := setRow_heap wr (w.heap.size + 1) _ (#[.int .i64 t.k, .int .i64 t.n, .string t.s, .slice a' t.args.length c'] : Array Value) _ _ HRES.out
      refine bodyPost_ret (v := .agg #[.int .i64 t.k, .int .i64 t.n, .string t.s, .slice a' t.args.length c']) (results_cell_row Try.results61 _ _ (w.heap.size + 1) _ _ _ _ rfl hz Try.underlying27 rfl (by kernel_rfl)) rfl (gow_end INV.out HTOP.out IT.out)
    · have em : (l' ++ [x]).map ptrOf = l'.map ptrOf ++ [ptrOf x] := by simp
      obtain ⟨hn, hown⟩ := hst
      obtain ⟨m, rfl⟩ : ∃ m, n = m + 1 := ⟨l'.length, by rw [← hn]; simp⟩
      have hm : l'.length = m := by simpa using hn
      rw [em] at hown
      obtain ⟨hown', hcell, hcap, -⟩ := owns_pop hown
      have hstk : Stack w.heap.size g cp m l' wr := ⟨hm, hown'⟩
      obtain ⟨hSx, hx⟩ := inv.items x (by simp)
      have hsum : sumSz l' + x.2.2.size ≤ gk := by have := sumSz_app l' [x]; simp only [sumSz] at this; omega
      have htp := htop.pop
      clear htop
      obtain ⟨xb, xo, xt⟩ := x
      obtain ⟨xk, xn, xs, xa⟩ := xt
      dsimp only at hcell hSx hx hsum
      have hread := hx.read
      obtain ⟨ba, bc, x0, x1, x2, x3, it, hlt⟩ := hread
      obtain ⟨hSB, hS1, cur, hcur⟩ := inv.mine xb hSx
      have hfz := frozen_of_row wr xb (xo + 3) cur _ hcur
      simp only [Tm.k, Tm.n, Tm.s, Tm.args] at x0 x1 x2 x3 it
      have hmb : m + 1 ≤ 1000000000 := by have := len_sumSz l'; have := size_pos (.mk xk xn xs xa); omega
      have hxb : xa.length ≤ 1000000000 := by have := len_le xa; simp only [Tm.size] at hsum; omega
      have hgk : 0 < gk := by have := size_pos (.mk xk xn xs xa); omega
      have HTP := Lib.hid htp
      have HSR := Lib.hid inv.root
      clear htp
      have INV := Lib.hid inv.less
      have HA := Lib.hid (show IsSl wr (SP (fun b => P b ∧ b < w.heap.size) S) (.slice ba xa.length bc) xa from it.args)
      have HST := Lib.hid hstk
      have HS := Lib.hid hsum
      have HSX := Lib.hid hSx
      have hB1 : w.heap.size + 1 < wr.heap.size := (Array.getElem?_eq_some_iff.1 inv.res).1
      have HC := Lib.hid hcur
      clear inv it hx hown hown' em hn hcur hm hstk hsum hSx hk
      by_cases hz : xa.length = 0
      · obtain rfl : xa = [] := List.eq_nil_of_length_eq_zero hz
        simp only [List.length_nil] at x3
        have hturn := (INV.out.turn (c2 := 0) (us := []) HSX.out x3 rfl (argsFrom_mk (by simp)) (argsFrom_mk (a := none) (by simp))).1
        have HT := Lib.hid hturn
        have HTT := Lib.hid (top_nil HTP.out x3)
        clear hturn hz
        go_wp2
        go_roundg (gk - 1)
        case measure => omega
        case rel =>
          have hs := HS.out
          simp only [Tm.size] at hs
          exact ⟨S, l', g, cp, m, rfl, HST.out.other ⟨cur, HC.out⟩ _, HT.out, .inr HTT.out, by omega, by omega⟩
      · obtain ⟨bb, oo, rfl⟩ : ∃ bb oo, ba = some ⟨bb, oo, none⟩ := by obtain ⟨b, o, e, -⟩ := HA.out.at 0 (Nat.pos_of_ne_zero hz); exact ⟨b, o, e⟩
        obtain ⟨i0, hi, hz0, hz1, hz2⟩ := info_parts info_term
        have hat : ∀ i (hi : i < xa.length), SP (fun b => P b ∧ b < w.heap.size) S bb ∧ TmAt wr (SP (fun b => P b ∧ b < w.heap.size) S) bb (oo + i * 4) xa[i] := fun i hi => by
          obtain ⟨b, o, e, hp, ht⟩ := HA.out.at i hi
          simp only [Option.some.injEq, Addr.mk.injEq, and_true] at e
          obtain ⟨rfl, rfl⟩ := e
          exact ⟨hp, ht⟩
        have HAT := Lib.hid hat
        have HLT := Lib.hid (show w.heap.size < wr.heap.size by omega)
        clear hat
        have hz' : ((xa.length : Int) == 0) = false := by rw [beq_eq_false_iff_ne]; omega
        go_wp2_with (first
          | (at_make; refine wpList_make_full _ rfl (.tmp 35) (.tmp 35) 25 rfl wr.heap.size 27 i0 _ 4 Try.underlying25 hi hz0 hz1 .i64 .i64 _ _ xa.length rfl rfl rfl rfl (by rw [hz2]; omega) (by unfold maxLen; omega) (Nat.le_refl _) ?_
             intro w1 hown1 hgrow1
             obtain ⟨row, hrow, hrs⟩ := own_row hown1
             have hb1 : Below wr.heap.size wr w1 := (Below.refl _ _).grown hgrow1 (Nat.le_refl _) (by simp)
             have hl1 : wr.heap.size < w1.heap.size := (Array.getElem?_eq_some_iff.1 hrow).1
             have X3 := Lib.hid x3
             have x3 : w1.cell? ⟨xb, xo + 3, none⟩ = some (.slice (some ⟨bb, oo, none⟩) xa.length bc) := (hb1.cell (p := ⟨xb, xo + 3, none⟩) hlt).trans x3
             have HAT1 : Hid (∀ i (hi : i < xa.length), TmAt w1 (SP (fun b => P b ∧ b < w.heap.size) S) bb (oo + i * 4) xa[i]) := Lib.hid fun i hi => (HAT.out i hi).2.imp (fun _ h => h) (fun b _ h => hb1.block b h) _ _ _ (HAT.out i hi).1
             obtain ⟨cs, hcl, hcc, hc1⟩ := row_cells HAT1.out
             have HROW := Lib.hid hrow
             have HRS := Lib.hid hrs
             have HB1 := Lib.hid hb1
             have HCL := Lib.hid hcl
             have HCC := Lib.hid hcc
             have HC1 := Lib.hid hc1
             clear hrow hrs hb1 hown1 hgrow1 hcl hcc hc1)
          | (with_reducible show wpList _ _ _ (⟨some 42, _, _, _, _, _⟩ :: _) _ _; go_loud (refine wpList_copy_all (o := ⟨some 42, _, _, _, _, _⟩) rfl (.tmp 37) (.tmp 41) 25 25 rfl 27 4 xa.length wr.heap.size _ _ ⟨bb, oo, none⟩ Try.underlying25 size_term rfl rfl _ _ cs HROW.out HCL.out HRS.out (fun j v h => by rw [Addr.add_lit]; exact HCC.out j v h) HC1.out ?_)
             have hg2 := setRow_heap w1 wr.heap.size _ cs.toArray _ _ HROW.out
             have hb2 : Below wr.heap.size wr (w1.setRow wr.heap.size cs.toArray) := below_setRow HB1.out (Nat.le_refl _) _
             have HAT2 := Lib.hid (copied (P' := SP (fun b => P b ∧ b < w.heap.size) (fun b => S b ∨ b = wr.heap.size)) HAT1.out HCL.out HCC.out hg2 (fun b h => h.elim .inl fun h => .inr (.inl h)) (fun b h hb => setRow_other _ _ _ _ (by
               rcases h with h | h
               · have := h.2; have := HLT.out; omega
               · have := (INV.out.mine b h).2.2; obtain ⟨c, e⟩ := this; have := (Array.getElem?_eq_some_iff.1 e).1; omega)))
             have inv2 := INV.out.new hb2 hB1 hg2
             have hst2 := HST.out.keep hb2
             have hlt2 : wr.heap.size < (w1.setRow wr.heap.size cs.toArray).heap.size := by simp; omega
             have hcur2 : (w1.setRow wr.heap.size cs.toArray).heap[xb]? = some (.cells cur 27 (0, 0)) := (hb2.block _ hlt).trans HC.out
             have x32 : (w1.setRow wr.heap.size cs.toArray).cell? ⟨xb, xo + 3, none⟩ = some (.slice (some ⟨bb, oo, none⟩) xa.length bc) := (hb2.cell (p := ⟨xb, xo + 3, none⟩) hlt).trans X3.out
             have hfz2 : (w1.setRow wr.heap.size cs.toArray).frozen? ⟨xb, xo + 3, none⟩ = false := frozen_of_row _ xb (xo + 3) cur _ hcur2
             clear x3 hl1
             generalize w1.setRow wr.heap.size cs.toArray = w2 at *
             have INV2 := Lib.hid inv2
             have HST2 := Lib.hid hst2
             have HCUR2 := Lib.hid hcur2
             have HG2 := Lib.hid hg2
             have HB2 := Lib.hid hb2
             clear inv2 hst2 hcur2 hg2 hb2 hfz hlt2 x0 x1 x2))
        have old2 : ArgsFrom w2 (SP (fun b => P b ∧ b < w.heap.size) (fun b => S b ∨ b = wr.heap.size)) (some ⟨bb, oo, none⟩) 0 xa := argsFrom_mk fun i hi =>
          ⟨bb, oo, rfl, (HAT.out i hi).1.elim .inl fun h => .inr (.inl h), (HAT.out i hi).2.imp (fun b h => h.elim .inl fun h => .inr (.inl h)) (fun b _ h => HB2.out.block b h) _ _ _ (HAT.out i hi).1⟩
        have new2 : ArgsFrom w2 (SP (fun b => P b ∧ b < w.heap.size) (fun b => S b ∨ b = wr.heap.size)) (some ⟨wr.heap.size, 0, none⟩) 0 xa := argsFrom_mk fun i hi => ⟨wr.heap.size, 0, rfl, .inr (.inr rfl), by rw [Nat.zero_add]; exact HAT2.out i hi⟩
        obtain ⟨inv3, rd3⟩ := INV2.out.turn (c2 := xa.length) (g := xb) (.inl HSX.out) x32 rfl old2 new2
        have htop3 := top_turn (g2 := wr.heap.size) HTP.out (HB2.out.cell (p := ⟨w.heap.size, 3, none⟩) HLT.out) x32 rfl
        have hst3 := HST2.out.other (b := xb) (q := xo + 3) ⟨cur, HCUR2.out⟩ (.slice (some ⟨wr.heap.size, 0, none⟩) xa.length xa.length)
        have hin3 : GinRel t (fun b => P b ∧ b < w.heap.size) w w.heap.size (fun b => S b ∨ b = wr.heap.size) l' xa wr.heap.size (.slice (some ⟨g, 0, none⟩) m cp) (.int .i64 ((0 : Nat) : Int)) (w2.setCell ⟨xb, xo + 3, none⟩ (.slice (some ⟨wr.heap.size, 0, none⟩) xa.length xa.length)) :=
          ⟨l', g, cp, m, 0, rfl, by omega, rfl, hst3, inv3, htop3, fun i hi => rd3 _ _ _ (HAT2.out i hi), .inr rfl, by simp [sizeL]⟩
        have HIN := Lib.hid hin3
        clear old2 new2 inv3 rd3 hst3 htop3 hin3 x32 hfz2 hcell hz x3
        generalize w2.setCell ⟨xb, xo + 3, none⟩ (.slice (some ⟨wr.heap.size, 0, none⟩) xa.length xa.length) = w3 at *
        clear HA HAT X3 HAT1 HROW HRS HB1 HCL HCC HC1 HAT2 INV2 HST2 HCUR2 HG2 HB2 INV HST HC hi hz0 hz1 hz2
        generalize wr.heap.size = g2 at *
        go_loopw [3, 49] (fun v3 c w4 => GinRel t (fun b => P b ∧ b < w.heap.size) w w.heap.size (fun b => S b ∨ b = g2) l' xa g2 v3 c w4) (fun _ c _ => xa.length - (intOf c).toNat)
        case atStart => exact HIN.out
        case round =>
          obtain ⟨l4, g4, cp4, n4, j, rfl, hj, rfl, hst4, inv4, htop4, hat4, hs4, hsum4⟩ := hrel
          have HTOP4 := Lib.hid htop4
          clear HIN
          have HST4 := Lib.hid hst4
          have HAT4 := Lib.hid hat4
          have hB4 : w.heap.size + 1 < wr.heap.size := (Array.getElem?_eq_some_iff.1 inv4.res).1
          have hn4 : n4 ≤ 1000000000 := by
            have h1 := hst4.len
            have h2 := len_sumSz l4
            have h3 := sizeL_take xa j
            have h4 := HS.out
            simp only [Tm.size] at h4
            omega
          have INV4 := Lib.hid inv4
          have HSUM4 := Lib.hid hsum4
          clear hst4 inv4 htop4 hat4 hsum4
          by_cases hjn : j < xa.length
          · obtain ⟨i1, hi1, hw0, hw1, hw2⟩ := info_parts info_ptr
            have hjn' : (j : Int) < (xa.length : Int) := by omega
            have hj0 : (0 : Int) ≤ (j : Int) := by omega
            go_wp2_with (
              (at_builtin; refine wpList_append_own _ rfl (.tmp 52) (.tmp 56) 156 rfl w.heap.size 155 i1 (.pointer none) 1 8 Try.underlying156 hi1 hw0 hw1 hw2 rfl (by decide) _ n4 (l4.map ptrOf) rfl (HST4.out.owns.alloc _) ⟨wr.heap.size, 0, none⟩ 1 1 [ptrOf (g2, j * 4, xa[j])] rfl rfl (one_news wr _ _) (by simp [Value.oneCell']) (by unfold maxLen; omega) (by omega) (by simp; omega) ?_
               intro v5 w5 hown5 hgr5 _
               obtain ⟨g5, cp5, rfl, hst5, inv5, rd5⟩ := own_push HST4.out INV4.out hs4 (HAT4.out j hjn) hown5 hgr5
               have HTOP5 := Lib.hid (top_push HST4.out INV4.out HTOP4.out hgr5)
               have HST5 := Lib.hid hst5
               have INV5 := Lib.hid inv5
               have RD5 := Lib.hid rd5
               clear hst5 inv5 rd5 hown5 hgr5))
            go_roundw
            case rel => exact ⟨_, g5, cp5, n4 + 1, j + 1, by go_num, by omega, rfl, HST5.out, INV5.out, HTOP5.out, fun i hi => RD5.out _ _ _ hs4 (HAT4.out i hi), hs4, by have h1 := sumSz_app l4 [(g2, j * 4, xa[j])]; have h2 := sizeL_succ xa j hjn; have h3 := HSUM4.out; simp only [sumSz] at h1; omega⟩
            case measure => simp [intOf]; omega
          · obtain rfl : j = xa.length := by omega
            go_wp2
            go_roundg (gk - 1)
            case measure => omega
            case rel =>
              have hs := HS.out
              have hs4 := HSUM4.out
              rw [List.take_length] at hs4
              simp only [Tm.size] at hs
              exact ⟨_, l4, g4, cp4, n4, rfl, HST4.out, INV4.out, .inr HTOP4.out, by omega, by omega⟩

end Go.Proofs.Ytmlceamcpelklaa.Tms
