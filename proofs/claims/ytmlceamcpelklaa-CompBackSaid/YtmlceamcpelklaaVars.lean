
/-
  term.seen's take, and term.Vars, of the program walked.
-/
import Derived.Test.YtmlceamcpelklaaSeen
import Derived.Test.YtmlceamcpelklaaWalkS
namespace Go.Proofs.Ytmlceamcpelklaa.Tms
open Go Go.RowKit Go.Proofs.Ytmlceamcpelklaa.Reg Go.Proofs.Ytmlceamcpelklaa.Rws
set_option linter.unusedVariables false

def takeL (L : List Int) (p : Tm × Int) : List Int := if p.1.k = 1 then numL L p.1.n else L
theorem seen_take (base mb mm : Nat) (L : List Int) (t : Tm) (d : Int) (v : Value) (P : Nat → Prop) (w : World) (hL : L.length ≤ 1000000000) (h : SeenAt base mb mm L w) (ht : IsTm w P v t) :
    Calls Try.prog 69 #[.pointer (some ⟨mb, 0, none⟩), v, .int .i64 d] w fun e w' => e = .returned (.tuple #[]) ∧ Told base mb mm (takeL L (t, d)) w w' := by
  obtain ⟨a, c, rfl⟩ := ht.form
  have hba : Below w.heap.size w (w.alloc (.cells #[.int .i64 t.k, .int .i64 t.n, .string t.s, .slice a t.args.length c] 27 (0, 0))) := (Below.refl _ _).alloc (Nat.le_refl _) _
  have hk := h.keep hba.size fun b hb _ => hba.block b hb
  have HK := Lib.hid hk
  have HBA := Lib.hid hba
  clear hba hk ht h
  by_cases h1 : t.k = 1
  · have hq : (t.k == 1) = true := by simpa using h1
    have ht : takeL L (t, d) = numL L t.n := by simp [takeL, h1]
    rw [ht]
    clear h1 ht
    go_enter Try.func69, Try.ntmps69
    go_wp2_with (refine (seen_number base mb mm L t.n _ hL HK.out.1).mono ?_; rintro e2 w2 ⟨rfl, h2⟩; have H2 := Lib.hid h2; clear h2)
    refine ⟨rfl, .tuple #[], by simp [results, Try.results69, go_sem], rfl, H2.out.1, (Keeps.of HBA.out (M := SeenMine mb mm w)).trans H2.out.2.1 fun b hb => .inl (HK.out.2 b hb), fun b hb => ?_⟩
    rcases H2.out.2.2 b hb with h | h
    · exact .inl (HK.out.2 b h)
    · exact .inr (by have := HBA.out.size; omega)
  · have hq : (t.k == 1) = false := by simpa using h1
    have ht : takeL L (t, d) = L := by simp [takeL, h1]
    rw [ht]
    clear h1 ht
    go_enter Try.func69, Try.ntmps69
    go_wp2
    exact ⟨rfl, .tuple #[], by simp [results, Try.results69, go_sem], rfl, HK.out.1, Keeps.of HBA.out, fun b hb => .inl (HK.out.2 b hb)⟩

/-- the variables' numbers, as they come -/
def varsD (D : List (Tm × Int)) : List Int := D.foldl takeL []
def varsT (t : Tm) : List Int := varsD (parts 1 t)
theorem numL_len (L : List Int) (n : Int) : (numL L n).length ≤ L.length + 1 := by unfold numL; split <;> simp
theorem varsD_len (D : List (Tm × Int)) : (varsD D).length ≤ D.length := by
  have key : ∀ (D : List (Tm × Int)) (L : List Int), (D.foldl takeL L).length ≤ L.length + D.length := by
    intro D
    induction D with
    | nil => intro L; simp
    | cons p D ih =>
      intro L
      rw [List.foldl_cons]
      have h1 := ih (takeL L p)
      have h2 : (takeL L p).length ≤ L.length + 1 := by unfold takeL; split; exact numL_len _ _; omega
      simp only [List.length_cons]
      omega
  have := key D []
  simpa [varsD] using this
theorem varsD_snoc (D : List (Tm × Int)) (p : Tm × Int) : varsD (D ++ [p]) = takeL (varsD D) p := by simp [varsD]
def seenVis (base mb mm : Nat) : Vis where
  Sig := fun D W => SeenAt base mb mm (varsD D) W
  Mine := fun _ W b => SeenMine mb mm W b
  keep := fun h hs hk => h.keep hs hk
  low := fun h hb => h.low hb

/-- a slice of numbers -/
def IntSl (w : World) (P : Nat → Prop) (v : Value) (L : List Int) : Prop := ∃ a cap, v = .slice a L.length cap ∧ L.length ≤ cap ∧ cap ≤ maxLen ∧ ∀ i (h : i < L.length), ∃ b off, a = some ⟨b, off, none⟩ ∧ P b ∧ b < w.heap.size ∧ w.cell? ⟨b, off + i, none⟩ = some (.int .i64 L[i])
theorem IntSl.below {w w' : World} {P : Nat → Prop} {v : Value} {L : List Int} (h : IntSl w P v L) (hb : Below w.heap.size w w') : IntSl w' P v L := by
  obtain ⟨a, cap, e, h1, h2, h3⟩ := h
  refine ⟨a, cap, e, h1, h2, fun i hi => ?_⟩
  obtain ⟨b, off, e, hp, hl, hc⟩ := h3 i hi
  exact ⟨b, off, e, hp, by have := hb.size; omega, (hb.cell (p := ⟨b, off + i, none⟩) hl).trans hc⟩

theorem each_ints {w : World} {P : Nat → Prop} : ∀ {xss : List (List Value)} {L : List Int}, Each intKind w P xss L → xss.flatten = L.map fun n => Value.int .i64 n
  | [], [], _ => rfl
  | x :: xss, n :: L, h => by
    have h1 : x = [.int .i64 n] := h.1
    rw [List.flatten_cons, each_ints h.2, h1]
    rfl
  | [], _ :: _, h => h.elim
  | _ :: _, [], h => h.elim
theorem SeenRow.ints {w : World} {base mb mm : Nat} {lv : Value} {L : List Int} (h : SeenRow w base mb mm lv L) : IntSl w (fun b => base ≤ b) lv L := by
  rcases h.own.form with ⟨rfl, e⟩ | ⟨g, c, rfl⟩
  · subst e
    exact ⟨none, 0, rfl, by simp, by decide, fun i hi => by simp at hi⟩
  · obtain ⟨xss, h1, h2⟩ := h.own
    have hfl := each_ints h2
    have hlow := h.own.low g rfl
    obtain ⟨-, h0 | ⟨g', cap', cur, e, hb, hg, hc, hm, hsz, ht⟩⟩ := id h1
    · cases h0.1
    · simp only [Value.slice.injEq, Option.some.injEq, Addr.mk.injEq, and_true, true_and] at e
      obtain ⟨rfl, rfl⟩ := e
      refine ⟨_, _, rfl, hc, hm, fun i hi => ⟨g, 0, rfl, hlow.1, hlow.2, ?_⟩⟩
      have h5 := h1.cellAt i (by simpa [intKind] using hi)
      rw [Nat.zero_add, h5, hfl]
      simp [hi]
def varsPost (t : Tm) (w : World) (e : Ending) (w' : World) : Prop := ∃ v, e = .returned v ∧ IntSl w' (fun b => w.heap.size ≤ b) v (varsT t) ∧ Below w.heap.size w w'

theorem vars_start (w : World) (o : Obj) : SeenAt w.heap.size (w.heap.size + 1 + 1) (w.heap.size + 1) [] (((w.alloc o).alloc (.map #[] 0)).alloc (.cells #[.slice none 0 0, .map (some (w.heap.size + 1))] 105 (0, 0))) := by
  refine ⟨.slice none 0 0, by have := heap_alloc2_new (w.alloc o) (.map #[] 0) (.cells #[.slice none 0 0, .map (some (w.heap.size + 1))] 105 (0, 0)); simpa using this, ⟨#[], by have := heap_alloc2_old (w.alloc o) (.map #[] 0) (.cells #[.slice none 0 0, .map (some (w.heap.size + 1))] 105 (0, 0)); simpa using this, rfl⟩, Own.nil _ _ _, by omega, by simp [Value.ownBlock], by simp [Value.ownBlock], by simp; omega⟩
theorem vars_new (w : World) (o : Obj) (b : Nat) (h : SeenMine (w.heap.size + 1 + 1) (w.heap.size + 1) (((w.alloc o).alloc (.map #[] 0)).alloc (.cells #[.slice none 0 0, .map (some (w.heap.size + 1))] 105 (0, 0))) b) : w.heap.size ≤ b := by
  have hr : (((w.alloc o).alloc (.map #[] 0)).alloc (.cells #[.slice none 0 0, .map (some (w.heap.size + 1))] 105 (0, 0))).heap[w.heap.size + 1 + 1]? = some (.cells #[.slice none 0 0, .map (some (w.heap.size + 1))] 105 (0, 0)) := by
    have := heap_alloc2_new (w.alloc o) (.map #[] 0) (.cells #[.slice none 0 0, .map (some (w.heap.size + 1))] 105 (0, 0)); simpa using this
  rcases h with h | h | ⟨lv, hc, h⟩
  · omega
  · omega
  · rw [cell_of_row _ _ 0 _ _ _ hr] at hc
    obtain rfl := Option.some.inj hc
    cases h

theorem tm_Vars (t : Tm) (v : Value) (P : Nat → Prop) (w : World) (hM : t.size ≤ 1000000000) (h : IsTm w P v t) :
    Calls Try.prog 31 #[v] w (varsPost t w) := by
  have hl := h.lt
  clear h
  obtain ⟨a, c, rfl⟩ := hl.form
  have hst := vars_start w (.cells #[.int .i64 t.k, .int .i64 t.n, .string t.s, .slice a t.args.length c] 27 (0, 0))
  have hnew := vars_new w (.cells #[.int .i64 t.k, .int .i64 t.n, .string t.s, .slice a t.args.length c] 27 (0, 0))
  have hb : Below w.heap.size w (((w.alloc (.cells #[.int .i64 t.k, .int .i64 t.n, .string t.s, .slice a t.args.length c] 27 (0, 0))).alloc (.map #[] 0)).alloc (.cells #[.slice none 0 0, .map (some (w.heap.size + 1))] 105 (0, 0))) := (((Below.refl _ _).alloc (Nat.le_refl _) _).alloc (by simp) _).alloc (by simp; omega) _
  have HST := Lib.hid hst
  have HNEW := Lib.hid hnew
  have HB := Lib.hid hb
  have HL := Lib.hid hl
  clear hl hst hnew hb
  go_enter Try.func31, Try.ntmps31
  go_wp2_with (first
    | (refine wpList_makeMap rfl 103 rfl ?_)
    | fail)
  refine (walk_seen (seenVis w.heap.size (w.heap.size + 1 + 1) (w.heap.size + 1)) (.pointer (some ⟨w.heap.size + 1 + 1, 0, none⟩)) t _ _ _ hM (HL.out.below HB.out) (fun b h e => by have h1 := h.2; have h2 := HNEW.out b e; omega) HST.out ?_).mono ?_
  · intro D p rest va P' W hp hs hi hq h1 h2
    have hlen := varsD_len D
    have hpl := parts_len 1 t
    rw [hp] at hpl
    simp only [List.length_append, List.length_cons] at hpl
    refine (seen_take _ _ _ _ p.1 p.2 va P' W (by omega) hs hi).mono ?_
    rintro e w' ⟨rfl, h3, h4, h5⟩
    exact ⟨rfl, by show SeenAt _ _ _ (varsD (D ++ [p])) w'; rw [varsD_snoc]; exact h3, h4, h5⟩
  rintro e4 w4 ⟨rfl, hs4, hk4, hm4⟩
  obtain ⟨lv, hs4⟩ : SeenAt w.heap.size (w.heap.size + 1 + 1) (w.heap.size + 1) (varsT t) w4 := hs4
  have hb4 : Below w.heap.size w w4 := HB.out.trans ⟨hk4.os, hk4.tape, hk4.output, hk4.size, fun b hb => hk4.block b (by have := HB.out.size; omega) fun e => by have := HNEW.out b e; omega⟩
  have y0 : w4.cell? ⟨w.heap.size + 1 + 1, 0, none⟩ = some lv := cell_of_row w4 _ 0 _ _ _ hs4.row
  have HI := Lib.hid hs4.ints
  have HB4 := Lib.hid hb4
  obtain ⟨q, cq, hlv, -⟩ := HI.out
  subst hlv
  clear hs4 hk4 hm4 hb4 HST HNEW HB HL
  go_wp2
  go_ret
  exact ⟨_, rfl, HI.out, HB4.out⟩
end Go.Proofs.Ytmlceamcpelklaa.Tms
