
/-
  term.measured, Check, Size and Deep of the program walked.
-/
import Derived.Test.YtibjcfbilkkmkaaWalkM
namespace Go.Proofs.Ytibjcfbilkkmkaa.Tms
open Go Go.RowKit Go.Proofs.Ytibjcfbilkkmkaa.Reg Go.Proofs.Ytibjcfbilkkmkaa.Rws
set_option linter.unusedVariables false

abbrev ms0 : Bool × Int × Int := (false, 0, 0)
theorem meas_len (st : Bool × Int × Int) : ∀ l, (meas st l).2.1 = st.2.1 + l.length := by
  intro l
  induction l generalizing st with
  | nil => simp [meas]
  | cons p l ih => simp only [meas, ih, List.length_cons]; omega
mutual
theorem parts_len : ∀ (d : Int) (t : Tm), (parts d t).length = t.size
  | d, .mk k n s a => by simp [parts, Tm.size, partsL_len (d + 1) a]
theorem partsL_len : ∀ (d : Int) (l : List Tm), (partsL d l).length = sizeL l
  | d, [] => by simp [partsL, sizeL]
  | d, t :: l => by simp [partsL, sizeL, parts_len d t, partsL_len d l]
end
abbrev msO (st : Bool × Int × Int) : Obj := .cells #[.bool st.1, .int .i64 st.2.1, .int .i64 st.2.2] 95 (0, 0)
def msVis (mb : Nat) : Vis where
  Sig := fun D W => W.heap[mb]? = some (msO (meas ms0 D))
  Mine := fun _ _ b => b = mb
  keep := fun {D W W'} h _ hk => ⟨(hk mb (Array.getElem?_eq_some_iff.1 h).1 rfl).trans h, fun _ h => h⟩
  low := fun {D W b} h e => by subst e; exact (Array.getElem?_eq_some_iff.1 h).1

theorem size_measure : (Try.prog.info? 95).map (·.size) = some 3 := by kernel_rfl
/-- what measure is told of a term -/
def msT (t : Tm) : Bool × Int × Int := meas ms0 (parts 1 t)
theorem msT_size (t : Tm) : (msT t).2.1 = t.size := by unfold msT; rw [meas_len, parts_len]; simp
abbrev msV (t : Tm) : Value := .agg #[.bool (msT t).1, .int .i64 (msT t).2.1, .int .i64 (msT t).2.2]

theorem args_le {D rest : List (Tm × Int)} {p : Tm × Int} : ∀ {t : Tm} {d : Int}, parts d t = D ++ p :: rest → p.1.args.length ≤ t.size := by
  have key : ∀ N, (∀ (t : Tm) (d : Int) (p : Tm × Int), t.size ≤ N → p ∈ parts d t → p.1.size ≤ t.size) := by
    intro N
    induction N with
    | zero => intro t d p h; have := size_pos t; omega
    | succ N ih =>
      intro t d p hN hp
      rw [parts_eq] at hp
      rcases List.mem_cons.1 hp with rfl | hp
      · exact Nat.le_refl _
      · have hs : ∀ (l : List (Tm × Int)), p ∈ partsS l → ∃ q ∈ l, p ∈ parts q.2 q.1 := by
          intro l
          induction l with
          | nil => intro h; simp [partsS] at h
          | cons q l ihl =>
            intro h
            rcases List.mem_append.1 h with h | h
            · exact ⟨q, List.mem_cons_self .., h⟩
            · obtain ⟨q', h1, h2⟩ := ihl h
              exact ⟨q', List.mem_cons_of_mem _ h1, h2⟩
        obtain ⟨q, hq, hpq⟩ := hs _ hp
        obtain ⟨y, hy, rfl⟩ := List.mem_map.1 hq
        have h1 := mem_sizeL hy
        have h2 : sizeL t.args + 1 = t.size := by obtain ⟨k1, n1, s1, a1⟩ := t; simp [Tm.size, Tm.args]
        have := ih y _ p (by omega) hpq
        omega
  intro t d h
  have := key _ t d p (Nat.le_refl _) (by rw [h]; simp)
  have h2 : sizeL p.1.args + 1 = p.1.size := by obtain ⟨⟨k1, n1, s1, a1⟩, q⟩ := p; simp [Tm.size, Tm.args]
  have := len_le p.1.args
  omega

theorem tm_measured (t : Tm) (v : Value) (P : Nat → Prop) (w : World) (hM : t.size ≤ 1000000000) (h : IsTm w P v t) :
    Calls Try.prog 45 #[v] w fun e w' => e = .returned (msV t) ∧ Below w.heap.size w w' := by
  have hl := h.lt
  clear h
  obtain ⟨a, c, rfl⟩ := hl.form
  have hw := walk_meas
  have W := Lib.hid hw
  have HL := Lib.hid hl
  clear hw hl
  go_enter Try.func45, Try.ntmps45
  go_wp2_with fail
  have hb : Below w.heap.size w (((w.alloc (.cells #[.int .i64 t.k, .int .i64 t.n, .string t.s, .slice a t.args.length c] 30 (0, 0))).alloc (msO ms0)).alloc (msO ms0)) := (((Below.refl _ _).alloc (Nat.le_refl _) _).alloc (by simp) _).alloc (by simp; omega) _
  have h2 : (((w.alloc (.cells #[.int .i64 t.k, .int .i64 t.n, .string t.s, .slice a t.args.length c] 30 (0, 0))).alloc (msO ms0)).alloc (msO ms0)).heap[w.heap.size + 1]? = some (msO ms0) := (by have := heap_alloc2_old (w.alloc (.cells #[.int .i64 t.k, .int .i64 t.n, .string t.s, .slice a t.args.length c] 30 (0, 0))) (msO ms0) (msO ms0); simpa using this)
  have h3 : (((w.alloc (.cells #[.int .i64 t.k, .int .i64 t.n, .string t.s, .slice a t.args.length c] 30 (0, 0))).alloc (msO ms0)).alloc (msO ms0)).heap[w.heap.size + 1 + 1]? = some (msO ms0) := by have := heap_alloc2_new (w.alloc (.cells #[.int .i64 t.k, .int .i64 t.n, .string t.s, .slice a t.args.length c] 30 (0, 0))) (msO ms0) (msO ms0); simpa using this
  have hz : (((w.alloc (.cells #[.int .i64 t.k, .int .i64 t.n, .string t.s, .slice a t.args.length c] 30 (0, 0))).alloc (msO ms0)).alloc (msO ms0)).heap.size = w.heap.size + 3 := by simp
  generalize ((w.alloc (.cells #[.int .i64 t.k, .int .i64 t.n, .string t.s, .slice a t.args.length c] 30 (0, 0))).alloc (msO ms0)).alloc (msO ms0) = W3 at *
  refine (W.out (msVis (w.heap.size + 1 + 1)) _ t _ _ _ hM (HL.out.below hb) (fun b h e => by have h1 := h.2; have h2 : b = w.heap.size + 1 + 1 := e; omega) h3 ?_).mono ?_
  · intro D p rest va P' W hp hs hi hq h1 h2
    obtain ⟨a', c', rfl⟩ := hi.form
    have hl := parts_len 1 t
    rw [hp] at hl
    simp only [List.length_append, List.length_cons] at hl
    have h0 : (meas ms0 D).2.1 = D.length := by rw [meas_len]; simp
    refine (tm_take (w.heap.size + 1 + 1) (meas ms0 D).1 (meas ms0 D).2.1 (meas ms0 D).2.2 p.2 p.1.k p.1.n p.1.s a' p.1.args.length c' W (by have := args_le hp; omega) (by omega) (by omega) hs).mono ?_
    rintro e w' ⟨rfl, hh, hg⟩
    exact ⟨rfl, by show w'.heap[w.heap.size + 1 + 1]? = some (msO (meas ms0 (D ++ [p]))); rw [meas_app]; exact hh, Keeps.grown hg fun b e => .inl (Option.some.inj e).symm, fun b h => .inl h⟩
  rintro e4 w4 ⟨rfl, hs4, hk4, -⟩
  have hz4 : w4.heap[w.heap.size + 1]? = some (msO ms0) := (hk4.block _ (by omega) (fun e => by have h2 : w.heap.size + 1 = w.heap.size + 1 + 1 := e; omega)).trans h2
  have hb4 : Below w.heap.size w w4 := hb.trans ⟨hk4.os, hk4.tape, hk4.output, hk4.size, fun b hb => hk4.block b (by omega) fun e => by have h2 : b = w.heap.size + 1 + 1 := e; omega⟩
  have y0 : w4.cell? ⟨w.heap.size + 1 + 1, 0, none⟩ = some (.bool (msT t).1) := cell_of_row w4 _ 0 _ _ _ hs4
  have y1 : w4.cell? ⟨w.heap.size + 1 + 1, 1, none⟩ = some (.int .i64 (msT t).2.1) := cell_of_row w4 _ 1 _ _ _ hs4
  have y2 : w4.cell? ⟨w.heap.size + 1 + 1, 2, none⟩ = some (.int .i64 (msT t).2.2) := cell_of_row w4 _ 2 _ _ _ hs4
  have HZ := Lib.hid hz4
  have HB := Lib.hid hb4
  clear hz4 hb4 hs4 hk4 h2 h3 hb hz W HL
  go_wp2_with (refine wpList_store_row rfl 95 (.tmp 2) (.tmp 7) rfl (w.heap.size + 1) #[.bool (msT t).1, .int .i64 (msT t).2.1, .int .i64 (msT t).2.2] rfl rfl _ _ HZ.out size_measure rfl (by simp [Value.oneCell']) ?_)
  have hz := setRow_heap w4 (w.heap.size + 1) _ (#[.bool (msT t).1, .int .i64 (msT t).2.1, .int .i64 (msT t).2.2] : Array Value) _ _ HZ.out
  exact bodyPost_ret (v := msV t) (results_cell_row Try.results45 _ _ (w.heap.size + 1) _ _ _ _ rfl hz Try.underlying95 rfl (by kernel_rfl)) rfl ⟨rfl, HB.out.trans ⟨rfl, rfl, rfl, by simp, fun k hk => setRow_other _ _ _ _ (by omega)⟩⟩

theorem field_ms1 (w : World) (a b c : Value) : (Instr.field 95 (.agg #[a, b, c]) 1).run Try.prog w = .ok b w := by kernel_rfl
theorem field_ms2 (w : World) (a b c : Value) : (Instr.field 95 (.agg #[a, b, c]) 2).run Try.prog w = .ok c w := by kernel_rfl
theorem tm_Size (t : Tm) (v : Value) (P : Nat → Prop) (w : World) (hM : t.size ≤ 1000000000) (h : IsTm w P v t) :
    Calls Try.prog 28 #[v] w fun e w' => e = .returned (.int .i64 t.size) ∧ Below w.heap.size w w' := by
  have hl := h.lt
  clear h
  obtain ⟨a, c, rfl⟩ := hl.form
  have HL := Lib.hid hl
  have hb := (Below.refl w.heap.size w).alloc (Nat.le_refl _) (.cells #[.int .i64 t.k, .int .i64 t.n, .string t.s, .slice a t.args.length c] 30 (0, 0))
  have HB := Lib.hid hb
  have hf := field_ms1
  have hz := msT_size t
  clear hl hb
  go_enter Try.func28, Try.ntmps28
  go_wp2_with (refine (tm_measured t _ _ _ hM (HL.out.below HB.out)).mono ?_; rintro e1 w1 ⟨rfl, hb1⟩; have HB1 := Lib.hid (HB.out.trans (hb1.mono (by simp))); clear hb1)
  go_ret
  exact ⟨rfl, HB1.out⟩
/-- what is wrong with a term -/
def checkT (t : Tm) : Int := if (msT t).1 = true then 2 else if 2000 < (msT t).2.2 then 4 else if 20000 < (msT t).2.1 then 3 else 0
theorem tm_Check (t : Tm) (v : Value) (P : Nat → Prop) (w : World) (hM : t.size ≤ 1000000000) (h : IsTm w P v t) :
    Calls Try.prog 27 #[v] w fun e w' => e = .returned (.int .i64 (checkT t)) ∧ Below w.heap.size w w' := by
  have hl := h.lt
  clear h
  obtain ⟨a, c, rfl⟩ := hl.form
  have HL := Lib.hid hl
  have hb := (Below.refl w.heap.size w).alloc (Nat.le_refl _) (.cells #[.int .i64 t.k, .int .i64 t.n, .string t.s, .slice a t.args.length c] 30 (0, 0))
  have HB := Lib.hid hb
  clear hl hb
  have hc : checkT t = if (msT t).1 = true then 2 else if 2000 < (msT t).2.2 then 4 else if 20000 < (msT t).2.1 then 3 else 0 := rfl
  have hm : ∀ W P, IsTm W P (.agg #[.int .i64 t.k, .int .i64 t.n, .string t.s, .slice a t.args.length c]) t → Calls Try.prog 45 #[.agg #[.int .i64 t.k, .int .i64 t.n, .string t.s, .slice a t.args.length c]] W fun e w' => e = .returned (.agg #[.bool (msT t).1, .int .i64 (msT t).2.1, .int .i64 (msT t).2.2]) ∧ Below W.heap.size W w' := fun W P h => tm_measured t _ _ _ hM h
  have HMS := Lib.hid hm
  clear hm
  generalize (msT t).1 = b at *
  generalize (msT t).2.2 = dp at *
  generalize (msT t).2.1 = sz at *
  rw [hc]
  clear hc
  cases b
  all_goals try (by_cases h1 : 2000 < dp)
  all_goals try (by_cases h2 : 20000 < sz)
  all_goals
    go_enter Try.func27, Try.ntmps27
    go_wp2_with (refine (HMS.out _ _ (HL.out.below HB.out)).mono ?_; rintro e1 w1 ⟨rfl, hb1⟩; have HB1 := Lib.hid (HB.out.trans (hb1.mono (by simp))); clear hb1)
    go_ret
    exact ⟨by simp [*], HB1.out.alloc HB1.out.size _⟩
end Go.Proofs.Ytibjcfbilkkmkaa.Tms
