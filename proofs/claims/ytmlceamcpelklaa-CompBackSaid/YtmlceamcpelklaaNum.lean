
/-
  term.Number of the program walked; a copy of a term (rename by same).
-/
import Derived.Test.YtmlceamcpelklaaRenI
import Derived.Test.YtmlceamcpelklaaRenN
namespace Go.Proofs.Ytmlceamcpelklaa.Tms
open Go Go.RowKit Go.Proofs.Ytmlceamcpelklaa.Reg Go.Proofs.Ytmlceamcpelklaa.Rws
set_option linter.unusedVariables false

/-- nothing is kept -/
def noVis : Vis where
  Sig := fun _ _ => True
  Mine := fun _ _ _ => False
  keep := fun _ _ _ => ⟨trivial, fun _ h => h⟩
  low := fun _ h => h.elim
mutual
theorem renT_id : ∀ t : Tm, renT (fun n => n) t = t
  | .mk k n s a => by rw [renT, renL_id a]; simp
theorem renL_id : ∀ l : List Tm, renL (fun n => n) l = l
  | [] => by simp [renL]
  | t :: l => by rw [renL, renT_id t, renL_id l]
end
theorem tm_same (n : Int) (w : World) : Calls Try.prog 101 #[.int .i64 n] w fun e w' => e = .returned (.int .i64 n) ∧ w = w' := by
  go_enter Try.func101, Try.ntmps101
  go_wp2
  go_ret
  exact ⟨rfl, rfl⟩
/-- a copy in memory of its own -/
theorem tm_copy (t : Tm) (v : Value) (P : Nat → Prop) (w : World) (hM : t.size ≤ 1000000000) (h : IsTm w P v t) :
    Calls Try.prog 83 #[v, .func (.func 101) #[] #[]] w (MakesTm (fun _ => False) t w) := by
  refine (ren_same noVis (fun n => n) (.int .i64 0) t v P w hM h (fun _ _ h => h) trivial ?_ ?_).mono ?_
  · intro D p rest W _ _ _
    refine (tm_same p.1.n W).mono ?_
    rintro e w' ⟨rfl, rfl⟩
    exact ⟨rfl, trivial, Keeps.refl _ _, fun _ h => h.elim⟩
  · intro D p W _ _
    exact ⟨trivial, fun _ h => h⟩
  · rintro e w' ⟨v', rfl, hi, -, hk, -⟩
    rw [renT_id] at hi
    exact ⟨v', rfl, hi.imp (fun b h => .inr h.1) fun _ _ _ => rfl, hk.below fun _ h => h⟩

theorem place_app : ∀ {L : List Int} {n : Int} {q : Nat} (M : List Int), place L n = some q → place (L ++ M) n = some q
  | x :: L, n, q, M, h => by
    simp only [List.cons_append]
    unfold place at h ⊢
    split
    · rename_i e; rw [if_pos e] at h; exact h
    · rename_i e
      rw [if_neg e] at h
      cases hp : place L n with
      | none => rw [hp] at h; cases h
      | some p => rw [hp] at h; rw [place_app M hp]; exact h
theorem place_new : ∀ {L : List Int} {n : Int}, place L n = none → place (L ++ [n]) n = some L.length
  | [], n, _ => by simp [place]
  | x :: L, n, h => by
    simp only [List.cons_append]
    unfold place at h ⊢
    split
    · rename_i e; rw [if_pos e] at h; cases h
    · rename_i e
      rw [if_neg e] at h
      cases hp : place L n with
      | none => rw [place_new hp]; rfl
      | some p => rw [hp] at h; cases h
theorem place_num (L : List Int) (n : Int) : place (numL L n) n = some (numP L n) := by
  unfold numL numP
  cases hp : place L n with
  | none => simp [place_new hp]
  | some p => simp [hp]
theorem fold_app : ∀ (D : List (Tm × Int)) (L : List Int), ∃ M, D.foldl takeL L = L ++ M
  | [], L => ⟨[], by simp⟩
  | p :: D, L => by
    obtain ⟨M, h⟩ := fold_app D (takeL L p)
    rw [List.foldl_cons, h]
    unfold takeL numL
    split
    · split
      · exact ⟨M, rfl⟩
      · exact ⟨p.1.n :: M, by simp⟩
    · exact ⟨M, rfl⟩
theorem place_final {D rest : List (Tm × Int)} {p : Tm × Int} (hk : p.1.k = 1) : place (varsD (D ++ p :: rest)) p.1.n = some (numP (varsD D) p.1.n) := by
  have h1 : varsD (D ++ p :: rest) = rest.foldl takeL (takeL (varsD D) p) := by simp [varsD]
  obtain ⟨M, h2⟩ := fold_app rest (takeL (varsD D) p)
  rw [h1, h2]
  refine place_app M ?_
  unfold takeL
  rw [if_pos hk]
  exact place_num _ _
/-- numbered from 0 on, in the order in which they come -/
def numT (t : Tm) : Tm := renT (fun n => (numP (varsT t) n : Int)) t

theorem num_start (w : World) (o o2 : Obj) : SeenAt w.heap.size (w.heap.size + 1 + 1 + 1) (w.heap.size + 1 + 1) [] ((((w.alloc o).alloc o2).alloc (.map #[] 0)).alloc (.cells #[.slice none 0 0, .map (some (w.heap.size + 1 + 1))] 105 (0, 0))) ∧
    (∀ b, SeenMine (w.heap.size + 1 + 1 + 1) (w.heap.size + 1 + 1) ((((w.alloc o).alloc o2).alloc (.map #[] 0)).alloc (.cells #[.slice none 0 0, .map (some (w.heap.size + 1 + 1))] 105 (0, 0))) b → w.heap.size + 2 ≤ b) ∧
    ((((w.alloc o).alloc o2).alloc (.map #[] 0)).alloc (.cells #[.slice none 0 0, .map (some (w.heap.size + 1 + 1))] 105 (0, 0))).heap[w.heap.size + 1]? = some o2 ∧
    ((((w.alloc o).alloc o2).alloc (.map #[] 0)).alloc (.cells #[.slice none 0 0, .map (some (w.heap.size + 1 + 1))] 105 (0, 0))).heap.size = w.heap.size + 4 ∧
    Below w.heap.size w ((((w.alloc o).alloc o2).alloc (.map #[] 0)).alloc (.cells #[.slice none 0 0, .map (some (w.heap.size + 1 + 1))] 105 (0, 0))) := by
  have h1 := vars_start (w.alloc o) o2
  have h2 := vars_new (w.alloc o) o2
  have hsz : (w.alloc o).heap.size = w.heap.size + 1 := by simp
  have hr : ((((w.alloc o).alloc o2).alloc (.map #[] 0)).alloc (.cells #[.slice none 0 0, .map (some (w.heap.size + 1 + 1))] 105 (0, 0))).heap[w.heap.size + 1 + 1 + 1]? = some (.cells #[.slice none 0 0, .map (some (w.heap.size + 1 + 1))] 105 (0, 0)) := by
    have := heap_alloc2_new ((w.alloc o).alloc o2) (.map #[] 0) (.cells #[.slice none 0 0, .map (some (w.heap.size + 1 + 1))] 105 (0, 0)); simpa using this
  rw [hsz] at h1 h2
  obtain ⟨lv, h1⟩ := h1
  refine ⟨⟨lv, { h1 with own := ?_, base := by simp; omega }⟩, fun b hb => ?_, ?_, by simp, ((((Below.refl _ _).alloc (Nat.le_refl _) _).alloc (by simp) _).alloc (by simp; omega) _).alloc (by simp; omega) _⟩
  · obtain ⟨xss, h3, h4⟩ := h1.own
    refine ⟨xss, ⟨h3.1, ?_⟩, h4⟩
    rcases h3.2 with h | ⟨g, cap, cur, e, hb, rest⟩
    · exact .inl h
    · exact .inr ⟨g, cap, cur, e, by omega, rest⟩
  · rcases hb with hb | hb | ⟨lv', hc, hb⟩
    · omega
    · omega
    · rw [cell_of_row _ _ 0 _ _ _ hr] at hc
      obtain rfl := Option.some.inj hc
      cases hb
  · have e1 := heap_alloc_new (w.alloc o) o2
    rw [hsz] at e1
    exact (heap_alloc_old _ _ (by simp)).trans ((heap_alloc_old _ _ (by simp)).trans e1)

/-- a term in memory of its own, that may be written -/
def MakesP (t : Tm) (w : World) (e : Ending) (w' : World) : Prop := ∃ v, e = .returned v ∧ IsTm w' (fun b => w.heap.size ≤ b ∧ Plain w' b) v t ∧ Below w.heap.size w w'
set_option maxHeartbeats 800000 in
theorem tm_NumberP (t : Tm) (v : Value) (P : Nat → Prop) (w : World) (hM : t.size ≤ 1000000000) (h : IsTm w P v t) :
    Calls Try.prog 42 #[v] w (MakesP (numT t) w) := by
  have hl := h.lt
  clear h
  obtain ⟨a, c, rfl⟩ := hl.form
  have hst := num_start w (.cells #[.int .i64 t.k, .int .i64 t.n, .string t.s, .slice a t.args.length c] 27 (0, 0)) (.cells #[.int .i64 0, .int .i64 0, .string ⟨#[]⟩, .slice none 0 0] 27 (0, 0))
  have HST := Lib.hid hst
  have HL := Lib.hid hl
  clear hl hst
  go_enter Try.func42, Try.ntmps42
  go_wp2_with (first
    | (refine wpList_makeMap rfl 103 rfl ?_)
    | fail)
  obtain ⟨h1, h2, h3, h4, h5⟩ := HST.out
  generalize (((w.alloc (.cells #[.int .i64 t.k, .int .i64 t.n, .string t.s, .slice a t.args.length c] 27 (0, 0))).alloc (.cells #[.int .i64 0, .int .i64 0, .string ⟨#[]⟩, .slice none 0 0] 27 (0, 0))).alloc (.map #[] 0)).alloc (.cells #[.slice none 0 0, .map (some (w.heap.size + 1 + 1))] 105 (0, 0)) = W at *
  refine (ren_seen (seenVis w.heap.size (w.heap.size + 1 + 1 + 1) (w.heap.size + 1 + 1)) (fun n => (numP (varsT t) n : Int)) (.pointer (some ⟨w.heap.size + 1 + 1 + 1, 0, none⟩)) t _ _ _ hM (HL.out.below h5) (fun b h e => by have h6 := h.2; have h7 := h2 b e; omega) h1 ?_ ?_).mono ?_
  · intro D p rest W' hp hk hs
    have hlen := varsD_len D
    have hpl := parts_len 1 t
    have hpl2 : (flatT t).length = (parts 1 t).length := by have := congrArg List.length (flatT_parts 1 t); simpa using this
    rw [hp] at hpl2
    simp only [List.length_append, List.length_cons] at hpl2
    refine (seen_number _ _ _ (varsD D) p.1.n W' (by omega) hs).mono ?_
    rintro e w' ⟨rfl, h6, h7, h8⟩
    have hf := place_final (D := D) (rest := rest) hk
    rw [← hp, varsT_flat] at hf
    have hn : numP (varsT t) p.1.n = numP (varsD D) p.1.n := by unfold numP at hf ⊢; rw [hf]; rfl
    have ht : varsD (D ++ [p]) = numL (varsD D) p.1.n := by rw [varsD_snoc]; unfold takeL; rw [if_pos hk]
    exact ⟨by rw [hn], by show SeenAt _ _ _ (varsD (D ++ [p])) w'; rw [ht]; exact h6, h7, h8⟩
  · intro D p W' hk hs
    have ht : varsD (D ++ [p]) = varsD D := by rw [varsD_snoc]; unfold takeL; rw [if_neg hk]
    exact ⟨by show SeenAt _ _ _ (varsD (D ++ [p])) W'; rw [ht]; exact hs, fun _ h => h⟩
  rintro e w' ⟨v', rfl, hi, -, hk, -⟩
  obtain ⟨a', c', rfl⟩ := hi.form
  have hres : w'.heap[w.heap.size + 1]? = some (.cells #[.int .i64 0, .int .i64 0, .string ⟨#[]⟩, .slice none 0 0] 27 (0, 0)) := (hk.block _ (by omega) fun e => by have := h2 _ e; omega).trans h3
  have hb : Below w.heap.size w w' := h5.trans ⟨hk.os, hk.tape, hk.output, hk.size, fun b hb => hk.block b (by omega) fun e => by have := h2 _ e; omega⟩
  have hw' : W.heap.size ≤ w'.heap.size := hk.size
  have HI := Lib.hid hi
  have HB := Lib.hid hb
  have HRES := Lib.hid hres
  clear hi hk hb hres h1 h2 h3 h5 HL HST
  go_wp2_with (refine wpList_store_row rfl 27 (.tmp 2) (.tmp 8) rfl (w.heap.size + 1) _ rfl rfl _ _ HRES.out size_term rfl (one4 _ _ _ _ _ _) ?_)
  have hz := setRow_heap w' (w.heap.size + 1) _ (#[.int .i64 (numT t).k, .int .i64 (numT t).n, .string (numT t).s, .slice a' (numT t).args.length c'] : Array Value) _ _ HRES.out
  refine bodyPost_ret (v := .agg #[.int .i64 (numT t).k, .int .i64 (numT t).n, .string (numT t).s, .slice a' (numT t).args.length c']) (results_cell_row Try.results42 _ _ (w.heap.size + 1) _ _ _ _ rfl hz Try.underlying27 rfl (by kernel_rfl)) rfl ?_
  refine ⟨_, rfl, HI.out.imp (fun b h => ⟨by have := h.1; omega, ?_⟩) (fun b h _ => setRow_other _ _ _ _ (by have := h.1; omega)), below_setRow HB.out (by omega) _⟩
  obtain ⟨cur, hc⟩ := h.2.2
  exact ⟨cur, (setRow_other _ _ _ _ (by have := h.1; omega)).trans hc⟩
theorem tm_Number (t : Tm) (v : Value) (P : Nat → Prop) (w : World) (hM : t.size ≤ 1000000000) (h : IsTm w P v t) :
    Calls Try.prog 42 #[v] w (MakesTm (fun _ => False) (numT t) w) :=
  (tm_NumberP t v P w hM h).mono fun e w' ⟨v', e1, hi, hb⟩ => ⟨v', e1, hi.imp (fun b h => .inr h.1) fun _ _ _ => rfl, hb⟩
end Go.Proofs.Ytmlceamcpelklaa.Tms
