
/-
  What term.seen keeps (the numbers that came, and where each stands), and its methods number and take, walked.
-/
import Derived.Test.YtilmfkpflecghaaMsd
import Derived.Test.YtilmfkpflecghaaMap
namespace Go.Proofs.Ytilmfkpflecghaa.Tms
open Go Go.RowKit Go.Proofs.Ytilmfkpflecghaa.Reg Go.Proofs.Ytilmfkpflecghaa.Rws
set_option linter.unusedVariables false

/-- a number in one cell -/
def intKind : Rws.Kind Int where
  T := 2
  sz := 1
  R := fun w P cs a => cs = [.int .i64 a]
  pos := by decide
  len := by rintro w P cs a rfl; rfl
  one := by
    rintro w P cs a rfl v hv
    simp only [List.mem_cons, List.not_mem_nil, or_false] at hv
    subst hv; rfl
  mono := by rintro w w' P P' cs a hP hw rfl; rfl
  lt := by rintro w P cs a rfl; rfl
theorem info_int64 : (Try.prog.info? 2).map (fun i => (i.zero, i.size, i.bytes)) = some (some (.int .i64 0), 1, 8) := by kernel_rfl

/-- the numbers' entries -/
def seenEs (i : Nat) : List Int → List MapEntry
  | [] => []
  | n :: l => ⟨.int .i64 n, .int .i64 i, i⟩ :: seenEs (i + 1) l
theorem seenEs_app : ∀ (i : Nat) (l m : List Int), seenEs i (l ++ m) = seenEs i l ++ seenEs (i + l.length) m
  | i, [], m => by simp [seenEs]
  | i, n :: l, m => by simp [seenEs, seenEs_app (i + 1) l m, Nat.add_comm, Nat.add_left_comm]
/-- where a number stands among those that came -/
def place : List Int → Int → Option Nat
  | [], _ => none
  | x :: l, n => if n = x then some 0 else (place l n).map (· + 1)
theorem findNow_seen (k : IntKind) (n : Int) : ∀ (l : List Int) (i j : Nat), Instr.findNow (.int k) (.int .i64 n) (seenEs i l) j = some ((place l n).map fun p => (j + p, .int .i64 ((i + p : Nat) : Int)))
  | [], i, j => by simp [seenEs, Instr.findNow, place]
  | x :: l, i, j => by
    have ih := findNow_seen k n l (i + 1) (j + 1)
    by_cases h : n = x
    · simp [seenEs, Instr.findNow, Instr.sameNow, place, h]
    · simp only [seenEs, Instr.findNow, Instr.sameNow, if_true, place, if_neg h]
      have hb : (n == x) = false := by simpa using h
      rw [hb]
      simp only []
      rw [ih]
      cases place l n <;> simp
      omega
def numL (l : List Int) (n : Int) : List Int := if (place l n).isSome then l else l ++ [n]
def numP (l : List Int) (n : Int) : Nat := (place l n).getD l.length
theorem place_lt : ∀ {l : List Int} {n : Int} {p : Nat}, place l n = some p → p < l.length
  | x :: l, n, p, h => by
    unfold place at h
    split at h
    · simp only [Option.some.injEq] at h; subst h; simp
    · cases hp : place l n with
      | none => rw [hp] at h; cases h
      | some q => rw [hp] at h; simp only [Option.map_some, Option.some.injEq] at h; subst h; have := place_lt hp; simp; omega

/-- what lies in memory -/
structure SeenRow (W : World) (base mb mm : Nat) (lv : Value) (L : List Int) : Prop where
  row : W.heap[mb]? = some (.cells #[lv, .map (some mm)] 94 (0, 0))
  map : ∃ es : Array MapEntry, W.heap[mm]? = some (.map es L.length) ∧ es.toList = seenEs 0 L
  own : Own intKind W base (fun _ => False) lv L
  ne : mb ≠ mm
  nb : lv.ownBlock ≠ some mb
  nm : lv.ownBlock ≠ some mm
  base : base ≤ W.heap.size
def SeenAt (base mb mm : Nat) (L : List Int) (W : World) : Prop := ∃ lv, SeenRow W base mb mm lv L
/-- its blocks -/
def SeenMine (mb mm : Nat) (W : World) (b : Nat) : Prop := b = mb ∨ b = mm ∨ ∃ lv, W.cell? ⟨mb, 0, none⟩ = some lv ∧ lv.ownBlock = some b
theorem SeenAt.keep {base mb mm : Nat} {L : List Int} {W W' : World} (h : SeenAt base mb mm L W) (hs : W.heap.size ≤ W'.heap.size) (hk : ∀ b, b < W.heap.size → SeenMine mb mm W b → W'.heap[b]? = W.heap[b]?) : SeenAt base mb mm L W' ∧ ∀ b, SeenMine mb mm W' b → SeenMine mb mm W b := by
  obtain ⟨lv, h⟩ := h
  obtain ⟨es, h1, h2⟩ := h.map
  have hmb := hk mb (Array.getElem?_eq_some_iff.1 h.row).1 (.inl rfl)
  have hmm := hk mm (Array.getElem?_eq_some_iff.1 h1).1 (.inr (.inl rfl))
  have c0 : W.cell? ⟨mb, 0, none⟩ = some lv := cell_of_row W mb 0 _ _ _ h.row
  have c0' : W'.cell? ⟨mb, 0, none⟩ = some lv := cell_of_row W' mb 0 _ _ _ (hmb.trans h.row)
  refine ⟨⟨lv, hmb.trans h.row, ⟨es, hmm.trans h1, h2⟩, h.own.keep hs fun b hb hp => ?_, h.ne, h.nb, h.nm, Nat.le_trans h.base hs⟩, fun b hb => ?_⟩
  · rcases hp with hp | hp
    · exact hp.elim
    · exact hk b hb (.inr (.inr ⟨lv, c0, hp⟩))
  · rcases hb with hb | hb | ⟨lv', hc, hb⟩
    · exact .inl hb
    · exact .inr (.inl hb)
    · rw [c0'] at hc
      obtain rfl := Option.some.inj hc
      exact .inr (.inr ⟨lv, c0, hb⟩)
theorem SeenAt.low {base mb mm : Nat} {L : List Int} {W : World} (h : SeenAt base mb mm L W) {b : Nat} (hb : SeenMine mb mm W b) : b < W.heap.size := by
  obtain ⟨lv, h⟩ := h
  obtain ⟨es, h1, h2⟩ := h.map
  have c0 : W.cell? ⟨mb, 0, none⟩ = some lv := cell_of_row W mb 0 _ _ _ h.row
  rcases hb with rfl | rfl | ⟨lv', hc, hb⟩
  · exact (Array.getElem?_eq_some_iff.1 h.row).1
  · exact (Array.getElem?_eq_some_iff.1 h1).1
  · rw [c0] at hc
    obtain rfl := Option.some.inj hc
    exact (h.own.low b hb).2

theorem wpList_makeMap {P : Program} {w : World} {ops : Array Oper} {rest : List Oper} {o : Oper} {a : Act} {Q : Exit → Act → World → Prop} (hgd : o.guard = none) (t : TypeId) (ho : o.op = .makeMap t none)
    (hK : wpList P ops Q rest (a.put o.dst (.map (some w.heap.size))) (w.alloc (.map #[] 0))) : wpList P ops Q (o :: rest) a w := by
  refine wpList_plain hgd fun K hK' => ?_
  have hrun := run_makeMap (P := P) t w
  unfold Oper.wp
  simp [execOp, ho, hrun, Result.andThen]
  exact hK' _ _ hK
theorem wpList_update_new {P : Program} {w : World} {ops : Array Oper} {rest : List Oper} {o : Oper} {a : Act} {Q : Exit → Act → World → Prop} (hgd : o.guard = none) (t : TypeId) (m k x : Operand) (ho : o.op = .mapUpdate t m k x) (kt et : TypeId) (d : TypeDesc)
    (h : P.underlying t = some (.map kt et)) (hk : P.underlying kt = some d) (hp : Maps.plainKey d = true) (b : Nat) (es : Array MapEntry) (c : Nat) (hm : a.eval m = .map (some b)) (hb : w.heap[b]? = some (.map es c)) (hf : Instr.findNow d (a.eval k) es.toList 0 = some none)
    (hK : ∀ w', w'.heap[b]? = some (.map (es.push ⟨a.eval k, a.eval x, c⟩) (c + 1)) → w.grownBy w' (some b) → wpList P ops Q rest (a.put o.dst undef) w') : wpList P ops Q (o :: rest) a w := by
  refine wpList_plain hgd fun K hK' => ?_
  have hrun := Maps.run_insert_new (P := P) w t kt et d h hk hp b (a.eval k) (a.eval x) es c hb hf
  unfold Oper.wp
  simp [execOp, ho, hm, hrun, Result.andThen]
  exact hK' _ _ (hK _ (Maps.setObj'_at _ _ _ (Array.getElem?_eq_some_iff.1 hb).1) (Maps.setObj'_grown _ _ _))
end Go.Proofs.Ytilmfkpflecghaa.Tms
