
/-
  What term.seen keeps (the numbers that came, and where each stands), and its methods number and take, walked.
  term.seen's number and take of the program walked.
  term.walk of the program with (*prolix/term.seen).take as its visitor, walked (printed by gen_walk.py).
  term.seen's take, and term.Vars, of the program walked.
-/
import Derived.Test.YtoklbeogmcdgaaaMsd
import Derived.Test.YtoklbeogmcdgaaaBas
import Derived.Test.YtoklbeogmcdgaaaVisit
namespace Go.Proofs.Ytoklbeogmcdgaaa.Tms
open Go Go.RowKit Go.Proofs.Ytoklbeogmcdgaaa.Reg Go.Proofs.Ytoklbeogmcdgaaa.Rws
set_option linter.unusedVariables false

/-- a number in one cell -/
def intKind : Rws.Kind Int where
  T := 2
  sz := 1
  R := fun w P cs a => cs = [.int .i64 a]
  pos := by decide
  len := by rintro w P cs a rfl; rfl
  one := by
    rintro w P cs a rfl v hv
    simp only [List.mem_cons, List.not_mem_nil, or_false] at hv
    subst hv; rfl
  mono := by rintro w w' P P' cs a hP hw rfl; rfl
  lt := by rintro w P cs a rfl; rfl
theorem info_int64 : (Try.prog.info? 2).map (fun i => (i.zero, i.size, i.bytes)) = some (some (.int .i64 0), 1, 8) := by kernel_rfl

/-- the numbers' entries -/
def seenEs (i : Nat) : List Int → List MapEntry
  | [] => []
  | n :: l => ⟨.int .i64 n, .int .i64 i, i⟩ :: seenEs (i + 1) l
/-- where a number stands among those that came -/
def place : List Int → Int → Option Nat
  | [], _ => none
  | x :: l, n => if n = x then some 0 else (place l n).map (· + 1)
def numL (l : List Int) (n : Int) : List Int := if (place l n).isSome then l else l ++ [n]
def numP (l : List Int) (n : Int) : Nat := (place l n).getD l.length
/-- what lies in memory -/
structure SeenRow (W : World) (base mb mm : Nat) (lv : Value) (L : List Int) : Prop where
  row : W.heap[mb]? = some (.cells #[lv, .map (some mm)] 138 (0, 0))
  map : ∃ es : Array MapEntry, W.heap[mm]? = some (.map es L.length) ∧ es.toList = seenEs 0 L
  own : Own intKind W base (fun _ => False) lv L
  ne : mb ≠ mm
  nb : lv.ownBlock ≠ some mb
  nm : lv.ownBlock ≠ some mm
  base : base ≤ W.heap.size
def SeenAt (base mb mm : Nat) (L : List Int) (W : World) : Prop := ∃ lv, SeenRow W base mb mm lv L
/-- its blocks -/
def SeenMine (mb mm : Nat) (W : World) (b : Nat) : Prop := b = mb ∨ b = mm ∨ ∃ lv, W.cell? ⟨mb, 0, none⟩ = some lv ∧ lv.ownBlock = some b
theorem SeenAt.keep {base mb mm : Nat} {L : List Int} {W W' : World} (h : SeenAt base mb mm L W) (hs : W.heap.size ≤ W'.heap.size) (hk : ∀ b, b < W.heap.size → SeenMine mb mm W b → W'.heap[b]? = W.heap[b]?) : SeenAt base mb mm L W' ∧ ∀ b, SeenMine mb mm W' b → SeenMine mb mm W b := by
  obtain ⟨lv, h⟩ := h
  obtain ⟨es, h1, h2⟩ := h.map
  have hmb := hk mb (Array.getElem?_eq_some_iff.1 h.row).1 (.inl rfl)
  have hmm := hk mm (Array.getElem?_eq_some_iff.1 h1).1 (.inr (.inl rfl))
  have c0 : W.cell? ⟨mb, 0, none⟩ = some lv := cell_of_row W mb 0 _ _ _ h.row
  have c0' : W'.cell? ⟨mb, 0, none⟩ = some lv := cell_of_row W' mb 0 _ _ _ (hmb.trans h.row)
  refine ⟨⟨lv, hmb.trans h.row, ⟨es, hmm.trans h1, h2⟩, h.own.keep hs fun b hb hp => ?_, h.ne, h.nb, h.nm, Nat.le_trans h.base hs⟩, fun b hb => ?_⟩
  · rcases hp with hp | hp
    · exact hp.elim
    · exact hk b hb (.inr (.inr ⟨lv, c0, hp⟩))
  · rcases hb with hb | hb | ⟨lv', hc, hb⟩
    · exact .inl hb
    · exact .inr (.inl hb)
    · rw [c0'] at hc
      obtain rfl := Option.some.inj hc
      exact .inr (.inr ⟨lv, c0, hb⟩)
theorem SeenAt.low {base mb mm : Nat} {L : List Int} {W : World} (h : SeenAt base mb mm L W) {b : Nat} (hb : SeenMine mb mm W b) : b < W.heap.size := by
  obtain ⟨lv, h⟩ := h
  obtain ⟨es, h1, h2⟩ := h.map
  have c0 : W.cell? ⟨mb, 0, none⟩ = some lv := cell_of_row W mb 0 _ _ _ h.row
  rcases hb with rfl | rfl | ⟨lv', hc, hb⟩
  · exact (Array.getElem?_eq_some_iff.1 h.row).1
  · exact (Array.getElem?_eq_some_iff.1 h1).1
  · rw [c0] at hc
    obtain rfl := Option.some.inj hc
    exact (h.own.low b hb).2

end Go.Proofs.Ytoklbeogmcdgaaa.Tms
namespace Go.Proofs.Ytoklbeogmcdgaaa.Tms
open Go Go.RowKit Go.Proofs.Ytoklbeogmcdgaaa.Reg Go.Proofs.Ytoklbeogmcdgaaa.Rws
set_option linter.unusedVariables false

end Go.Proofs.Ytoklbeogmcdgaaa.Tms
namespace Go.Proofs.Ytoklbeogmcdgaaa.Tms
open Go Go.RowKit Go.Proofs.Ytoklbeogmcdgaaa.Reg Go.Proofs.Ytoklbeogmcdgaaa.Rws
set_option linter.unusedVariables false

end Go.Proofs.Ytoklbeogmcdgaaa.Tms
namespace Go.Proofs.Ytoklbeogmcdgaaa.Tms
open Go Go.RowKit Go.Proofs.Ytoklbeogmcdgaaa.Reg Go.Proofs.Ytoklbeogmcdgaaa.Rws
set_option linter.unusedVariables false

def takeL (L : List Int) (p : Tm × Int) : List Int := if p.1.k = 1 then numL L p.1.n else L
/-- the variables' numbers, as they come -/
def varsD (D : List (Tm × Int)) : List Int := D.foldl takeL []
def varsT (t : Tm) : List Int := varsD (parts 1 t)
theorem numL_len (L : List Int) (n : Int) : (numL L n).length ≤ L.length + 1 := by unfold numL; split <;> simp
/-- a slice of numbers -/
def IntSl (w : World) (P : Nat → Prop) (v : Value) (L : List Int) : Prop := ∃ a cap, v = .slice a L.length cap ∧ L.length ≤ cap ∧ cap ≤ maxLen ∧ ∀ i (h : i < L.length), ∃ b off, a = some ⟨b, off, none⟩ ∧ P b ∧ b < w.heap.size ∧ w.cell? ⟨b, off + i, none⟩ = some (.int .i64 L[i])
theorem IntSl.below {w w' : World} {P : Nat → Prop} {v : Value} {L : List Int} (h : IntSl w P v L) (hb : Below w.heap.size w w') : IntSl w' P v L := by
  obtain ⟨a, cap, e, h1, h2, h3⟩ := h
  refine ⟨a, cap, e, h1, h2, fun i hi => ?_⟩
  obtain ⟨b, off, e, hp, hl, hc⟩ := h3 i hi
  exact ⟨b, off, e, hp, by have := hb.size; omega, (hb.cell (p := ⟨b, off + i, none⟩) hl).trans hc⟩

theorem each_ints {w : World} {P : Nat → Prop} : ∀ {xss : List (List Value)} {L : List Int}, Each intKind w P xss L → xss.flatten = L.map fun n => Value.int .i64 n
  | [], [], _ => rfl
  | x :: xss, n :: L, h => by
    have h1 : x = [.int .i64 n] := h.1
    rw [List.flatten_cons, each_ints h.2, h1]
    rfl
  | [], _ :: _, h => h.elim
  | _ :: _, [], h => h.elim
end Go.Proofs.Ytoklbeogmcdgaaa.Tms
