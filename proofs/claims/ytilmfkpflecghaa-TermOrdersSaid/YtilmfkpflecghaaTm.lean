
/-
  Terms as plain trees, and how a term lies in memory. No program stands here. 'P' says which blocks a reading may pass: so that a store into another block leaves it as it was.
-/
import Derived.WalkKit
import Derived.Lib.Hide
namespace Go.Proofs.Ytilmfkpflecghaa.Tms
open Go Go.RowKit

inductive Tm where
  | mk (k n : Int) (s : ByteArray) (args : List Tm)

def Tm.k : Tm → Int | .mk k _ _ _ => k
def Tm.n : Tm → Int | .mk _ n _ _ => n
def Tm.s : Tm → ByteArray | .mk _ _ s _ => s
def Tm.args : Tm → List Tm | .mk _ _ _ a => a

mutual
/-- the term lies at this place of this block -/
def TmAt (w : World) (P : Nat → Prop) (b o : Nat) : Tm → Prop
  | .mk k n s args => ∃ a cap, w.cell? ⟨b, o, none⟩ = some (.int .i64 k) ∧ w.cell? ⟨b, o + 1, none⟩ = some (.int .i64 n) ∧ w.cell? ⟨b, o + 2, none⟩ = some (.string s) ∧
      w.cell? ⟨b, o + 3, none⟩ = some (.slice a args.length cap) ∧ ArgsFrom w P a 0 args
/-- these terms lie one behind the other from place j of what this address leads to -/
def ArgsFrom (w : World) (P : Nat → Prop) (a : Option Addr) (j : Nat) : List Tm → Prop
  | [] => True
  | t :: ts => (∃ b off, a = some ⟨b, off, none⟩ ∧ P b ∧ TmAt w P b (off + j * 4) t) ∧ ArgsFrom w P a (j + 1) ts
end

/-- a slice value of terms -/
def IsSl (w : World) (P : Nat → Prop) (v : Value) (ts : List Tm) : Prop := ∃ a cap, v = .slice a ts.length cap ∧ ArgsFrom w P a 0 ts
/-- a term's value -/
def IsTm (w : World) (P : Nat → Prop) (v : Value) (t : Tm) : Prop := ∃ a cap, v = .agg #[.int .i64 t.k, .int .i64 t.n, .string t.s, .slice a t.args.length cap] ∧ ArgsFrom w P a 0 t.args

theorem argsFrom_iff {w : World} {P : Nat → Prop} {a : Option Addr} : ∀ {ts : List Tm} {j : Nat}, ArgsFrom w P a j ts ↔ ∀ i (h : i < ts.length), ∃ b off, a = some ⟨b, off, none⟩ ∧ P b ∧ TmAt w P b (off + (j + i) * 4) ts[i]
  | [], j => by unfold ArgsFrom; simp
  | t :: ts, j => by
    unfold ArgsFrom
    rw [argsFrom_iff]
    constructor
    · rintro ⟨h0, h⟩ i hi
      cases i with
      | zero => simpa using h0
      | succ i =>
        have := h i (by simpa using hi)
        simpa [Nat.add_assoc, Nat.add_comm 1 i] using this
    · intro h
      refine ⟨by have h0 := h 0 (Nat.zero_lt_succ _); rw [Nat.add_zero] at h0; exact h0, fun i hi => ?_⟩
      have := h (i + 1) (by simpa using hi)
      simpa [Nat.add_assoc, Nat.add_comm 1 i] using this

mutual
theorem TmAt.imp {w w' : World} {P P' : Nat → Prop} (hP : ∀ b, P b → P' b) (hw : ∀ b, P b → b < w.heap.size → w'.heap[b]? = w.heap[b]?) : ∀ (t : Tm) (b o : Nat), P b → TmAt w P b o t → TmAt w' P' b o t
  | .mk k n s args, b, o, hb, h => by
    unfold TmAt at h ⊢
    obtain ⟨a, cap, h0, h1, h2, h3, h4⟩ := h
    have hlt : b < w.heap.size := World.block_lt_of_cell? _ _ h0
    have e := fun q => World.cell?_of_block (w := w) (w' := w') (a := ⟨b, q, none⟩) (hw b hb hlt)
    exact ⟨a, cap, (e _).trans h0, (e _).trans h1, (e _).trans h2, (e _).trans h3, ArgsFrom.imp hP hw args a 0 h4⟩
theorem ArgsFrom.imp {w w' : World} {P P' : Nat → Prop} (hP : ∀ b, P b → P' b) (hw : ∀ b, P b → b < w.heap.size → w'.heap[b]? = w.heap[b]?) : ∀ (ts : List Tm) (a : Option Addr) (j : Nat), ArgsFrom w P a j ts → ArgsFrom w' P' a j ts
  | [], a, j, _ => by unfold ArgsFrom; trivial
  | t :: ts, a, j, h => by
    unfold ArgsFrom at h ⊢
    obtain ⟨⟨b, off, e, hb, ht⟩, h2⟩ := h
    exact ⟨⟨b, off, e, hP b hb, TmAt.imp hP hw t b _ hb ht⟩, ArgsFrom.imp hP hw ts a (j + 1) h2⟩
end

theorem IsSl.imp {w w' : World} {P P' : Nat → Prop} {v : Value} {ts : List Tm} (h : IsSl w P v ts) (hP : ∀ b, P b → P' b) (hw : ∀ b, P b → b < w.heap.size → w'.heap[b]? = w.heap[b]?) : IsSl w' P' v ts :=
  let ⟨a, cap, e, h⟩ := h; ⟨a, cap, e, ArgsFrom.imp hP hw ts a 0 h⟩
theorem IsTm.imp {w w' : World} {P P' : Nat → Prop} {v : Value} {t : Tm} (h : IsTm w P v t) (hP : ∀ b, P b → P' b) (hw : ∀ b, P b → b < w.heap.size → w'.heap[b]? = w.heap[b]?) : IsTm w' P' v t :=
  let ⟨a, cap, e, h⟩ := h; ⟨a, cap, e, ArgsFrom.imp hP hw t.args a 0 h⟩
theorem IsTm.below {w w' : World} {P : Nat → Prop} {v : Value} {t : Tm} (h : IsTm w P v t) (hb : Below w.heap.size w w') : IsTm w' P v t := h.imp (fun _ h => h) fun b _ hlt => hb.block b hlt
theorem IsSl.below {w w' : World} {P : Nat → Prop} {v : Value} {ts : List Tm} (h : IsSl w P v ts) (hb : Below w.heap.size w w') : IsSl w' P v ts := h.imp (fun _ h => h) fun b _ hlt => hb.block b hlt
theorem IsTm.form {w : World} {P : Nat → Prop} {v : Value} {t : Tm} (h : IsTm w P v t) : ∃ a cap, v = .agg #[.int .i64 t.k, .int .i64 t.n, .string t.s, .slice a t.args.length cap] := let ⟨a, cap, e, _⟩ := h; ⟨a, cap, e⟩
theorem IsSl.form {w : World} {P : Nat → Prop} {v : Value} {ts : List Tm} (h : IsSl w P v ts) : ∃ a cap, v = .slice a ts.length cap := let ⟨a, cap, e, _⟩ := h; ⟨a, cap, e⟩

/-- what a slice holds at place i -/
theorem IsSl.at {w : World} {P : Nat → Prop} {a : Option Addr} {len cap : Nat} {ts : List Tm} (h : IsSl w P (.slice a len cap) ts) (i : Nat) (hi : i < ts.length) :
    ∃ b off, a = some ⟨b, off, none⟩ ∧ P b ∧ TmAt w P b (off + i * 4) ts[i] := by
  obtain ⟨a', cap', e, h⟩ := h
  obtain ⟨rfl, -, -⟩ := Value.slice.inj e
  have := argsFrom_iff.1 h i hi
  simpa using this
/-- a term in memory: its four cells, and its value -/
theorem TmAt.read {w : World} {P : Nat → Prop} {b o : Nat} {t : Tm} (h : TmAt w P b o t) :
    ∃ a cap, w.cell? ⟨b, o, none⟩ = some (.int .i64 t.k) ∧ w.cell? ⟨b, o + 1, none⟩ = some (.int .i64 t.n) ∧ w.cell? ⟨b, o + 2, none⟩ = some (.string t.s) ∧ w.cell? ⟨b, o + 3, none⟩ = some (.slice a t.args.length cap) ∧
      IsTm w P (.agg #[.int .i64 t.k, .int .i64 t.n, .string t.s, .slice a t.args.length cap]) t ∧ b < w.heap.size := by
  obtain ⟨k, n, s, args⟩ := t
  unfold TmAt at h
  obtain ⟨a, cap, h0, h1, h2, h3, h4⟩ := h
  exact ⟨a, cap, h0, h1, h2, h3, ⟨a, cap, rfl, h4⟩, World.block_lt_of_cell? _ _ h0⟩
/-- back: four cells, and what their slice leads to -/
theorem TmAt.mk' {w : World} {P : Nat → Prop} {b o : Nat} {t : Tm} {a : Option Addr} {cap : Nat} (h0 : w.cell? ⟨b, o, none⟩ = some (.int .i64 t.k)) (h1 : w.cell? ⟨b, o + 1, none⟩ = some (.int .i64 t.n)) (h2 : w.cell? ⟨b, o + 2, none⟩ = some (.string t.s))
    (h3 : w.cell? ⟨b, o + 3, none⟩ = some (.slice a t.args.length cap)) (h4 : IsSl w P (.slice a t.args.length cap) t.args) : TmAt w P b o t := by
  obtain ⟨k, n, s, args⟩ := t
  unfold TmAt
  obtain ⟨a', cap', e, h⟩ := h4
  obtain ⟨rfl, -, rfl⟩ := Value.slice.inj e
  exact ⟨a, cap, h0, h1, h2, h3, h⟩
theorem IsSl.mk' {w : World} {P : Nat → Prop} {a : Option Addr} {cap : Nat} {ts : List Tm} (h : ∀ i (hi : i < ts.length), ∃ b off, a = some ⟨b, off, none⟩ ∧ P b ∧ TmAt w P b (off + i * 4) ts[i]) : IsSl w P (.slice a ts.length cap) ts :=
  ⟨a, cap, rfl, argsFrom_iff.2 fun i hi => by simpa using h i hi⟩
theorem IsSl.nil (w : World) (P : Nat → Prop) (a : Option Addr) (cap : Nat) : IsSl w P (.slice a 0 cap) [] := ⟨a, cap, rfl, by unfold ArgsFrom; trivial⟩
theorem IsTm.args {w : World} {P : Nat → Prop} {k n : Int} {s : ByteArray} {a : Option Addr} {len cap : Nat} {t : Tm} (h : IsTm w P (.agg #[.int .i64 k, .int .i64 n, .string s, .slice a len cap]) t) : IsSl w P (.slice a t.args.length cap) t.args := by
  obtain ⟨a', cap', e, h⟩ := h
  simp at e
  obtain ⟨_, _, _, rfl, _, rfl⟩ := e
  exact ⟨a, cap, rfl, h⟩
theorem IsTm.mk' {w : World} {P : Nat → Prop} {a : Option Addr} {cap : Nat} {t : Tm} (h : IsSl w P (.slice a t.args.length cap) t.args) : IsTm w P (.agg #[.int .i64 t.k, .int .i64 t.n, .string t.s, .slice a t.args.length cap]) t := by
  obtain ⟨a', cap', e, h⟩ := h
  obtain ⟨rfl, -, rfl⟩ := Value.slice.inj e
  exact ⟨a, cap, rfl, h⟩
end Go.Proofs.Ytilmfkpflecghaa.Tms
