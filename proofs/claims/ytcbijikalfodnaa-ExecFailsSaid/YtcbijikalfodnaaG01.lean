/-
  Codes of clauses as plain Lean data, what the program and the document's reference make of them, and how such a code lies in memory. No program stands here.
  Maps that the call itself makes, with numbers or texts as keys: a new entry, a look. Plain laws over any program.
  Terms as plain trees, and how a term lies in memory. No program stands here. 'P' says which blocks a reading may pass: so that a store into another block leaves it as it was.
  append of one element to a row of the call's own: the new value's row is the old one or a new block. A plain law over any program.
  A slice that the call itself keeps, of elements of whatever kind: what it owns, and what it reads as; an element is taken off its end, one is put behind it. Plain laws over any program.
  A region that draws its order, walked operation by operation: whatever order is drawn, each operation meets what its own forerunners left, and the last operations (the tail) come in their own order. Plain theorems over any program; nothing of the seat stands here.
  The reference's Same of two terms, walked over the program.
  Terms: values of atoms, numbers and compounds; a tree that is copied through pointers (what holds while it runs); rows that the call owns. Plain laws, told of no function.
  term.may of the program walked: whether a part may be, but for its Args.
  term.measure's take of the program walked.
  A slice of terms that the call itself makes by append: what it owns, and what it reads as.
-/
import Derived.WalkKit
import Derived.Lib.Hide
import Derived.OwnWalk
import Derived.StillTail
import Derived.Orders
import Derived.Test.YtcbijikalfodnaaProg
import Derived.Laws.Tables
import Derived.Outline
import Derived.Deep.LoopGhost
import Derived.Laws.CopyOwn
namespace Go.Proofs.Ytcbijikalfodnaa.Cod
open Go Go.RowKit

structure Ins where
  op : Int
  a : Int
  n : Int
  s : ByteArray

structure Cod where
  name : ByteArray
  args : Int
  slots : Int
  body : Int
  l : List Ins

def Ins.bad (i : Ins) : Bool := decide (i.op < 1) || decide (6 < i.op) || (decide (i.op = 6) && (decide (i.a < 1) || decide (255 < i.a)))
def Ins.ar (i : Ins) : Nat := if i.op = 6 then i.a.toNat else 0

/-- how many instructions so many patterns take -/
def sk : List Ins → Nat → Option Nat
  | _, 0 => some 0
  | [], _ + 1 => none
  | i :: l, n + 1 => if i.bad then none else (sk l (n + i.ar)).map (· + 1)

def skA (L : List Ins) (m k : Nat) : Int := match sk (L.drop k) m with
  | none => -1
  | some j => (k : Int) + j

def skip (L : List Ins) (z : Int) : Int := if z < 0 then -1 else skA L 1 z.toNat

theorem sk_zero (l : List Ins) : sk l 0 = some 0 := by cases l <;> rfl
theorem skA_zero (L : List Ins) (k : Nat) : skA L 0 k = k := by simp [skA, sk_zero]
theorem skA_end (L : List Ins) (m k : Nat) (h : L.length ≤ k) : skA L (m + 1) k = -1 := by simp [skA, List.drop_eq_nil_of_le h, sk]
theorem skA_bad (L : List Ins) (m k : Nat) (h : k < L.length) (hb : L[k].bad = true) : skA L (m + 1) k = -1 := by
  unfold skA; rw [List.drop_eq_getElem_cons h]; simp only [sk, hb, if_true]
theorem skA_step (L : List Ins) (m k : Nat) (h : k < L.length) (hb : L[k].bad = false) : skA L (m + 1) k = skA L (m + L[k].ar) (k + 1) := by
  simp only [skA, List.drop_eq_getElem_cons h, sk, hb]
  cases sk (L.drop (k + 1)) (m + L[k].ar) <;> simp <;> omega

theorem sk_le : ∀ (l : List Ins) (n j : Nat), sk l n = some j → j ≤ l.length
  | l, 0, j, h => by rw [sk_zero] at h; cases h; omega
  | [], n + 1, j, h => by simp [sk] at h
  | i :: l, n + 1, j, h => by
    unfold sk at h
    split at h
    · cases h
    · cases h1 : sk l (n + i.ar) with
      | none => simp [h1] at h
      | some q => simp [h1] at h; subst h; have := sk_le l _ q h1; simp only [List.length_cons]; omega
theorem skA_le (L : List Ins) (m k : Nat) (hk : k ≤ L.length) : skA L m k ≤ L.length := by
  unfold skA
  cases h : sk (L.drop k) m with
  | none => simp only []; omega
  | some j => have := sk_le _ _ _ h; simp at this ⊢; omega
theorem skip_neg (L : List Ins) (z : Int) (h : z < 0) : skip L z = -1 := by simp [skip, h]
theorem skip_nat (L : List Ins) (k : Nat) : skip L (k : Int) = skA L 1 k := by
  have : ¬ ((k : Int) < 0) := by omega
  simp [skip, this]
theorem skip_of (L : List Ins) (z : Int) (h : 0 ≤ z) : skip L z = skA L 1 z.toNat := by
  have : ¬ z < 0 := by omega
  simp [skip, this]
theorem skip_past (L : List Ins) (z : Int) (h : (L.length : Int) ≤ z) : skip L z = -1 := by
  rw [skip_of L z (by omega), skA_end L 0 z.toNat (by omega)]
theorem skip_hi (L : List Ins) (z : Int) : skip L z ≤ L.length := by
  by_cases h : z ≤ L.length
  · unfold skip; split
    · omega
    · exact skA_le L 1 z.toNat (by omega)
  · rw [skip_past L z (by omega)]; omega

/-! ### In memory -/

def InsAt (w : World) (b o : Nat) (i : Ins) : Prop :=
  w.cell? ⟨b, o, none⟩ = some (.int .i64 i.op) ∧ w.cell? ⟨b, o + 1, none⟩ = some (.int .i64 i.a) ∧ w.cell? ⟨b, o + 2, none⟩ = some (.int .i64 i.n) ∧ w.cell? ⟨b, o + 3, none⟩ = some (.string i.s)

/-- a slice value that holds these instructions -/
def InsSl (w : World) (v : Value) (L : List Ins) : Prop :=
  ∃ a cap, v = .slice a L.length cap ∧ ∀ j (h : j < L.length), ∃ b off, a = some ⟨b, off, none⟩ ∧ InsAt w b (off + j * 4) L[j]

theorem InsAt.lt {w : World} {b o : Nat} {i : Ins} (h : InsAt w b o i) : b < w.heap.size := World.block_lt_of_cell? _ _ h.1

theorem InsAt.below {w w' : World} {b o B : Nat} {i : Ins} (h : InsAt w b o i) (hb : Below B w w') (hlt : b < B) : InsAt w' b o i :=
  ⟨(hb.cell (p := ⟨b, o, none⟩) hlt).trans h.1, (hb.cell (p := ⟨b, o + 1, none⟩) hlt).trans h.2.1, (hb.cell (p := ⟨b, o + 2, none⟩) hlt).trans h.2.2.1, (hb.cell (p := ⟨b, o + 3, none⟩) hlt).trans h.2.2.2⟩

theorem InsSl.below {w w' : World} {v : Value} {L : List Ins} (h : InsSl w v L) (hb : Below w.heap.size w w') : InsSl w' v L := by
  obtain ⟨a, cap, rfl, hc⟩ := h
  refine ⟨a, cap, rfl, fun j hj => ?_⟩
  obtain ⟨b, off, rfl, hi⟩ := hc j hj
  exact ⟨b, off, rfl, hi.below hb hi.lt⟩

theorem InsSl.form {w : World} {v : Value} {L : List Ins} (h : InsSl w v L) : ∃ a cap, v = .slice a L.length cap := let ⟨a, cap, e, _⟩ := h; ⟨a, cap, e⟩

theorem InsSl.nil (w : World) (a : Option Addr) (cap : Nat) : InsSl w (.slice a 0 cap) [] := ⟨a, cap, rfl, fun j hj => by simp at hj⟩

end Go.Proofs.Ytcbijikalfodnaa.Cod
namespace Go.Proofs.Ytcbijikalfodnaa.Maps
open Go Go.RowKit Go.Instr

def plainKey : TypeDesc → Bool
  | .int _ => true
  | .string => true
  | _ => false

theorem run_checkKey {P : Program} (w : World) (b : Bool) (n : Nat) (t : TypeId) (d : TypeDesc) (h : P.underlying t = some d) (hp : plainKey d = true) (v : Value) : (checkKey b (n + 1) t v).run P w = .ok () w := by
  unfold checkKey
  simp only [Sem.run_bind, run_underlying h, Result.andThen_ok]
  cases d <;> simp [plainKey] at hp <;> rfl

theorem run_findKey {P : Program} (w : World) (t : TypeId) (d : TypeDesc) (h : P.underlying t = some d) (k : Value) (es : List MapEntry) (r : Option (Nat × Value)) (hf : findNow d k es 0 = some r) : (findKey t k es).run P w = .ok r w := by
  unfold findKey
  simp [Sem.run_bind, run_underlying h, hf]

def World.setObj' (w : World) (b : Nat) (o : Obj) : World := { w with heap := w.heap.setIfInBounds b o }
theorem setObj'_at (w : World) (b : Nat) (o : Obj) (h : b < w.heap.size) : (World.setObj' w b o).heap[b]? = some o := by simp [World.setObj', h]
theorem setObj'_grown (w : World) (b : Nat) (o : Obj) : w.grownBy (World.setObj' w b o) (some b) :=
  ⟨rfl, rfl, rfl, by simp [World.setObj'], fun k _ hk => by simp only [World.setObj']; rw [Array.getElem?_setIfInBounds, if_neg (by intro e; exact hk (by rw [e]))]⟩

theorem run_insert_new {P : Program} (w : World) (t kt et : TypeId) (d : TypeDesc) (h : P.underlying t = some (.map kt et)) (hk : P.underlying kt = some d) (hp : plainKey d = true) (b : Nat) (key val : Value) (es : Array MapEntry) (c : Nat)
    (hb : w.heap[b]? = some (.map es c)) (hf : findNow d key es.toList 0 = some none) : (Instr.mapUpdate t (.map (some b)) key val).run P w = .ok () (World.setObj' w b (.map (es.push ⟨key, val, c⟩) (c + 1))) := by
  unfold Instr.mapUpdate
  simp only [Sem.run_bind, run_underlying h, Result.andThen_ok]
  simp [getObj, Sem.run, hb, run_checkKey w false 9999 kt d hk hp key, run_findKey w kt d hk key es.toList none hf, setObj, World.setObj']

theorem run_lookup_now {P : Program} (w : World) (t kt et : TypeId) (d : TypeDesc) (h : P.underlying t = some (.map kt et)) (hk : P.underlying kt = some d) (hp : plainKey d = true) (b : Nat) (key : Value) (es : Array MapEntry) (c : Nat)
    (hb : w.heap[b]? = some (.map es c)) (r : Option (Nat × Value)) (hf : findNow d key es.toList 0 = some r) (z : Value) (hz : ∀ w, (zeroValue et).run P w = .ok z w) :
    (Instr.lookup t (.map (some b)) key true).run P w = .ok (.tuple #[(r.map (·.2)).getD z, .bool r.isSome]) w := by
  unfold Instr.lookup
  simp only [Sem.run_bind, run_underlying h, Result.andThen_ok]
  cases r with
  | none => simp [getObj, Sem.run, hb, run_checkKey w _ 9999 kt d hk hp key, run_findKey w kt d hk key es.toList none hf, hz]
  | some r => simp [getObj, Sem.run, hb, run_checkKey w _ 9999 kt d hk hp key, run_findKey w kt d hk key es.toList (some r) hf]

theorem wpList_lookup_now {P : Program} {w : World} {ops : Array Oper} {rest : List Oper} {o : Oper} {a : Act} {Q : Exit → Act → World → Prop} (hgd : o.guard = none) (t : TypeId) (m k : Operand) (ho : o.op = .lookup t m k true) (kt et : TypeId) (d : TypeDesc)
    (h : P.underlying t = some (.map kt et)) (hk : P.underlying kt = some d) (hp : plainKey d = true) (b : Nat) (es : Array MapEntry) (c : Nat) (hm : a.eval m = .map (some b)) (hb : w.heap[b]? = some (.map es c)) (r : Option (Nat × Value))
    (hf : findNow d (a.eval k) es.toList 0 = some r) (z : Value) (hz : ∀ w, (zeroValue et).run P w = .ok z w)
    (hK : wpList P ops Q rest (a.put o.dst (.tuple #[(r.map (·.2)).getD z, .bool r.isSome])) w) : wpList P ops Q (o :: rest) a w := by
  refine wpList_plain hgd fun K hK' => ?_
  have hrun := run_lookup_now (P := P) w t kt et d h hk hp b (a.eval k) es c hb r hf z hz
  unfold Oper.wp
  simp [execOp, ho, hm, hrun, Result.andThen]
  exact hK' _ _ hK
/-- a map that is being filled: block b holds these entries; what was there at first is as it was -/
structure Filled (w0 : World) (b : Nat) (es : Array MapEntry) (c : Nat) (w : World) : Prop where
  at_ : w.heap[b]? = some (.map es c)
  low : w0.heap.size ≤ b
  bel : Below w0.heap.size w0 w

end Go.Proofs.Ytcbijikalfodnaa.Maps
namespace Go.Proofs.Ytcbijikalfodnaa.Tms
open Go Go.RowKit

inductive Tm where
  | mk (k n : Int) (s : ByteArray) (args : List Tm)

def Tm.k : Tm → Int | .mk k _ _ _ => k
def Tm.n : Tm → Int | .mk _ n _ _ => n
def Tm.s : Tm → ByteArray | .mk _ _ s _ => s
def Tm.args : Tm → List Tm | .mk _ _ _ a => a

mutual
/-- the term lies at this place of this block -/
def TmAt (w : World) (P : Nat → Prop) (b o : Nat) : Tm → Prop
  | .mk k n s args => ∃ a cap, w.cell? ⟨b, o, none⟩ = some (.int .i64 k) ∧ w.cell? ⟨b, o + 1, none⟩ = some (.int .i64 n) ∧ w.cell? ⟨b, o + 2, none⟩ = some (.string s) ∧
      w.cell? ⟨b, o + 3, none⟩ = some (.slice a args.length cap) ∧ ArgsFrom w P a 0 args
/-- these terms lie one behind the other from place j of what this address leads to -/
def ArgsFrom (w : World) (P : Nat → Prop) (a : Option Addr) (j : Nat) : List Tm → Prop
  | [] => True
  | t :: ts => (∃ b off, a = some ⟨b, off, none⟩ ∧ P b ∧ TmAt w P b (off + j * 4) t) ∧ ArgsFrom w P a (j + 1) ts
end

/-- a slice value of terms -/
def IsSl (w : World) (P : Nat → Prop) (v : Value) (ts : List Tm) : Prop := ∃ a cap, v = .slice a ts.length cap ∧ ArgsFrom w P a 0 ts
/-- a term's value -/
def IsTm (w : World) (P : Nat → Prop) (v : Value) (t : Tm) : Prop := ∃ a cap, v = .agg #[.int .i64 t.k, .int .i64 t.n, .string t.s, .slice a t.args.length cap] ∧ ArgsFrom w P a 0 t.args

theorem argsFrom_iff {w : World} {P : Nat → Prop} {a : Option Addr} : ∀ {ts : List Tm} {j : Nat}, ArgsFrom w P a j ts ↔ ∀ i (h : i < ts.length), ∃ b off, a = some ⟨b, off, none⟩ ∧ P b ∧ TmAt w P b (off + (j + i) * 4) ts[i]
  | [], j => by unfold ArgsFrom; simp
  | t :: ts, j => by
    unfold ArgsFrom
    rw [argsFrom_iff]
    constructor
    · rintro ⟨h0, h⟩ i hi
      cases i with
      | zero => simpa using h0
      | succ i =>
        have := h i (by simpa using hi)
        simpa [Nat.add_assoc, Nat.add_comm 1 i] using this
    · intro h
      refine ⟨by have h0 := h 0 (Nat.zero_lt_succ _); rw [Nat.add_zero] at h0; exact h0, fun i hi => ?_⟩
      have := h (i + 1) (by simpa using hi)
      simpa [Nat.add_assoc, Nat.add_comm 1 i] using this

mutual
theorem TmAt.imp {w w' : World} {P P' : Nat → Prop} (hP : ∀ b, P b → P' b) (hw : ∀ b, P b → b < w.heap.size → w'.heap[b]? = w.heap[b]?) : ∀ (t : Tm) (b o : Nat), P b → TmAt w P b o t → TmAt w' P' b o t
  | .mk k n s args, b, o, hb, h => by
    unfold TmAt at h ⊢
    obtain ⟨a, cap, h0, h1, h2, h3, h4⟩ := h
    have hlt : b < w.heap.size := World.block_lt_of_cell? _ _ h0
    have e := fun q => World.cell?_of_block (w := w) (w' := w') (a := ⟨b, q, none⟩) (hw b hb hlt)
    exact ⟨a, cap, (e _).trans h0, (e _).trans h1, (e _).trans h2, (e _).trans h3, ArgsFrom.imp hP hw args a 0 h4⟩
theorem ArgsFrom.imp {w w' : World} {P P' : Nat → Prop} (hP : ∀ b, P b → P' b) (hw : ∀ b, P b → b < w.heap.size → w'.heap[b]? = w.heap[b]?) : ∀ (ts : List Tm) (a : Option Addr) (j : Nat), ArgsFrom w P a j ts → ArgsFrom w' P' a j ts
  | [], a, j, _ => by unfold ArgsFrom; trivial
  | t :: ts, a, j, h => by
    unfold ArgsFrom at h ⊢
    obtain ⟨⟨b, off, e, hb, ht⟩, h2⟩ := h
    exact ⟨⟨b, off, e, hP b hb, TmAt.imp hP hw t b _ hb ht⟩, ArgsFrom.imp hP hw ts a (j + 1) h2⟩
end

theorem IsSl.imp {w w' : World} {P P' : Nat → Prop} {v : Value} {ts : List Tm} (h : IsSl w P v ts) (hP : ∀ b, P b → P' b) (hw : ∀ b, P b → b < w.heap.size → w'.heap[b]? = w.heap[b]?) : IsSl w' P' v ts :=
  let ⟨a, cap, e, h⟩ := h; ⟨a, cap, e, ArgsFrom.imp hP hw ts a 0 h⟩
theorem IsTm.imp {w w' : World} {P P' : Nat → Prop} {v : Value} {t : Tm} (h : IsTm w P v t) (hP : ∀ b, P b → P' b) (hw : ∀ b, P b → b < w.heap.size → w'.heap[b]? = w.heap[b]?) : IsTm w' P' v t :=
  let ⟨a, cap, e, h⟩ := h; ⟨a, cap, e, ArgsFrom.imp hP hw t.args a 0 h⟩
theorem IsTm.below {w w' : World} {P : Nat → Prop} {v : Value} {t : Tm} (h : IsTm w P v t) (hb : Below w.heap.size w w') : IsTm w' P v t := h.imp (fun _ h => h) fun b _ hlt => hb.block b hlt
theorem IsSl.below {w w' : World} {P : Nat → Prop} {v : Value} {ts : List Tm} (h : IsSl w P v ts) (hb : Below w.heap.size w w') : IsSl w' P v ts := h.imp (fun _ h => h) fun b _ hlt => hb.block b hlt
theorem IsTm.form {w : World} {P : Nat → Prop} {v : Value} {t : Tm} (h : IsTm w P v t) : ∃ a cap, v = .agg #[.int .i64 t.k, .int .i64 t.n, .string t.s, .slice a t.args.length cap] := let ⟨a, cap, e, _⟩ := h; ⟨a, cap, e⟩
theorem IsSl.form {w : World} {P : Nat → Prop} {v : Value} {ts : List Tm} (h : IsSl w P v ts) : ∃ a cap, v = .slice a ts.length cap := let ⟨a, cap, e, _⟩ := h; ⟨a, cap, e⟩

/-- what a slice holds at place i -/
theorem IsSl.at {w : World} {P : Nat → Prop} {a : Option Addr} {len cap : Nat} {ts : List Tm} (h : IsSl w P (.slice a len cap) ts) (i : Nat) (hi : i < ts.length) :
    ∃ b off, a = some ⟨b, off, none⟩ ∧ P b ∧ TmAt w P b (off + i * 4) ts[i] := by
  obtain ⟨a', cap', e, h⟩ := h
  obtain ⟨rfl, -, -⟩ := Value.slice.inj e
  have := argsFrom_iff.1 h i hi
  simpa using this
/-- a term in memory: its four cells, and its value -/
theorem TmAt.read {w : World} {P : Nat → Prop} {b o : Nat} {t : Tm} (h : TmAt w P b o t) :
    ∃ a cap, w.cell? ⟨b, o, none⟩ = some (.int .i64 t.k) ∧ w.cell? ⟨b, o + 1, none⟩ = some (.int .i64 t.n) ∧ w.cell? ⟨b, o + 2, none⟩ = some (.string t.s) ∧ w.cell? ⟨b, o + 3, none⟩ = some (.slice a t.args.length cap) ∧
      IsTm w P (.agg #[.int .i64 t.k, .int .i64 t.n, .string t.s, .slice a t.args.length cap]) t ∧ b < w.heap.size := by
  obtain ⟨k, n, s, args⟩ := t
  unfold TmAt at h
  obtain ⟨a, cap, h0, h1, h2, h3, h4⟩ := h
  exact ⟨a, cap, h0, h1, h2, h3, ⟨a, cap, rfl, h4⟩, World.block_lt_of_cell? _ _ h0⟩
/-- back: four cells, and what their slice leads to -/
theorem TmAt.mk' {w : World} {P : Nat → Prop} {b o : Nat} {t : Tm} {a : Option Addr} {cap : Nat} (h0 : w.cell? ⟨b, o, none⟩ = some (.int .i64 t.k)) (h1 : w.cell? ⟨b, o + 1, none⟩ = some (.int .i64 t.n)) (h2 : w.cell? ⟨b, o + 2, none⟩ = some (.string t.s))
    (h3 : w.cell? ⟨b, o + 3, none⟩ = some (.slice a t.args.length cap)) (h4 : IsSl w P (.slice a t.args.length cap) t.args) : TmAt w P b o t := by
  obtain ⟨k, n, s, args⟩ := t
  unfold TmAt
  obtain ⟨a', cap', e, h⟩ := h4
  obtain ⟨rfl, -, rfl⟩ := Value.slice.inj e
  exact ⟨a, cap, h0, h1, h2, h3, h⟩
theorem IsSl.mk' {w : World} {P : Nat → Prop} {a : Option Addr} {cap : Nat} {ts : List Tm} (h : ∀ i (hi : i < ts.length), ∃ b off, a = some ⟨b, off, none⟩ ∧ P b ∧ TmAt w P b (off + i * 4) ts[i]) : IsSl w P (.slice a ts.length cap) ts :=
  ⟨a, cap, rfl, argsFrom_iff.2 fun i hi => by simpa using h i hi⟩
theorem IsSl.nil (w : World) (P : Nat → Prop) (a : Option Addr) (cap : Nat) : IsSl w P (.slice a 0 cap) [] := ⟨a, cap, rfl, by unfold ArgsFrom; trivial⟩
theorem IsTm.args {w : World} {P : Nat → Prop} {k n : Int} {s : ByteArray} {a : Option Addr} {len cap : Nat} {t : Tm} (h : IsTm w P (.agg #[.int .i64 k, .int .i64 n, .string s, .slice a len cap]) t) : IsSl w P (.slice a t.args.length cap) t.args := by
  obtain ⟨a', cap', e, h⟩ := h
  simp at e
  obtain ⟨_, _, _, rfl, _, rfl⟩ := e
  exact ⟨a, cap, rfl, h⟩
theorem IsTm.mk' {w : World} {P : Nat → Prop} {a : Option Addr} {cap : Nat} {t : Tm} (h : IsSl w P (.slice a t.args.length cap) t.args) : IsTm w P (.agg #[.int .i64 t.k, .int .i64 t.n, .string t.s, .slice a t.args.length cap]) t := by
  obtain ⟨a', cap', e, h⟩ := h
  obtain ⟨rfl, -, rfl⟩ := Value.slice.inj e
  exact ⟨a, cap, rfl, h⟩
end Go.Proofs.Ytcbijikalfodnaa.Tms
namespace Go.Proofs.Ytcbijikalfodnaa.Push
open Go Go.RowKit

theorem append_block {P : Program} {w : World} (base : Nat) (t ty e : TypeId) (i : TypeInfo) (z : Value) (size bytes : Nat) (ht : P.underlying t = some (.slice e)) (hi : P.info? e = some i) (hz : i.zero = some z) (hsize : i.size = size) (hby : i.bytes = bytes)
    (v : Value) (n : Nat) (xs : List Value) (hown : w.ownsRow base e size v n xs) (a : Addr) (c : Nat) (news : List Value) (hl : news.length = size) (hnews : ∀ j u, news[j]? = some u → w.cell? (a.add j) = some u) (h1 : ∀ u ∈ news, u.oneCell' = true)
    (h63 : n + 1 ≤ maxLen) (hbytes : (n + 1) * bytes ≤ 140737488355328) {v' : Value} {w' : World} (hr : (Builtin.append_ #[t, t] ty #[v, .slice (some a) 1 c]).run P w = .ok v' w') :
    ∀ k, v'.ownBlock = some k → v.ownBlock = some k ∨ w.heap.size ≤ k := by
  subst hsize
  subst hby
  have hsmall : n + 1 ≤ 9223372036854775807 := by simp only [maxLen] at h63; omega
  have hl' : news.length = 1 * i.size := by omega
  rcases hown.2 with ⟨rfl, rfl⟩ | ⟨g, cap, cur, rfl, hbg, hg, hnc, hcm, hcs, htake⟩
  · rw [run_append_nil (P := P) w t ty e i z ht hi hz a 1 c news hl' hnews (by omega) (by omega) (by have hb := hbytes; simp only [Nat.zero_add] at hb; omega)] at hr
    simp only [Result.ok.injEq] at hr
    obtain ⟨rfl, -⟩ := hr
    intro k hk
    simp [Value.ownBlock] at hk
    omega
  · by_cases hroom : n + 1 ≤ cap
    · have hfit : n * i.size + news.length ≤ cur.size := by
        have h2 : (n + 1) * i.size ≤ cap * i.size := Nat.mul_le_mul_right _ hroom
        rw [Nat.add_mul] at h2
        omega
      rw [run_append_room (P := P) w t ty e i ht hi g n cap cur hg a 1 c news hl' hnews h1 hroom hfit] at hr
      simp only [Result.ok.injEq] at hr
      obtain ⟨rfl, -⟩ := hr
      intro k hk
      exact .inl hk
    · rw [run_append_grow (P := P) w t ty e i z ht hi hz ⟨g, 0, none⟩ n cap xs hown.1 (hown.cells (g := g) rfl) a 1 c news hl' hnews (by omega) (by omega) (growslice_fits (by omega) hbytes)] at hr
      simp only [Result.ok.injEq] at hr
      obtain ⟨rfl, -⟩ := hr
      intro k hk
      simp [Value.ownBlock] at hk
      omega

theorem wpList_push {P : Program} {w : World} {ops : Array Oper} {rest : List Oper} {o : Oper} {a : Act} {Q : Exit → Act → World → Prop} (hgd : o.guard = none) (s x : Operand) (t : TypeId)
    (ho : o.op = .call { callee := .builtin .append, args := #[s, x], argTypes := #[t, t] })
    (base : Nat) (e : TypeId) (i : TypeInfo) (z : Value) (size bytes : Nat) (ht : P.underlying t = some (.slice e)) (hi : P.info? e = some i) (hz : i.zero = some z)
    (hsize : i.size = size) (hby : i.bytes = bytes) (hzs : z.cells.size = size) (hsz : 0 < size)
    (v : Value) (n : Nat) (xs : List Value) (hs : a.eval s = v) (hown : w.ownsRow base e size v n xs)
    (ad : Addr) (c : Nat) (news : List Value) (hx : a.eval x = .slice (some ad) 1 c) (hl : news.length = size) (hnews : ∀ j u, news[j]? = some u → w.cell? (ad.add j) = some u) (h1 : ∀ u ∈ news, u.oneCell' = true)
    (h63 : n + 1 ≤ maxLen) (hbytes : (n + 1) * bytes ≤ 140737488355328) (hbase : base ≤ w.heap.size)
    (h : ∀ v' w', w'.ownsRow base e size v' (n + 1) (xs ++ news) → w.grownBy w' v.ownBlock → (∀ k, v'.ownBlock = some k → v.ownBlock = some k ∨ w.heap.size ≤ k) → wpList P ops Q rest (a.put o.dst v') w') : wpList P ops Q (o :: rest) a w := by
  refine wpList_plain hgd fun K hK => ?_
  obtain ⟨v', w', hr, h2, h3, -⟩ := run_append_own (P := P) w base t o.type e i z size bytes ht hi hz hsize hby hzs hsz v n xs hown ad 1 c news (by omega) hnews h1 h63 hbytes hbase
  have h4 := append_block (P := P) base t o.type e i z size bytes ht hi hz hsize hby v n xs hown ad c news hl hnews h1 h63 hbytes hr
  unfold Oper.wp execOp
  simp only [ho, resolve, invoke, builtin, Sem.run_bind, Sem.run_pure, Result.andThen_ok, List.map_toArray, List.map_cons, List.map_nil, hs, hx, hr]
  exact hK _ _ (h v' w' h2 h3 h4)
/-- two results: a struct in a row, and a slot -/
theorem results_cell_tmp {P : Program} {fn : Func} {p q : Tmp} {ty : TypeId} (h : fn.results = #[.cell p ty, .tmp q]) (tmps : Array Value) (w : World) (g : Nat) (t : TypeId) (cs : Array Value) (fr : Nat × Nat) (d : TypeDesc) (x : Value)
    (hp : tmps.getD p undef = .pointer (some ⟨g, 0, none⟩)) (hx : tmps.getD q undef = x) (hg : w.heap[g]? = some (.cells cs t fr))
    (hu : P.underlying ty = some d) (hd : (match d with | .struct _ | .array _ _ => true | _ => false) = true) (hi : (P.info? ty).map (·.size) = some cs.size) :
    (results fn tmps).run P w = .ok (.tuple #[.agg cs, x]) w := by
  have hp' : tmps[p]?.getD undef = .pointer (some ⟨g, 0, none⟩) := by simpa using hp
  have hx' : tmps[q]?.getD undef = x := by simpa using hx
  simp [results, h, hp', hx', asAddr, run_loadVar_row w g t ty cs fr d hg hu hd hi]
end Go.Proofs.Ytcbijikalfodnaa.Push
namespace Go.Proofs.Ytcbijikalfodnaa.Rws
open Go Go.RowKit

/-- how cells of a row read as an element, through blocks of P -/
structure Kind (α : Type) where
  T : TypeId
  sz : Nat
  R : World → (Nat → Prop) → List Value → α → Prop
  pos : 0 < sz
  len : ∀ {w P cs a}, R w P cs a → cs.length = sz
  one : ∀ {w P cs a}, R w P cs a → ∀ v ∈ cs, v.oneCell' = true
  mono : ∀ {w w' : World} {P P' : Nat → Prop} {cs a}, (∀ b, P b → P' b) → (∀ b, P b → b < w.heap.size → w'.heap[b]? = w.heap[b]?) → R w P cs a → R w' P' cs a
  lt : ∀ {w : World} {P : Nat → Prop} {cs a}, R w P cs a → R w (fun b => P b ∧ b < w.heap.size) cs a

section
variable {α : Type} (K : Kind α)

/-- rows of cells, one an element -/
def Each (w : World) (P : Nat → Prop) : List (List Value) → List α → Prop
  | [], [] => True
  | cs :: xss, a :: l => K.R w P cs a ∧ Each w P xss l
  | _, _ => False
variable {K}
theorem Each.mono {w w' : World} {P P' : Nat → Prop} (hP : ∀ b, P b → P' b) (hw : ∀ b, P b → b < w.heap.size → w'.heap[b]? = w.heap[b]?) : ∀ {xss : List (List Value)} {l : List α}, Each K w P xss l → Each K w' P' xss l
  | [], [], _ => trivial
  | _ :: _, _ :: _, h => ⟨K.mono hP hw h.1, Each.mono hP hw h.2⟩
  | [], _ :: _, h => h.elim
  | _ :: _, [], h => h.elim
theorem Each.snoc {w : World} {P : Nat → Prop} {cs : List Value} {a : α} (ha : K.R w P cs a) : ∀ {xss : List (List Value)} {l : List α}, Each K w P xss l → Each K w P (xss ++ [cs]) (l ++ [a])
  | [], [], _ => ⟨ha, trivial⟩
  | _ :: _, _ :: _, h => ⟨h.1, Each.snoc ha h.2⟩
  | [], _ :: _, h => h.elim
  | _ :: _, [], h => h.elim
theorem Each.unsnoc {w : World} {P : Nat → Prop} {a : α} : ∀ {xss : List (List Value)} {l : List α}, Each K w P xss (l ++ [a]) → ∃ yss cs, xss = yss ++ [cs] ∧ Each K w P yss l ∧ K.R w P cs a
  | [], [], h => h.elim
  | [cs], [], h => ⟨[], cs, rfl, trivial, h.1⟩
  | _ :: _ :: _, [], h => h.2.elim
  | [], _ :: _, h => h.elim
  | x :: xss, _ :: l, h => by
    obtain ⟨yss, cs, e, h1, h2⟩ := Each.unsnoc h.2
    exact ⟨x :: yss, cs, by rw [e]; rfl, ⟨h.1, h1⟩, h2⟩
theorem Each.flat {w : World} {P : Nat → Prop} : ∀ {xss : List (List Value)} {l : List α}, Each K w P xss l → xss.flatten.length = l.length * K.sz
  | [], [], _ => by simp
  | cs :: xss, a :: l, h => by have := Each.flat h.2; have := K.len h.1; simp only [List.flatten_cons, List.length_append, List.length_cons, Nat.add_mul, Nat.one_mul]; omega
  | [], _ :: _, h => h.elim
  | _ :: _, [], h => h.elim
theorem Each.inj {w : World} {P P' : Nat → Prop} : ∀ {xss yss : List (List Value)} {l : List α}, Each K w P xss l → Each K w P' yss l → xss.flatten = yss.flatten → xss = yss
  | [], [], [], _, _, _ => rfl
  | x :: xss, y :: yss, a :: l, h, h', e => by
    simp only [List.flatten_cons] at e
    obtain ⟨rfl, e2⟩ := List.append_inj e ((K.len h.1).trans (K.len h'.1).symm)
    rw [Each.inj h.2 h'.2 e2]
  | [], _ :: _, _ :: _, h, _, _ => h.elim
  | [], _ :: _, [], _, h, _ => h.elim
  | _ :: _, [], _ :: _, _, h, _ => h.elim
  | _ :: _, [], [], h, _, _ => h.elim
  | _ :: _, _ :: _, [], h, _, _ => h.elim
  | [], [], _ :: _, h, _, _ => h.elim

variable (K)
/-- the slice value v owns a row of the call's own, from block 'base' on; it reads as l, through blocks of P that are not that row -/
def Own (w : World) (base : Nat) (P : Nat → Prop) (v : Value) (l : List α) : Prop :=
  ∃ xss : List (List Value), w.ownsRow base K.T K.sz v l.length xss.flatten ∧ Each K w (fun b => P b ∧ v.ownBlock ≠ some b ∧ b < w.heap.size) xss l
variable {K}
theorem Own.nil (w : World) (base : Nat) (P : Nat → Prop) : Own K w base P (.slice none 0 0) [] := ⟨[], World.ownsRow_nil w base _ _, trivial⟩
theorem Own.low {w : World} {base : Nat} {P : Nat → Prop} {v : Value} {l : List α} (h : Own K w base P v l) : ∀ k, v.ownBlock = some k → base ≤ k ∧ k < w.heap.size := h.choose_spec.1.lt
theorem Own.form {w : World} {base : Nat} {P : Nat → Prop} {v : Value} {l : List α} (h : Own K w base P v l) : (v = .slice none 0 0 ∧ l = []) ∨ ∃ g cap, v = .slice (some ⟨g, 0, none⟩) l.length cap := by
  obtain ⟨xss, ⟨-, ⟨h0, hn⟩ | ⟨g, cap, cur, e, -⟩⟩, -⟩ := h
  · exact .inl ⟨h0, List.eq_nil_of_length_eq_zero hn⟩
  · exact .inr ⟨g, cap, e⟩
theorem Own.below {w w' : World} {base : Nat} {P : Nat → Prop} {v : Value} {l : List α} (h : Own K w base P v l) (hb : Below w.heap.size w w') : Own K w' base P v l := by
  obtain ⟨xss, h1, h2⟩ := h
  refine ⟨xss, ⟨h1.1, ?_⟩, h2.mono (fun b h => ⟨h.1, h.2.1, Nat.lt_of_lt_of_le h.2.2 hb.size⟩) fun b _ hlt => hb.block b hlt⟩
  rcases h1.2 with h | ⟨g, cap, cur, e, h, hg, rest⟩
  · exact .inl h
  · exact .inr ⟨g, cap, cur, e, h, (hb.block g (Array.getElem?_eq_some_iff.1 hg).1).trans hg, rest⟩
/-- a world in which the row, and all that is read through, is as it was -/
theorem Own.keep {w w' : World} {base : Nat} {P : Nat → Prop} {v : Value} {l : List α} (h : Own K w base P v l) (hs : w.heap.size ≤ w'.heap.size) (hk : ∀ b, b < w.heap.size → (P b ∨ v.ownBlock = some b) → w'.heap[b]? = w.heap[b]?) : Own K w' base P v l := by
  obtain ⟨xss, h1, h2⟩ := h
  refine ⟨xss, ⟨h1.1, ?_⟩, h2.mono (fun b h => ⟨h.1, h.2.1, Nat.lt_of_lt_of_le h.2.2 hs⟩) fun b h hlt => hk b hlt (.inl h.1)⟩
  rcases h1.2 with h | ⟨g, cap, cur, e, h, hg, rest⟩
  · exact .inl h
  · exact .inr ⟨g, cap, cur, e, h, (hk g (Array.getElem?_eq_some_iff.1 hg).1 (.inr (by rw [e]; rfl))).trans hg, rest⟩

/-- the last element is taken off: its cells, and what they read as -/
theorem Own.pop {w : World} {base g cap n : Nat} {P : Nat → Prop} {l : List α} {a : α} (h : Own K w base P (.slice (some ⟨g, 0, none⟩) (n + 1) cap) (l ++ [a])) (hn : l.length = n) :
    Own K w base P (.slice (some ⟨g, 0, none⟩) n cap) l ∧ n + 1 ≤ cap ∧ cap ≤ maxLen ∧ ∃ cs, K.R w (fun b => P b ∧ g ≠ b ∧ b < w.heap.size) cs a ∧ ∀ j, j < K.sz → w.cell? ⟨g, n * K.sz + j, none⟩ = cs[j]? := by
  obtain ⟨xss, h1, h2⟩ := h
  obtain ⟨yss, cs, rfl, h3, h4⟩ := h2.unsnoc
  have hy := h3.flat
  have hl := K.len h4
  rw [hn] at hy
  rw [List.flatten_append, List.flatten_singleton] at h1
  have hne : ∀ b, (Value.slice (some ⟨g, 0, none⟩) (n + 1) cap).ownBlock ≠ some b → g ≠ b := fun b h e => h (by simp [Value.ownBlock, e])
  have e1 : (l ++ [a]).length = n + 1 := by simp [hn]
  rw [e1] at h1
  have hcell := fun j (hj : j < K.sz) => h1.cellAt (n * K.sz + j) (by rw [Nat.add_mul]; omega)
  obtain ⟨-, h5 | ⟨g', cap', cur, e, hb, hg, hc, hm, hs, ht⟩⟩ := h1
  · cases h5.1
  · simp only [Value.slice.injEq, Option.some.injEq, Addr.mk.injEq, and_true, true_and] at e
    obtain ⟨rfl, rfl⟩ := e
    refine ⟨⟨yss, ⟨by rw [hn]; exact hy, .inr ⟨_, _, cur, by rw [hn], hb, hg, by omega, hm, hs, ?_⟩⟩, h3.mono (fun b h => ⟨h.1, fun e => h.2.1 (by simpa [Value.ownBlock] using e), h.2.2⟩) fun _ _ _ => rfl⟩, hc, hm, cs, K.mono (fun b h => ⟨h.1, hne b h.2.1, h.2.2⟩) (fun _ _ _ => rfl) h4, fun j hj => ?_⟩
    · have := congrArg (List.take (n * K.sz)) ht
      rw [List.take_take, List.take_append_of_le_length (by omega), List.take_of_length_le (l := yss.flatten) (by omega)] at this
      rw [← this, hn]
      congr 1
      rw [Nat.add_mul]
      omega
    · rw [hcell j hj, List.getElem?_append_right (by omega), hy, Nat.add_sub_cancel_left]

/-- append of an element whose cells lie in a row (at place 'at' of block g) -/
theorem wpList_put {Q : Program} {w : World} {ops : Array Oper} {rest : List Oper} {o : Oper} {a : Act} {E : Exit → Act → World → Prop} (hgd : o.guard = none) (s x : Operand) (t : TypeId)
    (ho : o.op = .call { callee := .builtin .append, args := #[s, x], argTypes := #[t, t] }) (ht : Q.underlying t = some (.slice K.T)) {z : Value} {bytes : Nat} (hi : (Q.info? K.T).map (fun i => (i.zero, i.size, i.bytes)) = some (some z, K.sz, bytes)) (hz : z.cells.size = K.sz)
    (base : Nat) (P : Nat → Prop) (v : Value) (l : List α) (cs : List Value) (y : α) (g c : Nat) (T : TypeId) (fr : Nat × Nat) (hs : a.eval s = v) (hown : Own K w base P v l) (hx : a.eval x = .slice (some ⟨g, 0, none⟩) 1 c) (hg : w.heap[g]? = some (.cells cs.toArray T fr))
    (hy : K.R w (fun b => P b ∧ v.ownBlock ≠ some b) cs y) (h63 : l.length + 1 ≤ maxLen) (hlen : (l.length + 1) * bytes ≤ 140737488355328) (hbase : base ≤ w.heap.size)
    (h : ∀ v' w', Own K w' base P v' (l ++ [y]) → Below base w w' → w.grownBy w' v.ownBlock → (∀ k, v'.ownBlock = some k → v.ownBlock = some k ∨ w.heap.size ≤ k) → wpList Q ops E rest (a.put o.dst v') w') : wpList Q ops E (o :: rest) a w := by
  obtain ⟨i0, hi, hz0, hz1, hz2⟩ := info_parts hi
  obtain ⟨xss, h1, h2⟩ := id hown
  refine Push.wpList_push hgd s x t ho base K.T i0 z K.sz bytes ht hi hz0 hz1 hz2 hz K.pos v l.length xss.flatten hs h1 ⟨g, 0, none⟩ c cs hx (K.len hy) (fun j u hu => by rw [Addr.add_lit, cell_of_row w g _ _ _ _ hg, Nat.zero_add]; simpa using hu) (K.one hy) h63 hlen hbase ?_
  intro v' w' hown' hgr hv
  have hsz : w.heap.size ≤ w'.heap.size := hgr.size
  have hblk : ∀ b, b < w.heap.size → v.ownBlock ≠ some b → w'.heap[b]? = w.heap[b]? := fun b hb hne => hgr.block b hb fun e => hne e.symm
  have hne : ∀ b, b < w.heap.size → v.ownBlock ≠ some b → v'.ownBlock ≠ some b := fun b hb h e => by
    rcases hv b e with h' | h'
    · exact h h'
    · omega
  have hy' : K.R w (fun b => P b ∧ v.ownBlock ≠ some b ∧ b < w.heap.size) cs y := K.mono (fun b h => ⟨h.1.1, h.1.2, h.2⟩) (fun _ _ _ => rfl) (K.lt hy)
  refine h v' w' ⟨xss ++ [cs], by simpa using hown', (h2.snoc hy').mono (fun b h => ⟨h.1, hne b h.2.2 h.2.1, by omega⟩) fun b h _ => hblk b h.2.2 h.2.1⟩ ?_ hgr hv
  exact (Below.refl base w).grown hgr hbase fun k e => (h1.lt k e).1
end
end Go.Proofs.Ytcbijikalfodnaa.Rws
namespace Go.Proofs.Ytcbijikalfodnaa.Reg
open Go Go.RowKit

section
variable {P : Program} {ops : Array Oper} {Q : Exit → Act → World → Prop}

/-- every edge leads back -/
def backB (ops : Array Oper) : Bool :=
  (List.range ops.size).all fun i => match ops[i]? with
    | some o => o.after.all fun e => !Region.binds .any e || decide (e.on < i)
    | none => true

theorem backB_spec (h : backB ops = true) {i : Nat} {o : Oper} (ho : ops[i]? = some o) : ∀ e ∈ o.after, Region.binds .any e = true → e.on < i := by
  intro e he hb
  have h1 := List.all_eq_true.1 h i (List.mem_range.2 (Array.getElem?_eq_some_iff.1 ho).1)
  simp only [ho, Array.all_eq_true_iff_forall_mem] at h1
  simpa [hb] using h1 e he

structure Good (ops : Array Oper) (L : Array Bool) : Prop where
  size : L.size = ops.size
  closed : ∀ j oj, ops[j]? = some oj → L.getD j false = true → ∀ e ∈ oj.after, Region.binds .any e = true → L.getD e.on false = true

theorem Good.set {L : Array Bool} (g : Good ops L) {i : Nat} {o : Oper} (ho : ops[i]? = some o) (hall : ∀ e ∈ o.after, Region.binds .any e = true → L.getD e.on false = true) :
    Good ops (L.setIfInBounds i true) := by
  refine ⟨by simp [g.size], fun j oj hj hl e he hb => ?_⟩
  by_cases hij : i = j
  · subst hij
    obtain rfl : oj = o := Option.some.inj (hj.symm.trans ho)
    exact getD_set_true (hall e he hb)
  · rw [getD_set_ne false hij] at hl
    exact getD_set_true (g.closed j oj hj hl e he hb)

theorem ready_of_unlisted (hB : backB ops = true) {L : Array Bool} (g : Good ops L) : ∀ i, i < ops.size → L.getD i false = false → Region.ready .any ops L ≠ [] := by
  intro i
  induction i using Nat.strongRecOn with
  | _ i ih =>
    intro hi hf
    have ho : ops[i]? = some ops[i] := Array.getElem?_eq_getElem hi
    by_cases hall : ∀ e ∈ ops[i].after, Region.binds .any e = true → L.getD e.on false = true
    · intro h0
      have : i ∈ Region.ready .any ops L := mem_ready.2 ⟨getD_in (by rw [g.size]; exact hi) hf, _, ho, hall⟩
      rw [h0] at this
      cases this
    · have : ∃ e, e ∈ ops[i].after ∧ Region.binds .any e = true ∧ L.getD e.on false = false := by
        refine Classical.byContradiction fun hne => hall fun e he hb => ?_
        cases hc : L.getD e.on false with
        | true => rfl
        | false => exact absurd ⟨e, he, hb, hc⟩ hne
      obtain ⟨e, he, hb, hc⟩ := this
      have := backB_spec hB ho e he hb
      exact ih e.on this (by omega) hc

theorem count_set {l : List Bool} {i : Nat} (h : l[i]? = some false) : (l.set i true).count false + 1 = l.count false := by
  induction l generalizing i with
  | nil => simp at h
  | cons b l ih =>
    cases i with
    | zero => simp at h; subst h; simp
    | succ i =>
      have := ih (i := i) (by simpa using h)
      simp only [List.set_cons_succ, List.count_cons]
      omega

theorem all_of_count {l : List Bool} (h : l.count false = 0) : ∀ i, i < l.length → l[i]? = some true := by
  intro i hi
  rw [List.getElem?_eq_getElem hi]
  congr 1
  cases hb : l[i] with
  | true => rfl
  | false =>
    have : false ∈ l := hb ▸ List.getElem_mem hi
    have := List.count_pos_iff.2 this
    omega


/-! ### Where all that follows waits for all that stands ahead -/

def cutB (ops : Array Oper) (k n : Nat) : Bool :=
  ((List.range n).all fun i => decide (i < k) || (List.range (n + 1)).any fun j => decide (i < j) && Region.waitsFor .any ops j i) &&
  (List.range ops.size).all fun t => decide (t ≤ n) || (List.range t).any fun j => decide (n ≤ j) && Region.waitsFor .any ops t j

theorem cut_first {k n : Nat} (h : cutB ops k n = true) {L : Array Bool} (g : Good ops L) (hk : ∀ i, i < k → L.getD i false = true) {o : Oper} (ho : ops[n]? = some o)
    (hall : ∀ e ∈ o.after, Region.binds .any e = true → L.getD e.on false = true) : ∀ d i, n - i = d → i < n → L.getD i false = true := by
  simp only [cutB, Bool.and_eq_true, List.all_eq_true, List.mem_range, Bool.or_eq_true, decide_eq_true_eq, List.any_eq_true] at h
  intro d
  induction d using Nat.strongRecOn with
  | _ d ih =>
    intro i hd hi
    rcases h.1 i hi with hlt | ⟨j, hj, hij, hw⟩
    · exact hk i hlt
    · obtain ⟨oj, hoj, e, he, hb, hon⟩ := Region.waitsFor_spec hw
      rw [← hon]
      by_cases hjn : j = n
      · subst hjn
        obtain rfl : oj = o := Option.some.inj (hoj.symm.trans ho)
        exact hall e he hb
      · exact g.closed j oj hoj (ih (n - j) (by omega) j rfl (by omega)) e he hb

theorem cut_spec {k n : Nat} (h : cutB ops k n = true) {L : Array Bool} (g : Good ops L) (hk : ∀ i, i < k → L.getD i false = true) (hlt : n < ops.size) :
    ∀ t o, n ≤ t → ops[t]? = some o → (∀ e ∈ o.after, Region.binds .any e = true → L.getD e.on false = true) → ∀ i, i < n → L.getD i false = true := by
  intro t
  induction t using Nat.strongRecOn with
  | _ t ih =>
    intro o hnt ho hall i hi
    by_cases htn : t = n
    · subst htn
      exact cut_first h g hk ho hall (t - i) i rfl hi
    · have h2 := h
      simp only [cutB, Bool.and_eq_true, List.all_eq_true, List.mem_range, Bool.or_eq_true, decide_eq_true_eq, List.any_eq_true] at h2
      rcases h2.2 t (Array.getElem?_eq_some_iff.1 ho).1 with hle | ⟨j, hj, hnj, hw⟩
      · omega
      · obtain ⟨ot, hot, e, he, hb, hon⟩ := Region.waitsFor_spec hw
        obtain rfl : ot = o := Option.some.inj (hot.symm.trans ho)
        have hjl := hall e he hb
        rw [hon] at hjl
        have hjs : j < ops.size := by have := (Array.getElem?_eq_some_iff.1 ho).1; omega
        exact ih j hj ops[j] hnj (Array.getElem?_eq_getElem hjs) (fun e' he' hb' => g.closed j ops[j] (Array.getElem?_eq_getElem hjs) hjl e' he' hb') i hi

/-- What is left from operation k on, all ahead of it done. -/
def Rest (P : Program) (ops : Array Oper) (Q : Exit → Act → World → Prop) (k : Nat) (a : Act) (w : World) : Prop :=
  ∀ L, Good ops L → (∀ i, i < k → i < ops.size → L.getD i false = true) → (∀ i, k ≤ i → L.getD i false = false) → wpAny P .any ops Q (ops.size - k) L a w

theorem count_first : ∀ (l : List Bool) (k : Nat), (∀ i, i < k → i < l.length → l.getD i false = true) → (∀ i, k ≤ i → l.getD i false = false) → l.count false = l.length - k
  | [], k, _, _ => by simp
  | b :: l, 0, _, h2 => by
    have hb : b = false := by simpa using h2 0 (Nat.le_refl _)
    have := count_first l 0 (fun i hi => by omega) (fun i _ => by simpa using h2 (i + 1) (by omega))
    subst hb
    simp [this]
  | b :: l, k + 1, h1, h2 => by
    have hb : b = true := by simpa using h1 0 (by omega) (by simp)
    have := count_first l k (fun i hi hl => by simpa using h1 (i + 1) (by omega) (by simpa using hl)) (fun i hi => by simpa using h2 (i + 1) (by omega))
    subst hb
    simp [this]

theorem count_rest {L : Array Bool} (g : Good ops L) {k : Nat} (h1 : ∀ i, i < k → i < ops.size → L.getD i false = true) (h2 : ∀ i, k ≤ i → L.getD i false = false) : L.toList.count false = ops.size - k := by
  have := count_first L.toList k (fun i hi hl => by have := h1 i hi (by simpa [g.size] using hl); simpa using this) (fun i hi => by have := h2 i hi; simpa using this)
  simpa [g.size] using this

/-- AN INVARIANT, UP TO A PLACE WHERE ALL WAITS. -/
theorem wpAny_upto (I : Array Bool → Act → World → Prop) (hB : backB ops = true) {k n : Nat} (hn : n ≤ ops.size) (hcut : n = ops.size ∨ cutB ops k n = true)
    (hstep : ∀ L a w i o, Good ops L → i < n → ops[i]? = some o → L.getD i true = false → (∀ e ∈ o.after, Region.binds .any e = true → L.getD e.on false = true) → (∀ t, n ≤ t → L.getD t false = false) → (∀ j, j < k → L.getD j false = true) → I L a w →
      wpOp P ops Q i (I (L.setIfInBounds i true)) a w)
    (hend : ∀ L a w, (∀ i, i < n → L.getD i false = true) → I L a w → Rest P ops Q n a w) :
    ∀ fuel L a w, Good ops L → L.toList.count false = fuel → (∀ i, i < k → L.getD i false = true) → (∀ t, n ≤ t → L.getD t false = false) → I L a w → wpAny P .any ops Q fuel L a w := by
  have done : ∀ fuel L a w, Good ops L → L.toList.count false = fuel → (∀ t, n ≤ t → L.getD t false = false) → I L a w → (∀ i, i < n → L.getD i false = true) → wpAny P .any ops Q fuel L a w := by
    intro fuel L a w g hc ht hI hall
    have := hend L a w hall hI L g (fun i hi _ => hall i hi) ht
    rwa [← count_rest g (fun i hi _ => hall i hi) ht, hc] at this
  intro fuel
  induction fuel with
  | zero =>
    intro L a w g hc _ ht hI
    refine done 0 L a w g hc ht hI fun i hi => ?_
    have h1 := all_of_count hc i (by simpa [g.size] using (by omega : i < ops.size))
    have hl : i < L.size := by rw [g.size]; omega
    simp [hl] at h1 ⊢
    exact h1
  | succ fuel ih =>
    intro L a w g hc hk ht hI
    by_cases hall : ∀ i, i < n → L.getD i false = true
    · exact done _ L a w g hc ht hI hall
    · have hne : ∃ i, i < n ∧ L.getD i false = false := by
        refine Classical.byContradiction fun hno => hall fun i hi => ?_
        cases hf : L.getD i false with
        | true => rfl
        | false => exact absurd ⟨i, hi, hf⟩ hno
      obtain ⟨i0, hi0, hf0⟩ := hne
      refine ⟨fun h0 => absurd h0 (ready_of_unlisted hB g i0 (by omega) hf0), fun i hi => ?_⟩
      obtain ⟨hu, o, ho, hal⟩ := mem_ready.1 hi
      have hilt : i < ops.size := (Array.getElem?_eq_some_iff.1 ho).1
      have hin : i < n := by
        rcases Nat.lt_or_ge i n with h | h
        · exact h
        · rcases hcut with hcut | hcut
          · omega
          · have := cut_spec hcut g hk (by omega) i o h ho hal i0 hi0
            rw [this] at hf0
            cases hf0
      refine wpOp_mono (fun a' w' h' => ih _ a' w' (g.set ho hal) ?_ (fun j hj => getD_set_true (hk j hj)) (fun t htn => by rw [getD_set_ne false (by omega)]; exact ht t htn) h') (hstep L a w i o g hin ho hu hal ht hk hI)
      have hlt : i < L.size := by rw [g.size]; exact hilt
      have hf : L.toList[i]? = some false := by simp [hlt] at hu ⊢; exact hu
      have := count_set hf
      simp
      omega

theorem good_start : Good ops (Array.replicate ops.size false) :=
  ⟨by simp, fun j oj hj hl => by rw [getD_replicate_false] at hl; cases hl⟩

/-- A region that draws its order. -/
theorem wp_region_rest {id : Nat} {a : Act} {w : World} {l : List Oper} (hm : P.follows .mixedOrders = true) (h : Rest P l.toArray Q 0 a w.drew) : (Code.region id l.toArray true).wp P Q a w :=
  wp_region_any hm (by have := h _ good_start (fun i hi => by omega) (fun i _ => getD_replicate_false _ _); simpa using this)

/-- All is done. -/
theorem rest_end {k : Nat} {a : Act} {w : World} (hk : ops.size ≤ k) (h : Q .normal a w) : Rest P ops Q k a w := by
  intro L g h1 h2
  have h0 : ops.size - k = 0 := by omega
  rw [h0]
  refine ⟨List.eq_nil_iff_forall_not_mem.2 fun i hi => ?_, h⟩
  obtain ⟨hu, o, ho, _⟩ := mem_ready.1 hi
  have hlt := (Array.getElem?_eq_some_iff.1 ho).1
  have := h1 i (by omega) hlt
  rw [getD_both hu] at this
  cases this

/-- the operation at which all that follows waits, and which waits for all ahead -/
def lineB (ops : Array Oper) (k m : Nat) : Bool := (List.range m).all fun i => decide (i < k) || (i + 1 == ops.size) || cutB ops i (i + 1)

/-- where the line ends -/
def thenRest (P : Program) (ops : Array Oper) (Q : Exit → Act → World → Prop) (m : Nat) : Exit → Act → World → Prop
  | .normal, a, w => Rest P ops Q m a w
  | e, a, w => Q e a w

theorem then_rest {m : Nat} {a : Act} {w : World} (h : Rest P ops Q m a w) : thenRest P ops Q m .normal a w := h

theorem lets_then {m : Nat} (h : LetsOut (thenRest P ops Q m)) : LetsOut Q := h

theorem upon_then {m : Nat} {o : Oper} {a : Act} {K : Act → World → Prop} {r : Result Next} (h : o.upon P a K (thenRest P ops Q m) r) : o.upon P a K Q r := by
  cases r with
  | ok x w' =>
    cases x <;> simp only [Oper.upon] at h ⊢
    case value v => exact h
    case skip => exact h
    case defer d => exact h
    case enter f args => exact h.mono fun e w'' he => by cases e <;> exact he
    case row row args => exact h
  | halt x w' => cases x <;> simp only [Oper.upon] at h ⊢; exact h

/-- OPERATIONS IN A LINE: from k up to m they come in their own order. -/
theorem rest_line (k m : Nat) (hB : backB ops = true) (hkm : k ≤ m) (hm : m ≤ ops.size) (hl : lineB ops k m = true) :
    ∀ a w, wpList P ops (thenRest P ops Q m) ((ops.toList.drop k).take (m - k)) a w → Rest P ops Q k a w := by
  obtain ⟨d, rfl⟩ : ∃ d, m = k + d := ⟨m - k, by omega⟩
  clear hkm
  induction d generalizing k with
  | zero =>
    intro a w h
    simp only [Nat.add_zero, Nat.sub_self, List.take_zero, wpList] at h
    exact h
  | succ d ih =>
    intro a w h
    have hklt : k < ops.size := by omega
    have ho : ops[k]? = some ops[k] := Array.getElem?_eq_getElem hklt
    have hd : (ops.toList.drop k).take (k + (d + 1) - k) = ops[k] :: (ops.toList.drop (k + 1)).take (k + 1 + d - (k + 1)) := by
      rw [List.drop_eq_getElem_cons (by simpa using hklt), show k + (d + 1) - k = (k + 1 + d - (k + 1)) + 1 from by omega, List.take_succ_cons]
      simp
    rw [hd] at h
    have hl' : lineB ops (k + 1) (k + 1 + d) = true := by
      simp only [lineB, List.all_eq_true, List.mem_range, Bool.or_eq_true, decide_eq_true_eq] at hl ⊢
      intro i hi
      rcases hl i (by omega) with (h1 | h1) | h1
      · exact .inl (.inl (by omega))
      · exact .inl (.inr h1)
      · exact .inr h1
    have hcut : k + 1 = ops.size ∨ cutB ops k (k + 1) = true := by
      simp only [lineB, List.all_eq_true, List.mem_range, Bool.or_eq_true, decide_eq_true_eq, beq_iff_eq] at hl
      rcases hl k (by omega) with (h1 | h1) | h1
      · omega
      · exact .inl h1
      · exact .inr h1
    have key := fun a w => ih (k + 1) (by omega) (by rw [show k + 1 + d = k + 1 + d from rfl]; exact hl') a w
    rw [show k + (d + 1) = k + 1 + d from by omega] at h
    intro L g h1 h2
    refine wpAny_upto (k := k) (n := k + 1) (fun L' a' w' => (L'.getD k false = false ∧ a' = a ∧ w' = w) ∨ (L'.getD k false = true ∧ Rest P ops Q (k + 1) a' w')) hB (by omega) hcut ?_ ?_ _ L a w g (count_rest g h1 h2)
      (fun i hi => h1 i hi (by omega)) (fun t ht => h2 t (by omega)) (.inl ⟨h2 k (Nat.le_refl _), rfl, rfl⟩)
    · intro L' a' w' i o g' hi hoi hu hal htail hlow hI
      have hik : i = k := by
        rcases Nat.lt_or_ge i k with hlt | hge
        · have := hlow i hlt
          rw [getD_both hu] at this
          cases this
        · omega
      subst hik
      rcases hI with ⟨_, rfl, rfl⟩ | ⟨hk, _⟩
      · have hout : ∀ a1 w1, wpList P ops (thenRest P ops Q (i + 1 + d)) ((ops.toList.drop (i + 1)).take (i + 1 + d - (i + 1))) a1 w1 →
            ((L'.setIfInBounds i true).getD i false = false ∧ a1 = a' ∧ w1 = w') ∨ ((L'.setIfInBounds i true).getD i false = true ∧ Rest P ops Q (i + 1) a1 w1) := fun a1 w1 h' =>
          .inr ⟨by simp [g'.size, hklt], key a1 w1 h'⟩
        refine wpOp_mono hout ?_
        unfold wpOp
        simp only [ho]
        unfold wpList at h
        split
        · rename_i hw
          rw [if_pos hw] at h
          rcases h with h | ⟨h, hl⟩
          · exact .inl (upon_then h)
          · exact .inr ⟨h, lets_then hl⟩
        · rename_i hw
          rw [if_neg hw] at h
          exact h
      · rw [getD_both hu] at hk
        cases hk
    · intro L' a' w' hall hI
      rcases hI with ⟨hk, _, _⟩ | ⟨_, hr⟩
      · rw [hall k (by omega)] at hk; cases hk
      · exact hr

/-! ### Operations in whatever order, from k up to n -/

def dstOf (ops : Array Oper) (i : Nat) : Option Tmp := (ops[i]?).bind (·.dst)

/-- the frame with what operations k, k + 1, .. (so many) leave -/
def putAll (ops : Array Oper) (v : Nat → Value) (k : Nat) : Nat → Act → Act
  | 0, a => a
  | d + 1, a => (putAll ops v k d a).put (dstOf ops (k + d)) (v (k + d))

/-- what an operation waits for itself -/
def preds (ops : Array Oper) (i : Nat) : List Nat := match ops[i]? with
  | none => []
  | some o => (o.after.toList.filter (Region.binds .any)).map (·.on)

theorem preds_listed {L : Array Bool} {i : Nat} {o : Oper} (ho : ops[i]? = some o) (hall : ∀ e ∈ o.after, Region.binds .any e = true → L.getD e.on false = true) : ∀ j ∈ preds ops i, L.getD j false = true := by
  intro j hj
  simp only [preds, ho, List.mem_map, List.mem_filter] at hj
  obtain ⟨e, ⟨he, hb⟩, rfl⟩ := hj
  exact hall e (by simpa using he) hb

/-- operations k up to n write to different slots, none beyond the frame; each slot of theirs that one of them looks at is one's that it waits for -/
def headB (ops : Array Oper) (k n m : Nat) : Bool :=
  ((List.range n).all fun i => decide (i < k) || match dstOf ops i with
    | some d => decide (d < m) && (List.range n).all fun j => decide (j < k) || decide (i = j) || dstOf ops j != some d
    | none => true) &&
  ((List.range n).all fun i => decide (i < k) || match ops[i]? with
    | some o => (o.looksAt ops).all fun t => (List.range n).all fun j => decide (j < k) || dstOf ops j != some t || (preds ops i).contains j
    | none => true) && Region.noSelect ops && decide (n ≤ ops.size) && decide (k ≤ n)

structure HeadOk (ops : Array Oper) (k n m : Nat) : Prop where
  lt : ∀ (i d : Nat), k ≤ i → i < n → dstOf ops i = some d → d < m
  inj : ∀ (i j d : Nat), k ≤ i → i < n → k ≤ j → j < n → dstOf ops i = some d → dstOf ops j = some d → i = j
  sees : ∀ (i : Nat) (o : Oper) (t j : Nat), k ≤ i → i < n → ops[i]? = some o → t ∈ o.looksAt ops → k ≤ j → j < n → dstOf ops j = some t → j ∈ preds ops i
  nosel : ∀ (j : Nat) (o : Oper) cs b, ops[j]? = some o → o.op ≠ .select cs b
  le : n ≤ ops.size
  kn : k ≤ n

theorem headB_spec {k n m : Nat} (h : headB ops k n m = true) : HeadOk ops k n m := by
  simp only [headB, Bool.and_eq_true, List.all_eq_true, List.mem_range, decide_eq_true_eq, Bool.or_eq_true] at h
  obtain ⟨⟨⟨⟨h1, h2⟩, h3⟩, h4⟩, h5⟩ := h
  refine ⟨fun i d hki hi hd => ?_, fun i j d hki hi hkj hj hd hd' => ?_, fun i o t j hki hi ho ht hkj hj hd => ?_, Region.noSelect_spec h3, h4, h5⟩
  · have := (h1 i hi).resolve_left (by omega)
    simp only [hd, Bool.and_eq_true, decide_eq_true_eq] at this
    exact this.1
  · have := (h1 i hi).resolve_left (by omega)
    simp only [hd, Bool.and_eq_true, List.all_eq_true, List.mem_range] at this
    have := this.2 j hj
    have hnk : ¬ j < k := by omega
    simpa [hd', hnk] using this
  · have := (h2 i hi).resolve_left (by omega)
    simp only [ho, List.all_eq_true, List.mem_range] at this
    have := this t ht j hj
    have hnk : ¬ j < k := by omega
    simpa [hd, hnk] using this

theorem putAll_spec {v : Nat → Value} {a : Act} {k n : Nat} (hinj : ∀ (i j d : Nat), k ≤ i → i < n → k ≤ j → j < n → dstOf ops i = some d → dstOf ops j = some d → i = j) : ∀ q, k + q ≤ n →
    (putAll ops v k q a).defers = a.defers ∧ (putAll ops v k q a).tmps.size = a.tmps.size ∧
    (∀ (i d : Nat), k ≤ i → i < k + q → dstOf ops i = some d → d < a.tmps.size → (putAll ops v k q a).tmps[d]? = some (v i)) ∧
    (∀ s, (∀ i, k ≤ i → i < k + q → dstOf ops i ≠ some s) → (putAll ops v k q a).tmps[s]? = a.tmps[s]?) := by
  intro q
  induction q with
  | zero => intro _; exact ⟨rfl, rfl, fun i d hk hi => by omega, fun s _ => rfl⟩
  | succ q ih =>
    intro hq
    obtain ⟨h1, h2, h3, h4⟩ := ih (by omega)
    unfold putAll
    cases hd : dstOf ops (k + q) with
    | none =>
      refine ⟨h1, h2, fun i d hki hi hdi hlt => ?_, fun s hs => h4 s fun i hki hi => hs i hki (by omega)⟩
      by_cases hik : i = k + q
      · subst hik; rw [hd] at hdi; cases hdi
      · exact h3 i d hki (by omega) hdi hlt
    | some dk =>
      refine ⟨h1, by simp [Act.put, h2], fun i d hki hi hdi hlt => ?_, fun s hs => ?_⟩
      · by_cases hik : i = k + q
        · subst hik
          obtain rfl : dk = d := by rw [hd] at hdi; exact Option.some.inj hdi
          simp [Act.put, h2, hlt]
        · have hne : dk ≠ d := fun e => hik (hinj i (k + q) d hki (by omega) (by omega) (by omega) hdi (e ▸ hd))
          simp only [Act.put, Array.getElem?_setIfInBounds_ne hne]
          exact h3 i d hki (by omega) hdi hlt
      · have hne : dk ≠ s := fun e => hs (k + q) (by omega) (by omega) (e ▸ hd)
        simp only [Act.put, Array.getElem?_setIfInBounds_ne hne]
        exact h4 s fun i hki hi => hs i hki (by omega)

/-- Only the ordinary end. -/
def only (K : Act → World → Prop) : Exit → Act → World → Prop
  | .normal, a, w => K a w
  | _, _, _ => False

/-- What an operation leaves: nothing that was there has turned; its value. -/
def Left_ (dst : Option Tmp) (ds : List Deferred) (w : World) (S : Value → World → Prop) (K : Value → Option Nat) (a' : Act) (w' : World) : Prop :=
  a'.defers = ds ∧ Below w.heap.size w w' ∧ S (match dst with | some d => a'.tmps.getD d undef | none => undef) w' ∧
    (∀ b, K (match dst with | some d => a'.tmps.getD d undef | none => undef) = some b → w.heap.size ≤ b ∧ b < w'.heap.size)

structure HI (ops : Array Oper) (k n : Nat) (S : Nat → Value → World → Prop) (F : Nat → Value → Option Nat) (a0 : Act) (w0 : World) (L : Array Bool) (a : Act) (w : World) (v : Nat → Value) : Prop where
  defers : a.defers = a0.defers
  size : a.tmps.size = a0.tmps.size
  grow : Below w0.heap.size w0 w
  slots : ∀ (i d : Nat), k ≤ i → i < n → L.getD i false = true → dstOf ops i = some d → a.tmps[d]? = some (v i)
  others : ∀ s, (∀ i, k ≤ i → i < n → L.getD i false = true → dstOf ops i ≠ some s) → a.tmps[s]? = a0.tmps[s]?
  holds : ∀ i, k ≤ i → i < n → L.getD i false = true → S i (v i) w
  fresh : ∀ i, k ≤ i → i < n → L.getD i false = true → ∀ b, F i (v i) = some b → b < w.heap.size
  apart : ∀ i j, k ≤ i → i < n → k ≤ j → j < n → L.getD i false = true → L.getD j false = true → i ≠ j → ∀ b, F i (v i) = some b → F j (v j) ≠ some b

theorem getD_eq_of {a a' : Act} {t : Tmp} (h : a.tmps[t]? = a'.tmps[t]?) : a.eval (.tmp t) = a'.eval (.tmp t) := by
  simp [Act.eval, h]

theorem only_upon {o : Oper} {a a1 : Act} {K K' : Act → World → Prop} {r : Result Next} (hdef : ∀ a' w', K a' w' → a'.defers = a1.defers)
    (hk : ∀ v w', K (a1.put o.dst v) w' → K' (a.put o.dst v) w') (h : o.upon P a1 K (only K) r) : o.upon P a K' Q r := by
  have no : ¬ LetsOut (only K) := fun ⟨_, _, h⟩ => h
  cases r with
  | ok x w' =>
    cases x <;> simp only [Oper.upon] at h ⊢
    case value v => exact hk v w' h
    case skip => exact hk _ w' h
    case defer d =>
      have := congrArg List.length (hdef _ _ h)
      exfalso
      cases hd : o.dst <;> simp [Act.put, hd] at this
    case enter f args =>
      refine h.mono fun e w'' he => ?_
      cases e with
      | returned v => exact hk v w'' he
      | panicked c => exact he.elim
      | outgrown => exact (no he).elim
    case row row args => exact Rows.mono h fun v w'' he => hk v w'' he
  | halt x w' =>
    cases x <;> simp only [Oper.upon] at h ⊢
    case panic v => exact h.elim

theorem wpOp_of_only {i : Nat} {o : Oper} {a a1 : Act} {K K' : Act → World → Prop} {w : World} (ho : ops[i]? = some o) (hdef : ∀ a' w', K a' w' → a'.defers = a1.defers)
    (hex : execOp a1.eval o = execOp a.eval o) (hwa : Region.wanted o (yielded ops a1.tmps) = Region.wanted o (yielded ops a.tmps))
    (hk : ∀ v w', K (a1.put o.dst v) w' → K' (a.put o.dst v) w') (h : wpList P ops (only K) [o] a1 w) : wpOp P ops Q i K' a w := by
  have no : ¬ LetsOut (only K) := fun ⟨_, _, h⟩ => h
  unfold wpOp
  simp only [ho]
  unfold wpList at h
  rw [hwa] at h
  split
  · rename_i hw
    rw [if_pos hw] at h
    rcases h with h | ⟨_, h⟩
    · refine .inl ?_
      unfold Oper.wp at h ⊢
      rw [hex] at h
      exact only_upon (K := K) hdef hk h
    · exact (no h).elim
  · rename_i hw
    rw [if_neg hw] at h
    exact hk _ _ h

/-- IN WHATEVER ORDER: each operation from k up to n meets what those that it waits for have left. 'v': what they leave in their slots. -/
theorem rest_par (k n m : Nat) (S : Nat → Value → World → Prop) (F : Nat → Value → Option Nat) {a0 : Act} {w0 : World} (hB : backB ops = true)
    (hH : headB ops k n m = true) (hsz : a0.tmps.size = m) (hcut : n = ops.size ∨ cutB ops k n = true)
    (hS : ∀ i v w w', k ≤ i → i < n → S i v w → Below w.heap.size w w' → S i v w')
    (hop : ∀ i o, k ≤ i → i < n → ops[i]? = some o → ∀ (v : Nat → Value) w, Below w0.heap.size w0 w → (∀ j, (preds ops i).contains j = true → k ≤ j → j < n → S j (v j) w) →
      wpList P ops (only (Left_ o.dst a0.defers w (S i) (F i))) [o] (putAll ops v k (n - k) a0) w)
    (hend : ∀ (v : Nat → Value) w, Below w0.heap.size w0 w → (∀ i, k ≤ i → i < n → S i (v i) w) → (∀ i j, k ≤ i → i < n → k ≤ j → j < n → i ≠ j → ∀ b, F i (v i) = some b → F j (v j) ≠ some b) →
      Rest P ops Q n (putAll ops v k (n - k) a0) w) : Rest P ops Q k a0 w0 := by
  have H := headB_spec hH
  have hkn := H.kn
  intro L0 g0 h10 h20
  refine wpAny_upto (k := k) (n := n) (fun L a w => ∃ v, HI ops k n S F a0 w0 L a w v) hB H.le hcut ?_ ?_ _ L0 a0 w0 g0 (count_rest g0 h10 h20) (fun i hi => h10 i hi (by have := H.le; omega)) (fun t ht => h20 t (by omega)) ?_
  · intro L a w i o g hin ho hu hall htail hlow ⟨v, h⟩
    have hki : k ≤ i := by
      rcases Nat.lt_or_ge i k with hlt | hge
      · have := hlow i hlt
        rw [getD_both hu] at this
        cases this
      · exact hge
    have hilt : i < ops.size := (Array.getElem?_eq_some_iff.1 ho).1
    have hp : ∀ j ∈ preds ops i, L.getD j false = true := preds_listed ho hall
    let v' : Nat → Value := fun j => if L.getD j false then v j else undef
    have hv' : ∀ j, L.getD j false = true → v' j = v j := fun j hj => by simp only [v', hj, if_true]
    obtain ⟨q1, q2, q3, q4⟩ := putAll_spec (ops := ops) (v := v') (a := a0) H.inj (n - k) (by omega)
    rw [show k + (n - k) = n from by omega] at q3 q4
    have hlook : ∀ t ∈ o.looksAt ops, (putAll ops v' k (n - k) a0).tmps[t]? = a.tmps[t]? := by
      intro (t : Nat) ht
      by_cases hs : ∃ j, k ≤ j ∧ j < n ∧ dstOf ops j = some t
      · obtain ⟨j, hkj, hj, hd⟩ := hs
        have hjl := hp j (H.sees i o t j hki hin ho ht hkj hj hd)
        rw [q3 j t hkj hj hd (by have := H.lt j t hkj hj hd; rw [hsz]; exact this), h.slots j t hkj hj hjl hd, hv' j hjl]
      · rw [q4 t fun j hkj hj hd => hs ⟨j, hkj, hj, hd⟩]
        exact (h.others t fun j hkj hj _ hd => hs ⟨j, hkj, hj, hd⟩).symm
    have hlk := hop i o hki hin ho v' w h.grow (fun j hj hkj hjn => by have hj' := hp j (by simpa using hj); rw [hv' j hj']; exact h.holds j hkj hjn hj')
    refine wpOp_of_only ho (K := Left_ o.dst a0.defers w (S i) (F i)) (fun a' w' hk => hk.1.trans q1.symm) ?_ ?_ ?_ hlk
    · refine execOp_congr o (fun cs b => H.nosel i o cs b ho) fun x hx => ?_
      cases x with
      | tmp t => exact getD_eq_of (hlook t (List.mem_append_left _ (List.mem_filterMap.2 ⟨.tmp t, by simpa using hx, rfl⟩)))
      | _ => rfl
    · unfold Region.wanted
      cases hg : o.guard with
      | none => rfl
      | some gw =>
        obtain ⟨gj, want⟩ := gw
        have : yielded ops (putAll ops v' k (n - k) a0).tmps gj = yielded ops a.tmps gj := by
          unfold yielded
          cases ht : (ops[gj]?).bind (·.dst) with
          | none => rfl
          | some t => simp only [Option.bind_some, hlook t (by simp [Oper.looksAt, hg, ht])]
        simp only [this]
    · intro u w' hk
      obtain ⟨hkd, hkg, hks, hkf⟩ := hk
      have hval : ∀ d : Nat, o.dst = some d → ((putAll ops v' k (n - k) a0).put o.dst u).tmps.getD d undef = u := fun d hd => by
        have hd' : dstOf ops i = some d := by simp [dstOf, ho, hd]
        have hlt := H.lt i d hki hin hd'
        have : d < (putAll ops v' k (n - k) a0).tmps.size := by rw [q2, hsz]; exact hlt
        simp [hd, Act.put, this]
      let u' : Value := match o.dst with | some _ => u | none => undef
      have hu' : (match o.dst with | some d => ((putAll ops v' k (n - k) a0).put o.dst u).tmps.getD d undef | none => undef) = u' := by
        cases hd : o.dst with
        | none => simp only [u', hd]
        | some d => have := hval d hd; rw [hd] at this; simp only [u', hd]; exact this
      rw [hu'] at hks hkf
      have hLn : ∀ j, j ≠ i → (L.setIfInBounds i true).getD j false = L.getD j false := fun j hj => getD_set_ne false (Ne.symm hj)
      refine ⟨fun j => if j = i then u' else v j, ?_, ?_, ?_, ?_, ?_, ?_, ?_, ?_⟩
      · cases hd : o.dst <;> simp [Act.put, h.defers]
      · cases hd : o.dst <;> simp [Act.put, h.size]
      · exact h.grow.trans (hkg.mono h.grow.size)
      · intro j d hkj hj hjl hd
        by_cases hji : j = i
        · subst hji
          have hd' : o.dst = some d := by simpa [dstOf, ho] using hd
          have hlt := H.lt j d hkj hj hd
          have : d < a.tmps.size := by rw [h.size, hsz]; exact hlt
          simp [hd', Act.put, this, u']
        · rw [hLn j hji] at hjl
          have h0 := h.slots j d hkj hj hjl hd
          cases hdo : o.dst with
          | none => simp [Act.put, hji, h0]
          | some d' =>
            have hne : d' ≠ d := fun e => hji (H.inj j i d hkj hj hki hin hd (by simp [dstOf, ho, hdo, e]))
            simp [Act.put, hji, Array.getElem?_setIfInBounds_ne hne, h0]
      · intro s hs
        have h0 := h.others s fun j hkj hj hjl hd => by
          by_cases hji : j = i
          · subst hji
            rw [getD_both hu] at hjl
            cases hjl
          · exact hs j hkj hj (by rw [hLn j hji]; exact hjl) hd
        cases hdo : o.dst with
        | none => simpa [Act.put] using h0
        | some d' =>
          have hne : d' ≠ s := fun e => hs i hki hin (by simp [g.size, hilt]) (by simp [dstOf, ho, hdo, e])
          simpa [Act.put, Array.getElem?_setIfInBounds_ne hne] using h0
      · intro j hkj hj hjl
        by_cases hji : j = i
        · subst hji; simpa using hks
        · rw [hLn j hji] at hjl
          simpa [hji] using hS j _ _ _ hkj hj (h.holds j hkj hj hjl) hkg
      · intro j hkj hj hjl b hb
        by_cases hji : j = i
        · subst hji
          exact (hkf b (by simpa using hb)).2
        · rw [hLn j hji] at hjl
          have := h.fresh j hkj hj hjl b (by simpa [hji] using hb)
          have := hkg.size
          omega
      · intro j q hkj hj hkq hq hjl hql hne b hb
        by_cases hji : j = i
        · subst hji
          have hqi : q ≠ j := Ne.symm hne
          rw [hLn q hqi] at hql
          have h1 := (hkf b (by simpa using hb)).1
          intro e
          have h2 := h.fresh q hkq hq hql b (by simpa [hqi] using e)
          omega
        · rw [hLn j hji] at hjl
          by_cases hqi : q = i
          · subst hqi
            have h2 := h.fresh j hkj hj hjl b (by simpa [hji] using hb)
            intro e
            have h1 := (hkf b (by simpa using e)).1
            omega
          · rw [hLn q hqi] at hql
            have := h.apart j q hkj hj hkq hq hjl hql hne b (by simpa [hji] using hb)
            simpa [hqi] using this
  · intro L a w hall ⟨v, h⟩
    obtain ⟨q1, q2, q3, q4⟩ := putAll_spec (ops := ops) (v := v) (a := a0) H.inj (n - k) (by omega)
    rw [show k + (n - k) = n from by omega] at q3 q4
    have : a = putAll ops v k (n - k) a0 := by
      obtain ⟨t, d⟩ := a
      generalize hp : putAll ops v k (n - k) a0 = b at *
      obtain ⟨t', d'⟩ := b
      have e1 : d = d' := h.defers.trans q1.symm
      have e2 : t = t' := by
        apply Array.ext_getElem?
        intro (s : Nat)
        by_cases hs : ∃ i, k ≤ i ∧ i < n ∧ dstOf ops i = some s
        · obtain ⟨i, hki, hi, hd⟩ := hs
          have hl := H.lt i s hki hi hd
          exact (h.slots i s hki hi (hall i hi) hd).trans (q3 i s hki hi hd (hsz ▸ hl)).symm
        · exact (h.others s fun i hki hi _ hd => hs ⟨i, hki, hi, hd⟩).trans (q4 s fun i hki hi hd => hs ⟨i, hki, hi, hd⟩).symm
      rw [e1, e2]
    rw [this]
    exact hend v w h.grow (fun i hki hi => h.holds i hki hi (hall i hi)) (fun i j hki hi hkj hj => h.apart i j hki hi hkj hj (hall i hi) (hall j hj))
  · have hno : ∀ i, k ≤ i → L0.getD i false = true → False := fun i hki hl => by rw [h20 i hki] at hl; cases hl
    exact ⟨fun _ => undef, rfl, rfl, Below.refl _ _, fun i d hki _ hl => (hno i hki hl).elim, fun _ _ => rfl, fun i hki _ hl => (hno i hki hl).elim, fun i hki _ hl => (hno i hki hl).elim, fun i j hki _ _ _ hl => (hno i hki hl).elim⟩

/-- What is to be shown of each operation, one behind the other. -/
def Hops (P : Program) (ops : Array Oper) (k n : Nat) (S : Nat → Value → World → Prop) (F : Nat → Value → Option Nat) (a0 : Act) (w0 : World) : Nat → List Oper → Prop
  | _, [] => True
  | i, o :: rest => (∀ (v : Nat → Value) (w : World), Below w0.heap.size w0 w → (∀ j, (preds ops i).contains j = true → k ≤ j → j < n → S j (v j) w) →
      ∀ Q' : Exit → Act → World → Prop, (∀ a' w', Left_ o.dst a0.defers w (S i) (F i) a' w' → Q' .normal a' w') → wpList P ops Q' [o] (putAll ops v k (n - k) a0) w) ∧ Hops P ops k n S F a0 w0 (i + 1) rest

theorem hops_get {k n : Nat} {S : Nat → Value → World → Prop} {F : Nat → Value → Option Nat} {a0 : Act} {w0 : World} : ∀ (l : List Oper) (q : Nat), Hops P ops k n S F a0 w0 q l → ∀ i o, l[i]? = some o →
    ∀ (v : Nat → Value) w, Below w0.heap.size w0 w → (∀ j, (preds ops (q + i)).contains j = true → k ≤ j → j < n → S j (v j) w) →
      ∀ Q' : Exit → Act → World → Prop, (∀ a' w', Left_ o.dst a0.defers w (S (q + i)) (F (q + i)) a' w' → Q' .normal a' w') → wpList P ops Q' [o] (putAll ops v k (n - k) a0) w
  | [], _, _, i, o, hi => by simp at hi
  | x :: l, q, h, 0, o, hi => by
    obtain rfl : x = o := by simpa using hi
    exact h.1
  | x :: l, q, h, i + 1, o, hi => by
    have := hops_get l (q + 1) h.2 i o (by simpa using hi)
    rw [show q + 1 + i = q + (i + 1) from by omega] at this
    exact this

/-- The same, the operations one behind the other, what they leave said of each. -/
theorem rest_ops (k n m : Nat) (S : Nat → Value → World → Prop) (F : Nat → Value → Option Nat) {a0 : Act} {w0 : World} {l : List Oper} (hB : backB l.toArray = true)
    (hH : headB l.toArray k n m = true) (hsz : a0.tmps.size = m) (hcut : n = l.toArray.size ∨ cutB l.toArray k n = true)
    (hS : ∀ i v w w', k ≤ i → i < n → S i v w → Below w.heap.size w w' → S i v w')
    (hop : Hops P l.toArray k n S F a0 w0 k ((l.drop k).take (n - k)))
    (hend : ∀ (v : Nat → Value) w, Below w0.heap.size w0 w → (∀ i, k ≤ i → i < n → S i (v i) w) → (∀ i j, k ≤ i → i < n → k ≤ j → j < n → i ≠ j → ∀ b, F i (v i) = some b → F j (v j) ≠ some b) →
      Rest P l.toArray Q n (putAll l.toArray v k (n - k) a0) w) : Rest P l.toArray Q k a0 w0 := by
  refine rest_par k n m S F hB hH hsz hcut hS (fun i o hki hi ho v w hb hs => ?_) hend
  have := hops_get _ k hop (i - k) o (by rw [List.getElem?_take, List.getElem?_drop, if_pos (by omega), show k + (i - k) = i from by omega]; simpa using ho) v w hb
  rw [show k + (i - k) = i from by omega] at this
  exact this (fun j hj => hs j (by simpa using hj)) _ fun a' w' h => h

theorem rest_line' (k m : Nat) {l : List Oper} (hB : backB l.toArray = true) (hkm : k ≤ m) (hm : m ≤ l.length) (hl : lineB l.toArray k m = true) {a : Act} {w : World}
    (h : wpList P l.toArray (thenRest P l.toArray Q m) ((l.drop k).take (m - k)) a w) : Rest P l.toArray Q k a w :=
  rest_line k m hB hkm (by simpa using hm) hl a w (by simpa using h)

/-- the same, the operations written out -/
theorem rest_lineL (k m : Nat) {l : List Oper} (ls : List Oper) (hls : (l.drop k).take (m - k) = ls) (hB : backB l.toArray = true) (hkm : k ≤ m) (hm : m ≤ l.length) (hl : lineB l.toArray k m = true) {a : Act} {w : World}
    (h : wpList P l.toArray (thenRest P l.toArray Q m) ls a w) : Rest P l.toArray Q k a w := by
  subst hls
  exact rest_line' k m hB hkm hm hl h
theorem rest_opsL (k n m : Nat) (ls : List Oper) (S : Nat → Value → World → Prop) (F : Nat → Value → Option Nat) {a0 : Act} {w0 : World} {l : List Oper} (hls : (l.drop k).take (n - k) = ls) (hB : backB l.toArray = true)
    (hH : headB l.toArray k n m = true) (hsz : a0.tmps.size = m) (hcut : n = l.toArray.size ∨ cutB l.toArray k n = true)
    (hS : ∀ i v w w', k ≤ i → i < n → S i v w → Below w.heap.size w w' → S i v w')
    (hop : Hops P l.toArray k n S F a0 w0 k ls)
    (hend : ∀ (v : Nat → Value) w, Below w0.heap.size w0 w → (∀ i, k ≤ i → i < n → S i (v i) w) → (∀ i j, k ≤ i → i < n → k ≤ j → j < n → i ≠ j → ∀ b, F i (v i) = some b → F j (v j) ≠ some b) →
      Rest P l.toArray Q n (putAll l.toArray v k (n - k) a0) w) : Rest P l.toArray Q k a0 w0 := by
  subst hls
  exact rest_ops k n m S F hB hH hsz hcut hS hop hend

theorem hops_nil {k n : Nat} {S : Nat → Value → World → Prop} {F : Nat → Value → Option Nat} {a0 : Act} {w0 : World} {i : Nat} : Hops P ops k n S F a0 w0 i [] := trivial
theorem hops_cons {k n : Nat} {S : Nat → Value → World → Prop} {F : Nat → Value → Option Nat} {a0 : Act} {w0 : World} {i : Nat} {o : Oper} {rest : List Oper}
    (h : ∀ (v : Nat → Value) (w : World), Below w0.heap.size w0 w → (∀ j, (preds ops i).contains j = true → k ≤ j → j < n → S j (v j) w) →
      ∀ Q' : Exit → Act → World → Prop, (∀ a' w', Left_ o.dst a0.defers w (S i) (F i) a' w' → Q' .normal a' w') → wpList P ops Q' [o] (putAll ops v k (n - k) a0) w) (h' : Hops P ops k n S F a0 w0 (i + 1) rest) : Hops P ops k n S F a0 w0 i (o :: rest) := ⟨h, h'⟩

/-- just this value -/
def isV (a : Value) : Value → World → Prop := fun v _ => v = a
/-- of operation k + i: the i-th word -/
def pk (k : Nat) (l : List (Value → World → Prop)) : Nat → Value → World → Prop := fun j => l.getD (j - k) fun _ _ => True

/-- the block that a pointer leads to -/
def ptrBlk : Value → Option Nat
  | .pointer (some a) => some a.block
  | _ => none

/-- A new variable: a block of the region's own. -/
def NewVar (B : Nat) (cs : Array Value) (T : TypeId) (v : Value) (u : World) : Prop := ∃ b, v = .pointer (some ⟨b, 0, none⟩) ∧ B ≤ b ∧ u.heap[b]? = some (.cells cs T (0, 0))

theorem NewVar.below {B : Nat} {cs : Array Value} {T : TypeId} {v : Value} {u u' : World} (h : NewVar B cs T v u) (hb : Below u.heap.size u u') : NewVar B cs T v u' := by
  obtain ⟨b, h1, h2, h3⟩ := h
  exact ⟨b, h1, h2, (hb.block b (Array.getElem?_eq_some_iff.1 h3).1).trans h3⟩

theorem NewVar.made {dst : Nat} {ds : List Deferred} {a' : Act} {cs : Array Value} {T : TypeId} {w0 u : World} (hu : Below w0.heap.size w0 u) (hd : a'.defers = ds) (hv : a'.tmps.getD dst undef = .pointer (some ⟨u.heap.size, 0, none⟩)) :
    Left_ (some dst) ds u (fun v u => NewVar w0.heap.size cs T v u) ptrBlk a' (u.alloc (.cells cs T)) :=
  ⟨hd, (Below.refl _ _).alloc (Nat.le_refl _) _, ⟨u.heap.size, hv, hu.size, heap_alloc_new u _⟩, fun b hb => by
    simp only [] at hb
    rw [hv] at hb
    obtain rfl : u.heap.size = b := Option.some.inj hb
    exact ⟨Nat.le_refl _, by simp⟩⟩

end
end Go.Proofs.Ytcbijikalfodnaa.Reg
namespace Go.Proofs.Ytcbijikalfodnaa.Tms
open Go Go.RowKit Go.Proofs.Ytcbijikalfodnaa.Reg

def Says (b : Bool) (w : World) (e : Ending) (w' : World) : Prop := e = .returned (.bool b) ∧ Below w.heap.size w w'
theorem says {a b : Bool} {w w' : World} (h : a = b) (hb : Below w.heap.size w w') : Says b w (.returned (.bool a)) w' := ⟨by rw [h], hb⟩

mutual
def sameT : Tm → Tm → Bool
  | .mk k n s a, .mk k' n' s' a' => k == k' && (n == n' && (s.toList == s'.toList && (a.length == a'.length && sameL a a')))
def sameL : List Tm → List Tm → Bool
  | [], [] => true
  | t :: ts, u :: us => sameT t u && sameL ts us
  | _, _ => false
end

mutual
def Tm.size : Tm → Nat
  | .mk _ _ _ a => sizeL a + 1
def sizeL : List Tm → Nat
  | [] => 0
  | t :: ts => t.size + sizeL ts
end
theorem size_mem : ∀ {ts : List Tm} {i : Nat} (h : i < ts.length), ts[i].size ≤ sizeL ts
  | t :: ts, 0, h => by simp only [List.getElem_cons_zero, sizeL]; omega
  | t :: ts, i + 1, h => by
    have := size_mem (ts := ts) (i := i) (by simpa using h)
    simp only [List.getElem_cons_succ, sizeL]; omega

theorem size_pos (t : Tm) : 0 < t.size := by obtain ⟨k, n, s, a⟩ := t; simp [Tm.size]
theorem len_le : ∀ (ts : List Tm), ts.length ≤ sizeL ts
  | [] => by simp [sizeL]
  | t :: ts => by have := len_le ts; have := size_pos t; simp only [List.length_cons, sizeL]; omega

theorem two (w : World) (a b : Obj) : ((w.alloc a).alloc b).heap[w.heap.size]? = some a ∧ ((w.alloc a).alloc b).heap[w.heap.size + 1]? = some b ∧ ((w.alloc a).alloc b).heap.size = w.heap.size + 2 ∧ Below w.heap.size w ((w.alloc a).alloc b) :=
  ⟨heap_alloc2_old w a b, heap_alloc2_new w a b, by simp, ((Below.refl _ _).alloc (Nat.le_refl _) _).alloc (by simp) _⟩
theorem row4 {w : World} {g : Nat} {y0 y1 y2 y3 : Value} {T : TypeId} {fr : Nat × Nat} (h : w.heap[g]? = some (.cells #[y0, y1, y2, y3] T fr)) :
    w.cell? ⟨g, 0, none⟩ = some y0 ∧ w.cell? ⟨g, 1, none⟩ = some y1 ∧ w.cell? ⟨g, 2, none⟩ = some y2 ∧ w.cell? ⟨g, 3, none⟩ = some y3 :=
  ⟨cell_of_row w g 0 _ _ _ h, cell_of_row w g 1 _ _ _ h, cell_of_row w g 2 _ _ _ h, cell_of_row w g 3 _ _ _ h⟩

end Go.Proofs.Ytcbijikalfodnaa.Tms
namespace Go.Proofs.Ytcbijikalfodnaa.Tms
open Go Go.Proofs.Ytcbijikalfodnaa.Reg Go.RowKit

abbrev atomV (s : ByteArray) : Value := .agg #[.int .i64 3, .int .i64 0, .string s, .slice none 0 0]
abbrev intV (n : Int) : Value := .agg #[.int .i64 2, .int .i64 n, .string ⟨#[]⟩, .slice none 0 0]
abbrev compV (s : ByteArray) (a : Option Addr) (n cap : Nat) : Value := .agg #[.int .i64 4, .int .i64 0, .string s, .slice a n cap]
def atomT (s : ByteArray) : Tm := .mk 3 0 s []
def intT (n : Int) : Tm := .mk 2 n ⟨#[]⟩ []
def compT (s : ByteArray) (l : List Tm) : Tm := .mk 4 0 s l
theorem atom_is (w : World) (P : Nat → Prop) (s : ByteArray) : IsTm w P (atomV s) (atomT s) := IsTm.mk' (t := atomT s) (IsSl.nil w P none 0)
theorem int_is (w : World) (P : Nat → Prop) (n : Int) : IsTm w P (intV n) (intT n) := IsTm.mk' (t := intT n) (IsSl.nil w P none 0)
theorem comp_is {w : World} {P : Nat → Prop} {s : ByteArray} {a : Option Addr} {cap : Nat} {l : List Tm} (h : IsSl w P (.slice a l.length cap) l) : IsTm w P (compV s a l.length cap) (compT s l) := IsTm.mk' (t := compT s l) h
theorem one4 (k n : Int) (s : ByteArray) (a : Option Addr) (l c : Nat) : (#[Value.int .i64 k, .int .i64 n, .string s, .slice a l c].all fun v => v.oneCell') = true := by simp [Value.oneCell']
theorem size_term : (Try.prog.info? 49).map (·.size) = some 4 := by kernel_rfl

theorem argsFrom_at {w : World} {P : Nat → Prop} {a : Option Addr} {ts : List Tm} (h : ArgsFrom w P a 0 ts) (i : Nat) (hi : i < ts.length) : ∃ b off, a = some ⟨b, off, none⟩ ∧ P b ∧ TmAt w P b (off + i * 4) ts[i] := by
  have := argsFrom_iff.1 h i hi
  simpa using this
/-- copy of a whole row of elements of whatever size into a new row -/
theorem run_copy_all {P : Program} (w : World) (dT sT ty elem : TypeId) (k n g dc sc : Nat) (a : Addr) (cur : Array Value) (t : TypeId) (cs : List Value) (hu : P.underlying dT = some (.slice elem)) (hs : (P.info? elem).map (·.size) = some k)
    (hg : w.heap[g]? = some (.cells cur t (0, 0))) (hn : cs.length = n * k) (hc : cur.size = n * k) (hsrc : ∀ j v, cs[j]? = some v → w.cell? (a.add j) = some v) (h1 : ∀ v ∈ cs, v.oneCell' = true) :
    (Builtin.copy_ #[dT, sT] ty #[.slice (some ⟨g, 0, none⟩) n dc, .slice (some a) n sc]).run P w = .ok (goInt n) (w.setRow g cs.toArray) := by
  have hl := run_loadCells_list (P := P) w a cs hsrc
  have hst := run_storeCells_at P g 0 t cs 0 cur w hg (by omega) h1
  have hd : cur.toList.drop cs.length = [] := by rw [List.drop_eq_nil_iff]; simp; omega
  simp only [Nat.add_zero, Nat.zero_add, List.take_zero, List.nil_append, hd, List.append_nil] at hst
  cases hq : P.info? elem with
  | none => simp [hq] at hs
  | some i =>
    have hi : i.size = k := by simpa [hq] using hs
    simp [Builtin.copy_, run_underlying hu, Builtin.lenOf, Builtin.firstCells, sizeOf, typeInfo, hq, hi, ← hn, hl, hst]
theorem wpList_copy_all {P : Program} {w : World} {ops : Array Oper} {rest : List Oper} {o : Oper} {a : Act} {Q : Exit → Act → World → Prop} (hgd : o.guard = none) (d s : Operand) (dT sT : TypeId)
    (ho : o.op = .call { callee := .builtin .copy, args := #[d, s], argTypes := #[dT, sT] }) (elem : TypeId) (k n g dc sc : Nat) (ad : Addr) (hu : P.underlying dT = some (.slice elem)) (hs : (P.info? elem).map (·.size) = some k)
    (hd : a.eval d = .slice (some ⟨g, 0, none⟩) n dc) (hx : a.eval s = .slice (some ad) n sc) (cur : Array Value) (t : TypeId) (cs : List Value) (hg : w.heap[g]? = some (.cells cur t (0, 0))) (hn : cs.length = n * k) (hc : cur.size = n * k)
    (hsrc : ∀ j v, cs[j]? = some v → w.cell? (ad.add j) = some v) (h1 : ∀ v ∈ cs, v.oneCell' = true) (h : wpList P ops Q rest (a.put o.dst (goInt n)) (w.setRow g cs.toArray)) : wpList P ops Q (o :: rest) a w := by
  refine wpList_plain hgd fun K hK => ?_
  have hrun := run_copy_all (P := P) w dT sT o.type elem k n g dc sc ad cur t cs hu hs hg hn hc hsrc h1
  unfold Oper.wp
  simp [execOp, ho, resolve, invoke, builtin, hd, hx, hrun, Result.andThen]
  exact hK _ _ h

mutual
theorem TmAt.lt {w : World} {P : Nat → Prop} : ∀ (t : Tm) (b o : Nat), TmAt w P b o t → TmAt w (fun b => P b ∧ b < w.heap.size) b o t
  | .mk k n s args, b, o, h => by
    unfold TmAt at h ⊢
    obtain ⟨a, cap, h0, h1, h2, h3, h4⟩ := h
    exact ⟨a, cap, h0, h1, h2, h3, ArgsFrom.lt args a 0 h4⟩
theorem ArgsFrom.lt {w : World} {P : Nat → Prop} : ∀ (ts : List Tm) (a : Option Addr) (j : Nat), ArgsFrom w P a j ts → ArgsFrom w (fun b => P b ∧ b < w.heap.size) a j ts
  | [], a, j, _ => by unfold ArgsFrom; trivial
  | t :: ts, a, j, h => by
    unfold ArgsFrom at h ⊢
    obtain ⟨⟨b, off, e, hb, ht⟩, h2⟩ := h
    exact ⟨⟨b, off, e, ⟨hb, by obtain ⟨a, c, x0, -⟩ := ht.read; exact World.block_lt_of_cell? _ _ x0⟩, TmAt.lt t b _ ht⟩, ArgsFrom.lt ts a (j + 1) h2⟩
end
theorem IsTm.lt {w : World} {P : Nat → Prop} {v : Value} {t : Tm} (h : IsTm w P v t) : IsTm w (fun b => P b ∧ b < w.heap.size) v t :=
  let ⟨a, cap, e, h⟩ := h; ⟨a, cap, e, ArgsFrom.lt _ a 0 h⟩

def SP (P S : Nat → Prop) : Nat → Prop := fun b => P b ∨ S b
abbrev ptrOf (x : Nat × Nat × Tm) : Value := .pointer (some ⟨x.1, x.2.1, none⟩)
theorem nil_or_snoc {α : Type} (l : List α) : l = [] ∨ ∃ m x, l = m ++ [x] := by
  rcases List.eq_nil_or_concat l with h | ⟨m, x, h⟩
  · exact .inl h
  · exact .inr ⟨m, x, by simpa using h⟩

structure OwnInv (t : Tm) (P S : Nat → Prop) (w : World) (B : Nat) (l : List (Nat × Nat × Tm)) (wr : World) : Prop where
  mine : ∀ b, S b → B ≤ b ∧ b ≠ B + 1 ∧ ∃ cur, wr.heap[b]? = some (.cells cur 49 (0, 0))
  theirs : ∀ b, P b → b < B
  root : S B ∧ TmAt wr (SP P S) B 0 t
  items : ∀ x ∈ l, S x.1 ∧ TmAt wr (SP P S) x.1 x.2.1 x.2.2
  below : Below B w wr
  res : wr.heap[B + 1]? = some (.cells #[.int .i64 0, .int .i64 0, .string ⟨#[]⟩, .slice none 0 0] 49 (0, 0))

/-- a world in which all rows of terms, and all that was there first, are as they were -/
theorem OwnInv.keep {t : Tm} {P S : Nat → Prop} {w : World} {B : Nat} {l : List (Nat × Nat × Tm)} {wr w' : World} (h : OwnInv t P S w B l wr) (hb : Below B wr w')
    (hk : ∀ b cur, B ≤ b → wr.heap[b]? = some (.cells cur 49 (0, 0)) → w'.heap[b]? = wr.heap[b]?) : OwnInv t P S w B l w' := by
  have hsp : ∀ b, SP P S b → b < wr.heap.size → w'.heap[b]? = wr.heap[b]? := fun b hs _ => by
    rcases hs with hs | hs
    · exact hb.block b (h.theirs b hs)
    · obtain ⟨h1, -, cur, hc⟩ := h.mine b hs
      exact hk b cur h1 hc
  refine ⟨fun b hs => ?_, h.theirs, ⟨h.root.1, h.root.2.imp (fun _ h => h) hsp _ _ _ (.inr h.root.1)⟩, fun x hx => ⟨(h.items x hx).1, (h.items x hx).2.imp (fun _ h => h) hsp _ _ _ (.inr (h.items x hx).1)⟩, h.below.trans hb, (hk _ _ (by omega) h.res).trans h.res⟩
  obtain ⟨h1, h2, cur, hc⟩ := h.mine b hs
  exact ⟨h1, h2, cur, (hk b cur h1 hc).trans hc⟩

/-- a new row of terms -/
theorem OwnInv.new {t : Tm} {P S : Nat → Prop} {w : World} {B : Nat} {l : List (Nat × Nat × Tm)} {wr w' : World} (h : OwnInv t P S w B l wr) (hb : Below wr.heap.size wr w') (hB : B + 1 < wr.heap.size) {cs : Array Value}
    (hn : w'.heap[wr.heap.size]? = some (.cells cs 49 (0, 0))) : OwnInv t P (fun b => S b ∨ b = wr.heap.size) w B l w' := by
  have k := h.keep (hb.mono (by omega)) fun b cur _ hc => hb.block b (Array.getElem?_eq_some_iff.1 hc).1
  have hsp : ∀ b, SP P S b → SP P (fun b => S b ∨ b = wr.heap.size) b := fun b hs => hs.elim .inl fun h => .inr (.inl h)
  refine ⟨fun b hs => ?_, k.theirs, ⟨.inl k.root.1, k.root.2.imp hsp (fun _ _ _ => rfl) _ _ _ (.inr k.root.1)⟩, fun x hx => ⟨.inl (k.items x hx).1, (k.items x hx).2.imp hsp (fun _ _ _ => rfl) _ _ _ (.inr (k.items x hx).1)⟩, k.below, k.res⟩
  rcases hs with hs | rfl
  · exact k.mine b hs
  · exact ⟨by omega, by omega, cs, hn⟩

theorem OwnInv.more {t : Tm} {P S : Nat → Prop} {w : World} {B : Nat} {l : List (Nat × Nat × Tm)} {wr : World} (h : OwnInv t P S w B l wr) {b o : Nat} {u : Tm} (hs : S b) (hu : TmAt wr (SP P S) b o u) : OwnInv t P S w B (l ++ [(b, o, u)]) wr :=
  ⟨h.mine, h.theirs, h.root, fun x hx => by
    simp only [List.mem_append, List.mem_singleton] at hx
    rcases hx with hx | rfl
    · exact h.items x hx
    · exact ⟨hs, hu⟩, h.below, h.res⟩

/-- the stack of what waits -/
structure Stack (B : Nat) (g cap n : Nat) (l : List (Nat × Nat × Tm)) (wr : World) : Prop where
  len : l.length = n
  owns : wr.ownsRow B 142 1 (.slice (some ⟨g, 0, none⟩) n cap) n (l.map ptrOf)
theorem Stack.blk {B g cap n : Nat} {l : List (Nat × Nat × Tm)} {wr : World} (h : Stack B g cap n l wr) : ∃ cur, wr.heap[g]? = some (.cells cur 142 (0, 0)) ∧ B ≤ g := by
  obtain ⟨-, h | ⟨g', cap', cur, e, hb, hg, -⟩⟩ := h.owns
  · cases h.1
  · simp only [Value.slice.injEq, Option.some.injEq, Addr.mk.injEq, and_true, true_and] at e
    obtain ⟨rfl, rfl⟩ := e
    exact ⟨cur, hg, hb⟩

theorem Stack.other {B g cap n : Nat} {l : List (Nat × Nat × Tm)} {wr : World} (h : Stack B g cap n l wr) {b q : Nat} (hb : ∃ cur, wr.heap[b]? = some (.cells cur 49 (0, 0))) (u : Value) : Stack B g cap n l (wr.setCell ⟨b, q, none⟩ u) := by
  refine ⟨h.len, h.owns.1, ?_⟩
  rcases h.owns.2 with h2 | ⟨g', cap', cur, hv, hg, hh, r⟩
  · exact .inl h2
  · refine .inr ⟨g', cap', cur, hv, hg, (Below.heap_setCell _ _ _ _ (show g' ≠ b from fun e => ?_)).trans hh, r⟩
    obtain ⟨c, hc⟩ := hb
    rw [← e, hh] at hc
    simp at hc

theorem Stack.keep {B g cap n : Nat} {l : List (Nat × Nat × Tm)} {wr w' : World} (h : Stack B g cap n l wr) (hb : Below wr.heap.size wr w') : Stack B g cap n l w' := by
  refine ⟨h.len, h.owns.1, ?_⟩
  rcases h.owns.2 with h2 | ⟨g', cap', cur, hv, hg, hh, r⟩
  · exact .inl h2
  · exact .inr ⟨g', cap', cur, hv, hg, (hb.block _ (Array.getElem?_eq_some_iff.1 hh).1).trans hh, r⟩

theorem info_term : (Try.prog.info? 49).map (fun i => (i.zero, i.size, i.bytes)) = some (some (.agg #[.int .i64 0, .int .i64 0, .string ⟨#[]⟩, .slice none 0 0]), 4, 56) := by kernel_rfl
theorem own_row {w : World} {B g n cap k : Nat} {T : TypeId} {xs : List Value} (h : w.ownsRow B T k (.slice (some ⟨g, 0, none⟩) n cap) n xs) : ∃ cur, w.heap[g]? = some (.cells cur T (0, 0)) ∧ cur.size = cap * k := by
  obtain ⟨-, h | ⟨g', cap', cur, e, hb, hg, hc, hm, hs, ht⟩⟩ := h
  · cases h.1
  · simp only [Value.slice.injEq, Option.some.injEq, Addr.mk.injEq, and_true, true_and] at e
    obtain ⟨rfl, rfl⟩ := e
    exact ⟨cur, hg, hs⟩

theorem sizeL_take : ∀ (l : List Tm) (j : Nat), sizeL (l.take j) ≤ sizeL l
  | [], j => by simp [sizeL]
  | t :: l, 0 => by simp [sizeL]
  | t :: l, j + 1 => by have := sizeL_take l j; simp only [List.take_succ_cons, sizeL]; omega
end Go.Proofs.Ytcbijikalfodnaa.Tms
namespace Go.Proofs.Ytcbijikalfodnaa.Tms
open Go Go.RowKit

def mayB (k n : Int) (s : ByteArray) (m : Nat) : Bool :=
  if k = 1 then decide (0 ≤ n) && (s.toList.isEmpty && decide (m = 0)) else if k = 2 then s.toList.isEmpty && decide (m = 0)
  else if k = 3 then decide (n = 0) && (decide (s.size ≤ 1000) && decide (m = 0)) else if k = 4 then decide (n = 0) && (decide (s.size ≤ 1000) && (decide (1 ≤ m) && decide (m ≤ 255))) else false

set_option maxHeartbeats 1600000 in
theorem tm_may (k n : Int) (s : ByteArray) (a : Option Addr) (m c : Nat) (w : World) (hm : m ≤ 1000000000) :
    Calls Try.prog 71 #[.agg #[.int .i64 k, .int .i64 n, .string s, .slice a m c]] w (Says (mayB k n s m) w) := by
  by_cases k1 : k = 1
  · subst k1
    by_cases h1 : 0 ≤ n
    · cases h2 : s.toList.isEmpty
      · have hr : mayB 1 n s m = false := by simp [mayB, h1, h2]
        rw [hr]
        clear hr
        go_enter Try.func71, Try.ntmps71
        go_wp2
        go_ret
        exact ⟨rfl, (Below.refl _ _).alloc (Nat.le_refl _) _⟩
      · by_cases h3 : m = 0
        · have q3 : ((m : Int) == 0) = true := by rw [beq_iff_eq]; omega
          have hr : mayB 1 n s m = true := by simp [mayB, h1, h2, h3]
          rw [hr]
          clear hr
          go_enter Try.func71, Try.ntmps71
          go_wp2
          go_ret
          exact ⟨rfl, (Below.refl _ _).alloc (Nat.le_refl _) _⟩
        · have q3 : ((m : Int) == 0) = false := by rw [beq_eq_false_iff_ne]; omega
          have hr : mayB 1 n s m = false := by simp [mayB, h1, h2, h3]
          rw [hr]
          clear hr
          go_enter Try.func71, Try.ntmps71
          go_wp2
          go_ret
          exact ⟨rfl, (Below.refl _ _).alloc (Nat.le_refl _) _⟩
    · have hr : mayB 1 n s m = false := by simp [mayB, h1]
      rw [hr]
      clear hr
      go_enter Try.func71, Try.ntmps71
      go_wp2
      go_ret
      exact ⟨rfl, (Below.refl _ _).alloc (Nat.le_refl _) _⟩
  by_cases k2 : k = 2
  · subst k2
    cases h1 : s.toList.isEmpty
    · have hr : mayB 2 n s m = false := by simp [mayB, h1]
      rw [hr]
      clear hr
      go_enter Try.func71, Try.ntmps71
      go_wp2
      go_ret
      exact ⟨rfl, (Below.refl _ _).alloc (Nat.le_refl _) _⟩
    · by_cases h2 : m = 0
      · have q2 : ((m : Int) == 0) = true := by rw [beq_iff_eq]; omega
        have hr : mayB 2 n s m = true := by simp [mayB, h1, h2]
        rw [hr]
        clear hr
        go_enter Try.func71, Try.ntmps71
        go_wp2
        go_ret
        exact ⟨rfl, (Below.refl _ _).alloc (Nat.le_refl _) _⟩
      · have q2 : ((m : Int) == 0) = false := by rw [beq_eq_false_iff_ne]; omega
        have hr : mayB 2 n s m = false := by simp [mayB, h1, h2]
        rw [hr]
        clear hr
        go_enter Try.func71, Try.ntmps71
        go_wp2
        go_ret
        exact ⟨rfl, (Below.refl _ _).alloc (Nat.le_refl _) _⟩
  by_cases k3 : k = 3
  · subst k3
    by_cases h1 : n = 0
    · have q1 : (n == 0) = true := by rw [beq_iff_eq]; omega
      by_cases h2 : s.size ≤ 1000
      · by_cases h3 : m = 0
        · have q3 : ((m : Int) == 0) = true := by rw [beq_iff_eq]; omega
          have hr : mayB 3 n s m = true := by simp [mayB, h1, h2, h3]
          rw [hr]
          clear hr
          go_enter Try.func71, Try.ntmps71
          go_wp2
          go_ret
          exact ⟨rfl, (Below.refl _ _).alloc (Nat.le_refl _) _⟩
        · have q3 : ((m : Int) == 0) = false := by rw [beq_eq_false_iff_ne]; omega
          have hr : mayB 3 n s m = false := by simp [mayB, h1, h2, h3]
          rw [hr]
          clear hr
          go_enter Try.func71, Try.ntmps71
          go_wp2
          go_ret
          exact ⟨rfl, (Below.refl _ _).alloc (Nat.le_refl _) _⟩
      · have hr : mayB 3 n s m = false := by simp [mayB, h1, h2]
        rw [hr]
        clear hr
        go_enter Try.func71, Try.ntmps71
        go_wp2
        go_ret
        exact ⟨rfl, (Below.refl _ _).alloc (Nat.le_refl _) _⟩
    · have q1 : (n == 0) = false := by rw [beq_eq_false_iff_ne]; omega
      have hr : mayB 3 n s m = false := by simp [mayB, h1]
      rw [hr]
      clear hr
      go_enter Try.func71, Try.ntmps71
      go_wp2
      go_ret
      exact ⟨rfl, (Below.refl _ _).alloc (Nat.le_refl _) _⟩
  by_cases k4 : k = 4
  · subst k4
    by_cases h1 : n = 0
    · have q1 : (n == 0) = true := by rw [beq_iff_eq]; omega
      by_cases h2 : s.size ≤ 1000
      · by_cases h3 : 1 ≤ m
        · by_cases h4 : m ≤ 255
          · have q4 : decide ((m : Int) ≤ 255) = true := by simp; omega
            have hr : mayB 4 n s m = true := by simp [mayB, h1, h2, h3, h4]
            rw [hr]
            clear hr
            go_enter Try.func71, Try.ntmps71
            go_wp2
            go_ret
            exact ⟨rfl, (Below.refl _ _).alloc (Nat.le_refl _) _⟩
          · have q4 : decide ((m : Int) ≤ 255) = false := by simp; omega
            have hr : mayB 4 n s m = false := by simp [mayB, h1, h2, h3, h4]
            rw [hr]
            clear hr
            go_enter Try.func71, Try.ntmps71
            go_wp2
            go_ret
            exact ⟨rfl, (Below.refl _ _).alloc (Nat.le_refl _) _⟩
        · have hr : mayB 4 n s m = false := by simp [mayB, h1, h2, h3]
          rw [hr]
          clear hr
          go_enter Try.func71, Try.ntmps71
          go_wp2
          go_ret
          exact ⟨rfl, (Below.refl _ _).alloc (Nat.le_refl _) _⟩
      · have hr : mayB 4 n s m = false := by simp [mayB, h1, h2]
        rw [hr]
        clear hr
        go_enter Try.func71, Try.ntmps71
        go_wp2
        go_ret
        exact ⟨rfl, (Below.refl _ _).alloc (Nat.le_refl _) _⟩
    · have q1 : (n == 0) = false := by rw [beq_eq_false_iff_ne]; omega
      have hr : mayB 4 n s m = false := by simp [mayB, h1]
      rw [hr]
      clear hr
      go_enter Try.func71, Try.ntmps71
      go_wp2
      go_ret
      exact ⟨rfl, (Below.refl _ _).alloc (Nat.le_refl _) _⟩
  have g1 : (k == 1) = false := by simpa using k1
  have g2 : (k == 2) = false := by simpa using k2
  have g3 : (k == 3) = false := by simpa using k3
  have g4 : (k == 4) = false := by simpa using k4
  have hr : mayB k n s m = false := by simp [mayB, k1, k2, k3, k4]
  rw [hr]
  clear hr k1 k2 k3 k4
  go_enter Try.func71, Try.ntmps71
  go_wp2
  go_ret
  exact ⟨rfl, (Below.refl _ _).alloc (Nat.le_refl _) _⟩
end Go.Proofs.Ytcbijikalfodnaa.Tms
namespace Go.Proofs.Ytcbijikalfodnaa.Tms
open Go Go.RowKit

def Took (b : Nat) (bad : Bool) (sz dp : Int) (w : World) (e : Ending) (w' : World) : Prop :=
  e = .returned (.tuple #[]) ∧ w'.heap[b]? = some (.cells #[.bool bad, .int .i64 sz, .int .i64 dp] 135 (0, 0)) ∧ w.grownBy w' (some b)

theorem meas_two {w : World} {b : Nat} {bad : Bool} {sz dp y : Int} (x : Int) (hb : w.heap[b]? = some (.cells #[.bool bad, .int .i64 sz, .int .i64 dp] 135 (0, 0))) :
    ((w.setCell ⟨b, 1, none⟩ (.int .i64 y)).setCell ⟨b, 2, none⟩ (.int .i64 x)).heap[b]? = some (.cells #[.bool bad, .int .i64 y, .int .i64 x] 135 (0, 0)) ∧ w.grownBy ((w.setCell ⟨b, 1, none⟩ (.int .i64 y)).setCell ⟨b, 2, none⟩ (.int .i64 x)) (some b) := by
  have h1 := heap_setCell_same w b 1 _ _ (.int .i64 y) hb
  have h2 := heap_setCell_same _ b 2 _ _ (.int .i64 x) h1
  refine ⟨by simpa using h2, ⟨rfl, rfl, rfl, by simp [World.setCell], fun k _ hk => ?_⟩⟩
  have hne : k ≠ b := fun e => hk (by rw [e])
  exact (Below.heap_setCell _ _ _ _ hne).trans (Below.heap_setCell _ _ _ _ hne)

set_option maxHeartbeats 1600000 in
theorem tm_take (b : Nat) (bad : Bool) (sz dp d k n : Int) (s : ByteArray) (a : Option Addr) (m c : Nat) (w : World) (hm : m ≤ 1000000000) (h0 : 0 ≤ sz) (h1 : sz ≤ 1000000000)
    (hb : w.heap[b]? = some (.cells #[.bool bad, .int .i64 sz, .int .i64 dp] 135 (0, 0))) :
    Calls Try.prog 70 #[.pointer (some ⟨b, 0, none⟩), .agg #[.int .i64 k, .int .i64 n, .string s, .slice a m c], .int .i64 d] w (Took b (bad || !mayB k n s m) (sz + 1) (max dp d) w) := by
  have c0 : w.cell? ⟨b, 0, none⟩ = some (.bool bad) := cell_of_row w b 0 _ _ _ hb
  have c1 : w.cell? ⟨b, 1, none⟩ = some (.int .i64 sz) := cell_of_row w b 1 _ _ _ hb
  have c2 : w.cell? ⟨b, 2, none⟩ = some (.int .i64 dp) := cell_of_row w b 2 _ _ _ hb
  have hlt : b < w.heap.size := (Array.getElem?_eq_some_iff.1 hb).1
  have z1 : w.frozen? ⟨b, 1, none⟩ = false := frozen_of_row w b 1 _ _ hb
  have z2 : w.frozen? ⟨b, 2, none⟩ = false := frozen_of_row w b 2 _ _ hb
  have HB := Lib.hid hb
  clear hb
  cases hmay : mayB k n s m
  all_goals
    have HMAY := Lib.hid hmay
    clear hmay
    go_enter Try.func70, Try.ntmps70
    go_wp2_with fail
    all_goals
      first
        | (have hx := meas_two (y := sz + 1) dp HB.out
           have hmx : max dp d = dp := by omega
           have hbm : Below b w ((w.setCell ⟨b, 1, none⟩ (.int .i64 (sz + 1))).setCell ⟨b, 2, none⟩ (.int .i64 dp)) := (Below.refl b w).grown hx.2 (Nat.le_of_lt hlt) (by intro k e; cases e; exact Nat.le_refl _)
           generalize ((w.setCell ⟨b, 1, none⟩ (.int .i64 (sz + 1))).setCell ⟨b, 2, none⟩ (.int .i64 dp)) = W2 at *)
        | (have hx := meas_two (y := sz + 1) d HB.out
           have hmx : max dp d = d := by omega
           have hbm : Below b w ((w.setCell ⟨b, 1, none⟩ (.int .i64 (sz + 1))).setCell ⟨b, 2, none⟩ (.int .i64 d)) := (Below.refl b w).grown hx.2 (Nat.le_of_lt hlt) (by intro k e; cases e; exact Nat.le_refl _)
           generalize ((w.setCell ⟨b, 1, none⟩ (.int .i64 (sz + 1))).setCell ⟨b, 2, none⟩ (.int .i64 d)) = W2 at *)
      have hl2 : b < W2.heap.size := (Array.getElem?_eq_some_iff.1 hx.1).1
      refine (tm_may k n s a m c _ hm).mono ?_
      rintro e w3 ⟨rfl, hb3⟩
      rw [HMAY.out]
      have h3 := (hb3.block b (by simp; omega)).trans ((heap_alloc_old _ _ hl2).trans hx.1)
      have g3 : w.grownBy w3 (some b) := ⟨hb3.os.trans hx.2.os, hb3.tape.trans hx.2.tape, hb3.output.trans hx.2.output, by have := hb3.size; have := hx.2.size; simp at *; omega, fun q hq hne => (hb3.block q (by have := hx.2.size; simp; omega)).trans ((heap_alloc_old _ _ (by have := hx.2.size; omega)).trans (hx.2.block q hq hne))⟩
      have y0 := cell_of_row w3 b 0 _ _ _ h3
      have yz := frozen_of_row w3 b 0 _ _ h3
      have hs3 := heap_setCell_same w3 b 0 _ _ (.bool true) h3
      have g4 : w.grownBy (w3.setCell ⟨b, 0, none⟩ (.bool true)) (some b) := ⟨g3.os, g3.tape, g3.output, by have := g3.size; simpa [World.setCell] using this, fun q hq hne => (Below.heap_setCell _ _ _ _ (fun e => hne (by rw [e]))).trans (g3.block q hq hne)⟩
      have H3 := Lib.hid h3
      have G3 := Lib.hid g3
      have HS3 := Lib.hid hs3
      have G4 := Lib.hid g4
      have HMX := Lib.hid hmx
      clear h3 g3 hs3 g4 hmx hx hbm hb3 c0 c1 c2 z1 z2
      go_wp2
      refine ⟨rfl, .tuple #[], by simp [results, Try.results70, go_sem], rfl, ?_⟩
      rw [HMX.out]
      first
        | exact ⟨by simpa using HS3.out, G4.out⟩
        | exact ⟨by simpa using H3.out, G3.out⟩
end Go.Proofs.Ytcbijikalfodnaa.Tms
namespace Go.Proofs.Ytcbijikalfodnaa.Tms
open Go Go.RowKit Go.Proofs.Ytcbijikalfodnaa.Reg

/-- these cells are these terms', four each -/
def CellsOf (w : World) (P : Nat → Prop) : List Value → List Tm → Prop
  | [], [] => True
  | k :: n :: s :: l :: rest, t :: ts => k = .int .i64 t.k ∧ n = .int .i64 t.n ∧ s = .string t.s ∧ (∃ a c, l = .slice a t.args.length c ∧ ArgsFrom w P a 0 t.args) ∧ CellsOf w P rest ts
  | _, _ => False

theorem CellsOf.imp2 {w w' : World} {P P' : Nat → Prop} (hP : ∀ b, P b → P' b) (hw : ∀ b, P b → b < w.heap.size → w'.heap[b]? = w.heap[b]?) : ∀ {xs : List Value} {ts : List Tm}, CellsOf w P xs ts → CellsOf w' P' xs ts
  | [], [], _ => trivial
  | _ :: _ :: _ :: _ :: _, _ :: _, ⟨h1, h2, h3, ⟨a, c, e, h4⟩, h5⟩ => ⟨h1, h2, h3, ⟨a, c, e, ArgsFrom.imp hP hw _ _ _ h4⟩, CellsOf.imp2 hP hw h5⟩
  | [], _ :: _, h => h.elim
  | _ :: [], [], h => h.elim
  | _ :: [], _ :: _, h => h.elim
  | _ :: _ :: [], [], h => h.elim
  | _ :: _ :: [], _ :: _, h => h.elim
  | _ :: _ :: _ :: [], [], h => h.elim
  | _ :: _ :: _ :: [], _ :: _, h => h.elim
  | _ :: _ :: _ :: _ :: _, [], h => h.elim

theorem CellsOf.snoc {w : World} {P : Nat → Prop} {c0 c1 c2 c3 : Value} {t : Tm} (ht : IsTm w P (.agg #[c0, c1, c2, c3]) t) : ∀ {xs : List Value} {ts : List Tm}, CellsOf w P xs ts → CellsOf w P (xs ++ [c0, c1, c2, c3]) (ts ++ [t])
  | [], [], _ => by
    obtain ⟨a, c, e, h⟩ := ht
    simp only [Value.agg.injEq, Array.mk.injEq, List.cons.injEq, and_true] at e
    obtain ⟨rfl, rfl, rfl, rfl⟩ := e
    exact ⟨rfl, rfl, rfl, ⟨a, c, rfl, h⟩, trivial⟩
  | _ :: _ :: _ :: _ :: _, _ :: _, ⟨h1, h2, h3, h4, h5⟩ => ⟨h1, h2, h3, h4, CellsOf.snoc ht h5⟩
  | [], _ :: _, h => h.elim
  | _ :: [], [], h => h.elim
  | _ :: [], _ :: _, h => h.elim
  | _ :: _ :: [], [], h => h.elim
  | _ :: _ :: [], _ :: _, h => h.elim
  | _ :: _ :: _ :: [], [], h => h.elim
  | _ :: _ :: _ :: [], _ :: _, h => h.elim
  | _ :: _ :: _ :: _ :: _, [], h => h.elim

theorem CellsOf.at_ {w : World} {P : Nat → Prop} {g : Nat} : ∀ {xs : List Value} {ts : List Tm} (o : Nat), CellsOf w P xs ts → (∀ j v, xs[j]? = some v → w.cell? ⟨g, o + j, none⟩ = some v) → ∀ i (hi : i < ts.length), TmAt w P g (o + i * 4) ts[i]
  | [], [], _, _, _, i, hi => by simp at hi
  | k :: n :: s :: l :: rest, t :: ts, o, ⟨h1, h2, h3, ⟨a, c, e, h4⟩, h5⟩, hc, 0, _ => by
    have x0 := hc 0 _ rfl
    have x1 := hc 1 _ rfl
    have x2 := hc 2 _ rfl
    have x3 := hc 3 _ rfl
    rw [h1] at x0; rw [h2] at x1; rw [h3] at x2; rw [e] at x3
    simp only [Nat.add_zero, Nat.zero_mul, List.getElem_cons_zero] at x0 ⊢
    exact TmAt.mk' x0 x1 x2 x3 ⟨a, c, rfl, h4⟩
  | k :: n :: s :: l :: rest, t :: ts, o, ⟨_, _, _, _, h5⟩, hc, i + 1, hi => by
    have := CellsOf.at_ (o + 4) h5 (fun j v hj => by rw [show o + 4 + j = o + (j + 4) by omega]; exact hc (j + 4) v (by simpa using hj)) i (by simpa using hi)
    rw [show o + (i + 1) * 4 = o + 4 + i * 4 by omega]
    exact this
  | [], _ :: _, _, h, _, _, _ => h.elim
  | _ :: [], [], _, h, _, _, _ => h.elim
  | _ :: [], _ :: _, _, h, _, _, _ => h.elim
  | _ :: _ :: [], [], _, h, _, _, _ => h.elim
  | _ :: _ :: [], _ :: _, _, h, _, _, _ => h.elim
  | _ :: _ :: _ :: [], [], _, h, _, _, _ => h.elim
  | _ :: _ :: _ :: [], _ :: _, _, h, _, _, _ => h.elim
  | _ :: _ :: _ :: _ :: _, [], _, h, _, _, _ => h.elim

/-- the slice value v owns a row of the call's own, from block 'base' on; it reads as ts, through blocks of P that are not that row -/
def OwnSl (w : World) (base : Nat) (P : Nat → Prop) (v : Value) (ts : List Tm) : Prop :=
  ∃ xs, w.ownsRow base 49 4 v ts.length xs ∧ CellsOf w (fun b => P b ∧ v.ownBlock ≠ some b ∧ b < w.heap.size) xs ts

theorem OwnSl.nil (w : World) (base : Nat) (P : Nat → Prop) : OwnSl w base P (.slice none 0 0) [] := ⟨[], World.ownsRow_nil w base _ _, trivial⟩
theorem OwnSl.form {w : World} {base : Nat} {P : Nat → Prop} {v : Value} {ts : List Tm} (h : OwnSl w base P v ts) : ∃ a c, v = .slice a ts.length c := by
  obtain ⟨xs, ⟨-, ⟨rfl, hn⟩ | ⟨g, cap, cur, e, -⟩⟩, -⟩ := h
  · exact ⟨none, 0, by rw [hn]⟩
  · exact ⟨_, _, e⟩
theorem OwnSl.low {w : World} {base : Nat} {P : Nat → Prop} {v : Value} {ts : List Tm} (h : OwnSl w base P v ts) : ∀ k, v.ownBlock = some k → base ≤ k ∧ k < w.heap.size := h.choose_spec.1.lt

theorem OwnSl.below {w w' : World} {base : Nat} {P : Nat → Prop} {v : Value} {ts : List Tm} (h : OwnSl w base P v ts) (hb : Below w.heap.size w w') : OwnSl w' base P v ts := by
  obtain ⟨xs, h1, h2⟩ := h
  refine ⟨xs, ⟨h1.1, ?_⟩, h2.imp2 (fun b h => ⟨h.1, h.2.1, Nat.lt_of_lt_of_le h.2.2 hb.size⟩) fun b _ hlt => hb.block b hlt⟩
  rcases h1.2 with h | ⟨g, cap, cur, e, h, hg, rest⟩
  · exact .inl h
  · exact .inr ⟨g, cap, cur, e, h, (hb.block g (Array.getElem?_eq_some_iff.1 hg).1).trans hg, rest⟩

theorem OwnSl.push {w w' : World} {base : Nat} {P : Nat → Prop} {v v' : Value} {ts : List Tm} {c0 c1 c2 c3 : Value} {t : Tm} {cs : Array Value} {xs : List Value} {T : TypeId} (h : OwnSl w base P v ts) (ht : IsTm w (fun b => P b ∧ v.ownBlock ≠ some b) (.agg #[c0, c1, c2, c3]) t)
    (hx : w.ownsRow base 49 4 v ts.length xs) (hown : w'.ownsRow base 49 4 v' (ts.length + 1) (xs ++ [c0, c1, c2, c3])) (hg : (w.alloc (.cells cs T (0, 0))).grownBy w' v.ownBlock) (hbase : base ≤ w.heap.size)
    (hv : ∀ k, v'.ownBlock = some k → v.ownBlock = some k ∨ w.heap.size ≤ k) :
    OwnSl w' base P v' (ts ++ [t]) ∧ Below base w w' := by
  obtain ⟨xs', h1, h2⟩ := h
  have ex : xs' = xs := by
    rcases h1.2 with ⟨rfl, hn⟩ | ⟨g, cap, cur, e, -, hg, -, -, -, ht⟩
    · have a := h1.1; have b := hx.1; rw [hn] at a b; simp at a b; rw [a, b]
    · rcases hx.2 with ⟨e', hn⟩ | ⟨g', cap', cur', e', -, hg', -, -, -, ht'⟩
      · rw [e] at e'; cases e'
      · rw [e] at e'
        simp only [Value.slice.injEq, Option.some.injEq, Addr.mk.injEq, and_true] at e'
        obtain ⟨rfl, -, -⟩ := e'
        rw [hg] at hg'
        simp only [Option.some.injEq, Obj.cells.injEq, and_true] at hg'
        rw [← ht, ← ht', hg']
  subst ex
  have hblk : ∀ b, b < w.heap.size → v.ownBlock ≠ some b → w'.heap[b]? = w.heap[b]? := fun b hb hne => (hg.block b (by simp; omega) fun e => hne e.symm).trans (heap_alloc_old _ _ hb)
  have hsz : w.heap.size < w'.heap.size := by have := hg.size; simp at this; omega
  have hne : ∀ b, b < w.heap.size → v.ownBlock ≠ some b → v'.ownBlock ≠ some b := fun b hb h e => by
    rcases hv b e with h' | h'
    · exact h h'
    · omega
  have ht' : IsTm w (fun b => P b ∧ v.ownBlock ≠ some b ∧ b < w.heap.size) (.agg #[c0, c1, c2, c3]) t := ht.lt.imp (fun b h => ⟨h.1.1, h.1.2, h.2⟩) fun _ _ _ => rfl
  refine ⟨⟨xs' ++ [c0, c1, c2, c3], by simpa using hown, (h2.snoc ht').imp2 (fun b h => ⟨h.1, hne b h.2.2 h.2.1, by omega⟩) fun b h _ => hblk b h.2.2 h.2.1⟩, ?_⟩
  exact ((Below.refl base w).alloc hbase _).grown hg (by simp; omega) fun k e => (h1.lt k e).1

end Go.Proofs.Ytcbijikalfodnaa.Tms
