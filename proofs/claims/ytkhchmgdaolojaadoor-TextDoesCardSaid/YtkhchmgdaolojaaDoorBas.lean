
/-
  Maps that the call itself makes, with numbers or texts as keys: a new entry, a look. Plain laws over any program.
  Terms as plain trees, and how a term lies in memory. No program stands here. 'P' says which blocks a reading may pass: so that a store into another block leaves it as it was.
  append of one element to a row of the call's own: the new value's row is the old one or a new block. A plain law over any program.
  A slice that the call itself keeps, of elements of whatever kind: what it owns, and what it reads as; an element is taken off its end, one is put behind it. Plain laws over any program.
-/
import Derived.WalkKit
import Derived.OwnWalk
import Derived.Lib.Hide
namespace Go.Proofs.YtkhchmgdaolojaaDoor.Maps
open Go Go.RowKit Go.Instr

def plainKey : TypeDesc → Bool
  | .int _ => true
  | .string => true
  | _ => false

theorem run_checkKey {P : Program} (w : World) (b : Bool) (n : Nat) (t : TypeId) (d : TypeDesc) (h : P.underlying t = some d) (hp : plainKey d = true) (v : Value) : (checkKey b (n + 1) t v).run P w = .ok () w := by
  unfold checkKey
  simp only [Sem.run_bind, run_underlying h, Result.andThen_ok]
  cases d <;> simp [plainKey] at hp <;> rfl

theorem run_findKey {P : Program} (w : World) (t : TypeId) (d : TypeDesc) (h : P.underlying t = some d) (k : Value) (es : List MapEntry) (r : Option (Nat × Value)) (hf : findNow d k es 0 = some r) : (findKey t k es).run P w = .ok r w := by
  unfold findKey
  simp [Sem.run_bind, run_underlying h, hf]

def World.setObj' (w : World) (b : Nat) (o : Obj) : World := { w with heap := w.heap.setIfInBounds b o }
theorem setObj'_at (w : World) (b : Nat) (o : Obj) (h : b < w.heap.size) : (World.setObj' w b o).heap[b]? = some o := by simp [World.setObj', h]
theorem setObj'_grown (w : World) (b : Nat) (o : Obj) : w.grownBy (World.setObj' w b o) (some b) :=
  ⟨rfl, rfl, rfl, by simp [World.setObj'], fun k _ hk => by simp only [World.setObj']; rw [Array.getElem?_setIfInBounds, if_neg (by intro e; exact hk (by rw [e]))]⟩

theorem run_insert_new {P : Program} (w : World) (t kt et : TypeId) (d : TypeDesc) (h : P.underlying t = some (.map kt et)) (hk : P.underlying kt = some d) (hp : plainKey d = true) (b : Nat) (key val : Value) (es : Array MapEntry) (c : Nat)
    (hb : w.heap[b]? = some (.map es c)) (hf : findNow d key es.toList 0 = some none) : (Instr.mapUpdate t (.map (some b)) key val).run P w = .ok () (World.setObj' w b (.map (es.push ⟨key, val, c⟩) (c + 1))) := by
  unfold Instr.mapUpdate
  simp only [Sem.run_bind, run_underlying h, Result.andThen_ok]
  simp [getObj, Sem.run, hb, run_checkKey w false 9999 kt d hk hp key, run_findKey w kt d hk key es.toList none hf, setObj, World.setObj']

theorem wpList_insert_new {P : Program} {w : World} {ops : Array Oper} {rest : List Oper} {o : Oper} {a : Act} {Q : Exit → Act → World → Prop} (hgd : o.guard = none) (t : TypeId) (m k x : Operand) (ho : o.op = .insert t m k x) (kt et : TypeId) (d : TypeDesc)
    (h : P.underlying t = some (.map kt et)) (hk : P.underlying kt = some d) (hp : plainKey d = true) (b : Nat) (es : Array MapEntry) (c : Nat) (hm : a.eval m = .map (some b)) (hb : w.heap[b]? = some (.map es c)) (hf : findNow d (a.eval k) es.toList 0 = some none)
    (hK : ∀ w', w'.heap[b]? = some (.map (es.push ⟨a.eval k, a.eval x, c⟩) (c + 1)) → w.grownBy w' (some b) → wpList P ops Q rest (a.put o.dst undef) w') : wpList P ops Q (o :: rest) a w := by
  refine wpList_plain hgd fun K hK' => ?_
  have hrun := run_insert_new (P := P) w t kt et d h hk hp b (a.eval k) (a.eval x) es c hb hf
  unfold Oper.wp
  simp [execOp, ho, hm, hrun, Result.andThen]
  exact hK' _ _ (hK _ (setObj'_at _ _ _ (Array.getElem?_eq_some_iff.1 hb).1) (setObj'_grown _ _ _))

theorem run_lookup_now {P : Program} (w : World) (t kt et : TypeId) (d : TypeDesc) (h : P.underlying t = some (.map kt et)) (hk : P.underlying kt = some d) (hp : plainKey d = true) (b : Nat) (key : Value) (es : Array MapEntry) (c : Nat)
    (hb : w.heap[b]? = some (.map es c)) (r : Option (Nat × Value)) (hf : findNow d key es.toList 0 = some r) (z : Value) (hz : ∀ w, (zeroValue et).run P w = .ok z w) :
    (Instr.lookup t (.map (some b)) key true).run P w = .ok (.tuple #[(r.map (·.2)).getD z, .bool r.isSome]) w := by
  unfold Instr.lookup
  simp only [Sem.run_bind, run_underlying h, Result.andThen_ok]
  cases r with
  | none => simp [getObj, Sem.run, hb, run_checkKey w _ 9999 kt d hk hp key, run_findKey w kt d hk key es.toList none hf, hz]
  | some r => simp [getObj, Sem.run, hb, run_checkKey w _ 9999 kt d hk hp key, run_findKey w kt d hk key es.toList (some r) hf]

theorem wpList_lookup_now {P : Program} {w : World} {ops : Array Oper} {rest : List Oper} {o : Oper} {a : Act} {Q : Exit → Act → World → Prop} (hgd : o.guard = none) (t : TypeId) (m k : Operand) (ho : o.op = .lookup t m k true) (kt et : TypeId) (d : TypeDesc)
    (h : P.underlying t = some (.map kt et)) (hk : P.underlying kt = some d) (hp : plainKey d = true) (b : Nat) (es : Array MapEntry) (c : Nat) (hm : a.eval m = .map (some b)) (hb : w.heap[b]? = some (.map es c)) (r : Option (Nat × Value))
    (hf : findNow d (a.eval k) es.toList 0 = some r) (z : Value) (hz : ∀ w, (zeroValue et).run P w = .ok z w)
    (hK : wpList P ops Q rest (a.put o.dst (.tuple #[(r.map (·.2)).getD z, .bool r.isSome])) w) : wpList P ops Q (o :: rest) a w := by
  refine wpList_plain hgd fun K hK' => ?_
  have hrun := run_lookup_now (P := P) w t kt et d h hk hp b (a.eval k) es c hb r hf z hz
  unfold Oper.wp
  simp [execOp, ho, hm, hrun, Result.andThen]
  exact hK' _ _ hK
/-- a map that is being filled: block b holds these entries; what was there at first is as it was -/
structure Filled (w0 : World) (b : Nat) (es : Array MapEntry) (c : Nat) (w : World) : Prop where
  at_ : w.heap[b]? = some (.map es c)
  low : w0.heap.size ≤ b
  bel : Below w0.heap.size w0 w

theorem wpList_map_start {P : Program} {w : World} {ops : Array Oper} {rest : List Oper} {o : Oper} {a : Act} {Q : Exit → Act → World → Prop} (hgd : o.guard = none) (t : TypeId) (ho : o.op = .makeMap t none) (w0 : World) (h0 : Below w0.heap.size w0 w)
    (hK : ∀ b w', Filled w0 b #[] 0 w' → wpList P ops Q rest (a.put o.dst (.map (some b))) w') : wpList P ops Q (o :: rest) a w := by
  refine wpList_plain hgd fun K hK' => ?_
  have hrun := run_makeMap (P := P) t w
  unfold Oper.wp
  simp [execOp, ho, hrun, Result.andThen]
  exact hK' _ _ (hK _ _ ⟨heap_alloc_new w _, h0.size, h0.alloc h0.size _⟩)

theorem wpList_map_fill {P : Program} {w : World} {ops : Array Oper} {rest : List Oper} {o : Oper} {a : Act} {Q : Exit → Act → World → Prop} (hgd : o.guard = none) (t : TypeId) (m k x : Operand) (ho : o.op = .insert t m k x) (kt et : TypeId) (d : TypeDesc)
    (h : P.underlying t = some (.map kt et)) (hk : P.underlying kt = some d) (hp : plainKey d = true) (w0 : World) (b : Nat) (es : Array MapEntry) (c : Nat) (hm : a.eval m = .map (some b)) (hF : Filled w0 b es c w) (hf : findNow d (a.eval k) es.toList 0 = some none)
    (hK : ∀ w', Filled w0 b (es.push ⟨a.eval k, a.eval x, c⟩) (c + 1) w' → wpList P ops Q rest (a.put o.dst undef) w') : wpList P ops Q (o :: rest) a w :=
  wpList_insert_new hgd t m k x ho kt et d h hk hp b es c hm hF.at_ hf fun w' h1 h2 => hK w' ⟨h1, hF.low, hF.bel.grown h2 hF.bel.size fun k e => by cases e; exact hF.low⟩

end Go.Proofs.YtkhchmgdaolojaaDoor.Maps
namespace Go.Proofs.YtkhchmgdaolojaaDoor.Tms
open Go Go.RowKit

inductive Tm where
  | mk (k n : Int) (s : ByteArray) (args : List Tm)

def Tm.k : Tm → Int | .mk k _ _ _ => k
def Tm.n : Tm → Int | .mk _ n _ _ => n
def Tm.s : Tm → ByteArray | .mk _ _ s _ => s
def Tm.args : Tm → List Tm | .mk _ _ _ a => a

mutual
/-- the term lies at this place of this block -/
def TmAt (w : World) (P : Nat → Prop) (b o : Nat) : Tm → Prop
  | .mk k n s args => ∃ a cap, w.cell? ⟨b, o, none⟩ = some (.int .i64 k) ∧ w.cell? ⟨b, o + 1, none⟩ = some (.int .i64 n) ∧ w.cell? ⟨b, o + 2, none⟩ = some (.string s) ∧
      w.cell? ⟨b, o + 3, none⟩ = some (.slice a args.length cap) ∧ ArgsFrom w P a 0 args
/-- these terms lie one behind the other from place j of what this address leads to -/
def ArgsFrom (w : World) (P : Nat → Prop) (a : Option Addr) (j : Nat) : List Tm → Prop
  | [] => True
  | t :: ts => (∃ b off, a = some ⟨b, off, none⟩ ∧ P b ∧ TmAt w P b (off + j * 4) t) ∧ ArgsFrom w P a (j + 1) ts
end

/-- a slice value of terms -/
def IsSl (w : World) (P : Nat → Prop) (v : Value) (ts : List Tm) : Prop := ∃ a cap, v = .slice a ts.length cap ∧ ArgsFrom w P a 0 ts
/-- a term's value -/
def IsTm (w : World) (P : Nat → Prop) (v : Value) (t : Tm) : Prop := ∃ a cap, v = .agg #[.int .i64 t.k, .int .i64 t.n, .string t.s, .slice a t.args.length cap] ∧ ArgsFrom w P a 0 t.args

theorem argsFrom_iff {w : World} {P : Nat → Prop} {a : Option Addr} : ∀ {ts : List Tm} {j : Nat}, ArgsFrom w P a j ts ↔ ∀ i (h : i < ts.length), ∃ b off, a = some ⟨b, off, none⟩ ∧ P b ∧ TmAt w P b (off + (j + i) * 4) ts[i]
  | [], j => by unfold ArgsFrom; simp
  | t :: ts, j => by
    unfold ArgsFrom
    rw [argsFrom_iff]
    constructor
    · rintro ⟨h0, h⟩ i hi
      cases i with
      | zero => simpa using h0
      | succ i =>
        have := h i (by simpa using hi)
        simpa [Nat.add_assoc, Nat.add_comm 1 i] using this
    · intro h
      refine ⟨by have h0 := h 0 (Nat.zero_lt_succ _); rw [Nat.add_zero] at h0; exact h0, fun i hi => ?_⟩
      have := h (i + 1) (by simpa using hi)
      simpa [Nat.add_assoc, Nat.add_comm 1 i] using this

mutual
theorem TmAt.imp {w w' : World} {P P' : Nat → Prop} (hP : ∀ b, P b → P' b) (hw : ∀ b, P b → b < w.heap.size → w'.heap[b]? = w.heap[b]?) : ∀ (t : Tm) (b o : Nat), P b → TmAt w P b o t → TmAt w' P' b o t
  | .mk k n s args, b, o, hb, h => by
    unfold TmAt at h ⊢
    obtain ⟨a, cap, h0, h1, h2, h3, h4⟩ := h
    have hlt : b < w.heap.size := World.block_lt_of_cell? _ _ h0
    have e := fun q => World.cell?_of_block (w := w) (w' := w') (a := ⟨b, q, none⟩) (hw b hb hlt)
    exact ⟨a, cap, (e _).trans h0, (e _).trans h1, (e _).trans h2, (e _).trans h3, ArgsFrom.imp hP hw args a 0 h4⟩
theorem ArgsFrom.imp {w w' : World} {P P' : Nat → Prop} (hP : ∀ b, P b → P' b) (hw : ∀ b, P b → b < w.heap.size → w'.heap[b]? = w.heap[b]?) : ∀ (ts : List Tm) (a : Option Addr) (j : Nat), ArgsFrom w P a j ts → ArgsFrom w' P' a j ts
  | [], a, j, _ => by unfold ArgsFrom; trivial
  | t :: ts, a, j, h => by
    unfold ArgsFrom at h ⊢
    obtain ⟨⟨b, off, e, hb, ht⟩, h2⟩ := h
    exact ⟨⟨b, off, e, hP b hb, TmAt.imp hP hw t b _ hb ht⟩, ArgsFrom.imp hP hw ts a (j + 1) h2⟩
end

theorem IsSl.imp {w w' : World} {P P' : Nat → Prop} {v : Value} {ts : List Tm} (h : IsSl w P v ts) (hP : ∀ b, P b → P' b) (hw : ∀ b, P b → b < w.heap.size → w'.heap[b]? = w.heap[b]?) : IsSl w' P' v ts :=
  let ⟨a, cap, e, h⟩ := h; ⟨a, cap, e, ArgsFrom.imp hP hw ts a 0 h⟩
theorem IsTm.imp {w w' : World} {P P' : Nat → Prop} {v : Value} {t : Tm} (h : IsTm w P v t) (hP : ∀ b, P b → P' b) (hw : ∀ b, P b → b < w.heap.size → w'.heap[b]? = w.heap[b]?) : IsTm w' P' v t :=
  let ⟨a, cap, e, h⟩ := h; ⟨a, cap, e, ArgsFrom.imp hP hw t.args a 0 h⟩
theorem IsTm.below {w w' : World} {P : Nat → Prop} {v : Value} {t : Tm} (h : IsTm w P v t) (hb : Below w.heap.size w w') : IsTm w' P v t := h.imp (fun _ h => h) fun b _ hlt => hb.block b hlt
theorem IsSl.below {w w' : World} {P : Nat → Prop} {v : Value} {ts : List Tm} (h : IsSl w P v ts) (hb : Below w.heap.size w w') : IsSl w' P v ts := h.imp (fun _ h => h) fun b _ hlt => hb.block b hlt
theorem IsTm.form {w : World} {P : Nat → Prop} {v : Value} {t : Tm} (h : IsTm w P v t) : ∃ a cap, v = .agg #[.int .i64 t.k, .int .i64 t.n, .string t.s, .slice a t.args.length cap] := let ⟨a, cap, e, _⟩ := h; ⟨a, cap, e⟩
theorem IsSl.form {w : World} {P : Nat → Prop} {v : Value} {ts : List Tm} (h : IsSl w P v ts) : ∃ a cap, v = .slice a ts.length cap := let ⟨a, cap, e, _⟩ := h; ⟨a, cap, e⟩

/-- what a slice holds at place i -/
theorem IsSl.at {w : World} {P : Nat → Prop} {a : Option Addr} {len cap : Nat} {ts : List Tm} (h : IsSl w P (.slice a len cap) ts) (i : Nat) (hi : i < ts.length) :
    ∃ b off, a = some ⟨b, off, none⟩ ∧ P b ∧ TmAt w P b (off + i * 4) ts[i] := by
  obtain ⟨a', cap', e, h⟩ := h
  obtain ⟨rfl, -, -⟩ := Value.slice.inj e
  have := argsFrom_iff.1 h i hi
  simpa using this
/-- a term in memory: its four cells, and its value -/
theorem TmAt.read {w : World} {P : Nat → Prop} {b o : Nat} {t : Tm} (h : TmAt w P b o t) :
    ∃ a cap, w.cell? ⟨b, o, none⟩ = some (.int .i64 t.k) ∧ w.cell? ⟨b, o + 1, none⟩ = some (.int .i64 t.n) ∧ w.cell? ⟨b, o + 2, none⟩ = some (.string t.s) ∧ w.cell? ⟨b, o + 3, none⟩ = some (.slice a t.args.length cap) ∧
      IsTm w P (.agg #[.int .i64 t.k, .int .i64 t.n, .string t.s, .slice a t.args.length cap]) t ∧ b < w.heap.size := by
  obtain ⟨k, n, s, args⟩ := t
  unfold TmAt at h
  obtain ⟨a, cap, h0, h1, h2, h3, h4⟩ := h
  exact ⟨a, cap, h0, h1, h2, h3, ⟨a, cap, rfl, h4⟩, World.block_lt_of_cell? _ _ h0⟩
/-- back: four cells, and what their slice leads to -/
theorem TmAt.mk' {w : World} {P : Nat → Prop} {b o : Nat} {t : Tm} {a : Option Addr} {cap : Nat} (h0 : w.cell? ⟨b, o, none⟩ = some (.int .i64 t.k)) (h1 : w.cell? ⟨b, o + 1, none⟩ = some (.int .i64 t.n)) (h2 : w.cell? ⟨b, o + 2, none⟩ = some (.string t.s))
    (h3 : w.cell? ⟨b, o + 3, none⟩ = some (.slice a t.args.length cap)) (h4 : IsSl w P (.slice a t.args.length cap) t.args) : TmAt w P b o t := by
  obtain ⟨k, n, s, args⟩ := t
  unfold TmAt
  obtain ⟨a', cap', e, h⟩ := h4
  obtain ⟨rfl, -, rfl⟩ := Value.slice.inj e
  exact ⟨a, cap, h0, h1, h2, h3, h⟩
theorem IsSl.mk' {w : World} {P : Nat → Prop} {a : Option Addr} {cap : Nat} {ts : List Tm} (h : ∀ i (hi : i < ts.length), ∃ b off, a = some ⟨b, off, none⟩ ∧ P b ∧ TmAt w P b (off + i * 4) ts[i]) : IsSl w P (.slice a ts.length cap) ts :=
  ⟨a, cap, rfl, argsFrom_iff.2 fun i hi => by simpa using h i hi⟩
theorem IsSl.nil (w : World) (P : Nat → Prop) (a : Option Addr) (cap : Nat) : IsSl w P (.slice a 0 cap) [] := ⟨a, cap, rfl, by unfold ArgsFrom; trivial⟩
theorem IsTm.args {w : World} {P : Nat → Prop} {k n : Int} {s : ByteArray} {a : Option Addr} {len cap : Nat} {t : Tm} (h : IsTm w P (.agg #[.int .i64 k, .int .i64 n, .string s, .slice a len cap]) t) : IsSl w P (.slice a t.args.length cap) t.args := by
  obtain ⟨a', cap', e, h⟩ := h
  simp at e
  obtain ⟨_, _, _, rfl, _, rfl⟩ := e
  exact ⟨a, cap, rfl, h⟩
theorem IsTm.mk' {w : World} {P : Nat → Prop} {a : Option Addr} {cap : Nat} {t : Tm} (h : IsSl w P (.slice a t.args.length cap) t.args) : IsTm w P (.agg #[.int .i64 t.k, .int .i64 t.n, .string t.s, .slice a t.args.length cap]) t := by
  obtain ⟨a', cap', e, h⟩ := h
  obtain ⟨rfl, -, rfl⟩ := Value.slice.inj e
  exact ⟨a, cap, rfl, h⟩
end Go.Proofs.YtkhchmgdaolojaaDoor.Tms
namespace Go.Proofs.YtkhchmgdaolojaaDoor.Push
open Go Go.RowKit

theorem append_block {P : Program} {w : World} (base : Nat) (t ty e : TypeId) (i : TypeInfo) (z : Value) (size bytes : Nat) (ht : P.underlying t = some (.slice e)) (hi : P.info? e = some i) (hz : i.zero = some z) (hsize : i.size = size) (hby : i.bytes = bytes)
    (v : Value) (n : Nat) (xs : List Value) (hown : w.ownsRow base e size v n xs) (a : Addr) (c : Nat) (news : List Value) (hl : news.length = size) (hnews : ∀ j u, news[j]? = some u → w.cell? (a.add j) = some u) (h1 : ∀ u ∈ news, u.oneCell' = true)
    (h63 : n + 1 ≤ maxLen) (hbytes : (n + 1) * bytes ≤ 140737488355328) {v' : Value} {w' : World} (hr : (Builtin.append_ #[t, t] ty #[v, .slice (some a) 1 c]).run P w = .ok v' w') :
    ∀ k, v'.ownBlock = some k → v.ownBlock = some k ∨ w.heap.size ≤ k := by
  subst hsize
  subst hby
  have hsmall : n + 1 ≤ 9223372036854775807 := by simp only [maxLen] at h63; omega
  have hl' : news.length = 1 * i.size := by omega
  rcases hown.2 with ⟨rfl, rfl⟩ | ⟨g, cap, cur, rfl, hbg, hg, hnc, hcm, hcs, htake⟩
  · rw [run_append_nil (P := P) w t ty e i z ht hi hz a 1 c news hl' hnews (by omega) (by omega) (by have hb := hbytes; simp only [Nat.zero_add] at hb; omega)] at hr
    simp only [Result.ok.injEq] at hr
    obtain ⟨rfl, -⟩ := hr
    intro k hk
    simp [Value.ownBlock] at hk
    omega
  · by_cases hroom : n + 1 ≤ cap
    · have hfit : n * i.size + news.length ≤ cur.size := by
        have h2 : (n + 1) * i.size ≤ cap * i.size := Nat.mul_le_mul_right _ hroom
        rw [Nat.add_mul] at h2
        omega
      rw [run_append_room (P := P) w t ty e i ht hi g n cap cur hg a 1 c news hl' hnews h1 hroom hfit] at hr
      simp only [Result.ok.injEq] at hr
      obtain ⟨rfl, -⟩ := hr
      intro k hk
      exact .inl hk
    · rw [run_append_grow (P := P) w t ty e i z ht hi hz ⟨g, 0, none⟩ n cap xs hown.1 (hown.cells (g := g) rfl) a 1 c news hl' hnews (by omega) (by omega) (growslice_fits (by omega) hbytes)] at hr
      simp only [Result.ok.injEq] at hr
      obtain ⟨rfl, -⟩ := hr
      intro k hk
      simp [Value.ownBlock] at hk
      omega

theorem wpList_push {P : Program} {w : World} {ops : Array Oper} {rest : List Oper} {o : Oper} {a : Act} {Q : Exit → Act → World → Prop} (hgd : o.guard = none) (s x : Operand) (t : TypeId)
    (ho : o.op = .call { callee := .builtin .append, args := #[s, x], argTypes := #[t, t] })
    (base : Nat) (e : TypeId) (i : TypeInfo) (z : Value) (size bytes : Nat) (ht : P.underlying t = some (.slice e)) (hi : P.info? e = some i) (hz : i.zero = some z)
    (hsize : i.size = size) (hby : i.bytes = bytes) (hzs : z.cells.size = size) (hsz : 0 < size)
    (v : Value) (n : Nat) (xs : List Value) (hs : a.eval s = v) (hown : w.ownsRow base e size v n xs)
    (ad : Addr) (c : Nat) (news : List Value) (hx : a.eval x = .slice (some ad) 1 c) (hl : news.length = size) (hnews : ∀ j u, news[j]? = some u → w.cell? (ad.add j) = some u) (h1 : ∀ u ∈ news, u.oneCell' = true)
    (h63 : n + 1 ≤ maxLen) (hbytes : (n + 1) * bytes ≤ 140737488355328) (hbase : base ≤ w.heap.size)
    (h : ∀ v' w', w'.ownsRow base e size v' (n + 1) (xs ++ news) → w.grownBy w' v.ownBlock → (∀ k, v'.ownBlock = some k → v.ownBlock = some k ∨ w.heap.size ≤ k) → wpList P ops Q rest (a.put o.dst v') w') : wpList P ops Q (o :: rest) a w := by
  refine wpList_plain hgd fun K hK => ?_
  obtain ⟨v', w', hr, h2, h3, -⟩ := run_append_own (P := P) w base t o.type e i z size bytes ht hi hz hsize hby hzs hsz v n xs hown ad 1 c news (by omega) hnews h1 h63 hbytes hbase
  have h4 := append_block (P := P) base t o.type e i z size bytes ht hi hz hsize hby v n xs hown ad c news hl hnews h1 h63 hbytes hr
  unfold Oper.wp execOp
  simp only [ho, resolve, invoke, builtin, Sem.run_bind, Sem.run_pure, Result.andThen_ok, List.map_toArray, List.map_cons, List.map_nil, hs, hx, hr]
  exact hK _ _ (h v' w' h2 h3 h4)
/-- two results: a struct in a row, and a slot -/
theorem results_cell_tmp {P : Program} {fn : Func} {p q : Tmp} {ty : TypeId} (h : fn.results = #[.cell p ty, .tmp q]) (tmps : Array Value) (w : World) (g : Nat) (t : TypeId) (cs : Array Value) (fr : Nat × Nat) (d : TypeDesc) (x : Value)
    (hp : tmps.getD p undef = .pointer (some ⟨g, 0, none⟩)) (hx : tmps.getD q undef = x) (hg : w.heap[g]? = some (.cells cs t fr))
    (hu : P.underlying ty = some d) (hd : (match d with | .struct _ | .array _ _ => true | _ => false) = true) (hi : (P.info? ty).map (·.size) = some cs.size) :
    (results fn tmps).run P w = .ok (.tuple #[.agg cs, x]) w := by
  have hp' : tmps[p]?.getD undef = .pointer (some ⟨g, 0, none⟩) := by simpa using hp
  have hx' : tmps[q]?.getD undef = x := by simpa using hx
  simp [results, h, hp', hx', asAddr, run_loadVar_row w g t ty cs fr d hg hu hd hi]
end Go.Proofs.YtkhchmgdaolojaaDoor.Push
namespace Go.Proofs.YtkhchmgdaolojaaDoor.Rws
open Go Go.RowKit

/-- how cells of a row read as an element, through blocks of P -/
structure Kind (α : Type) where
  T : TypeId
  sz : Nat
  R : World → (Nat → Prop) → List Value → α → Prop
  pos : 0 < sz
  len : ∀ {w P cs a}, R w P cs a → cs.length = sz
  one : ∀ {w P cs a}, R w P cs a → ∀ v ∈ cs, v.oneCell' = true
  mono : ∀ {w w' : World} {P P' : Nat → Prop} {cs a}, (∀ b, P b → P' b) → (∀ b, P b → b < w.heap.size → w'.heap[b]? = w.heap[b]?) → R w P cs a → R w' P' cs a
  lt : ∀ {w : World} {P : Nat → Prop} {cs a}, R w P cs a → R w (fun b => P b ∧ b < w.heap.size) cs a

section
variable {α : Type} (K : Kind α)

/-- rows of cells, one an element -/
def Each (w : World) (P : Nat → Prop) : List (List Value) → List α → Prop
  | [], [] => True
  | cs :: xss, a :: l => K.R w P cs a ∧ Each w P xss l
  | _, _ => False
variable {K}
theorem Each.mono {w w' : World} {P P' : Nat → Prop} (hP : ∀ b, P b → P' b) (hw : ∀ b, P b → b < w.heap.size → w'.heap[b]? = w.heap[b]?) : ∀ {xss : List (List Value)} {l : List α}, Each K w P xss l → Each K w' P' xss l
  | [], [], _ => trivial
  | _ :: _, _ :: _, h => ⟨K.mono hP hw h.1, Each.mono hP hw h.2⟩
  | [], _ :: _, h => h.elim
  | _ :: _, [], h => h.elim
theorem Each.snoc {w : World} {P : Nat → Prop} {cs : List Value} {a : α} (ha : K.R w P cs a) : ∀ {xss : List (List Value)} {l : List α}, Each K w P xss l → Each K w P (xss ++ [cs]) (l ++ [a])
  | [], [], _ => ⟨ha, trivial⟩
  | _ :: _, _ :: _, h => ⟨h.1, Each.snoc ha h.2⟩
  | [], _ :: _, h => h.elim
  | _ :: _, [], h => h.elim
theorem Each.unsnoc {w : World} {P : Nat → Prop} {a : α} : ∀ {xss : List (List Value)} {l : List α}, Each K w P xss (l ++ [a]) → ∃ yss cs, xss = yss ++ [cs] ∧ Each K w P yss l ∧ K.R w P cs a
  | [], [], h => h.elim
  | [cs], [], h => ⟨[], cs, rfl, trivial, h.1⟩
  | _ :: _ :: _, [], h => h.2.elim
  | [], _ :: _, h => h.elim
  | x :: xss, _ :: l, h => by
    obtain ⟨yss, cs, e, h1, h2⟩ := Each.unsnoc h.2
    exact ⟨x :: yss, cs, by rw [e]; rfl, ⟨h.1, h1⟩, h2⟩
theorem Each.flat {w : World} {P : Nat → Prop} : ∀ {xss : List (List Value)} {l : List α}, Each K w P xss l → xss.flatten.length = l.length * K.sz
  | [], [], _ => by simp
  | cs :: xss, a :: l, h => by have := Each.flat h.2; have := K.len h.1; simp only [List.flatten_cons, List.length_append, List.length_cons, Nat.add_mul, Nat.one_mul]; omega
  | [], _ :: _, h => h.elim
  | _ :: _, [], h => h.elim
theorem Each.inj {w : World} {P P' : Nat → Prop} : ∀ {xss yss : List (List Value)} {l : List α}, Each K w P xss l → Each K w P' yss l → xss.flatten = yss.flatten → xss = yss
  | [], [], [], _, _, _ => rfl
  | x :: xss, y :: yss, a :: l, h, h', e => by
    simp only [List.flatten_cons] at e
    obtain ⟨rfl, e2⟩ := List.append_inj e ((K.len h.1).trans (K.len h'.1).symm)
    rw [Each.inj h.2 h'.2 e2]
  | [], _ :: _, _ :: _, h, _, _ => h.elim
  | [], _ :: _, [], _, h, _ => h.elim
  | _ :: _, [], _ :: _, _, h, _ => h.elim
  | _ :: _, [], [], h, _, _ => h.elim
  | _ :: _, _ :: _, [], h, _, _ => h.elim
  | [], [], _ :: _, h, _, _ => h.elim

variable (K)
/-- the slice value v owns a row of the call's own, from block 'base' on; it reads as l, through blocks of P that are not that row -/
def Own (w : World) (base : Nat) (P : Nat → Prop) (v : Value) (l : List α) : Prop :=
  ∃ xss : List (List Value), w.ownsRow base K.T K.sz v l.length xss.flatten ∧ Each K w (fun b => P b ∧ v.ownBlock ≠ some b ∧ b < w.heap.size) xss l
variable {K}
theorem Own.nil (w : World) (base : Nat) (P : Nat → Prop) : Own K w base P (.slice none 0 0) [] := ⟨[], World.ownsRow_nil w base _ _, trivial⟩
theorem Own.low {w : World} {base : Nat} {P : Nat → Prop} {v : Value} {l : List α} (h : Own K w base P v l) : ∀ k, v.ownBlock = some k → base ≤ k ∧ k < w.heap.size := h.choose_spec.1.lt
theorem Own.form {w : World} {base : Nat} {P : Nat → Prop} {v : Value} {l : List α} (h : Own K w base P v l) : (v = .slice none 0 0 ∧ l = []) ∨ ∃ g cap, v = .slice (some ⟨g, 0, none⟩) l.length cap := by
  obtain ⟨xss, ⟨-, ⟨h0, hn⟩ | ⟨g, cap, cur, e, -⟩⟩, -⟩ := h
  · exact .inl ⟨h0, List.eq_nil_of_length_eq_zero hn⟩
  · exact .inr ⟨g, cap, e⟩
theorem Own.below {w w' : World} {base : Nat} {P : Nat → Prop} {v : Value} {l : List α} (h : Own K w base P v l) (hb : Below w.heap.size w w') : Own K w' base P v l := by
  obtain ⟨xss, h1, h2⟩ := h
  refine ⟨xss, ⟨h1.1, ?_⟩, h2.mono (fun b h => ⟨h.1, h.2.1, Nat.lt_of_lt_of_le h.2.2 hb.size⟩) fun b _ hlt => hb.block b hlt⟩
  rcases h1.2 with h | ⟨g, cap, cur, e, h, hg, rest⟩
  · exact .inl h
  · exact .inr ⟨g, cap, cur, e, h, (hb.block g (Array.getElem?_eq_some_iff.1 hg).1).trans hg, rest⟩
/-- a world in which the row, and all that is read through, is as it was -/
theorem Own.keep {w w' : World} {base : Nat} {P : Nat → Prop} {v : Value} {l : List α} (h : Own K w base P v l) (hs : w.heap.size ≤ w'.heap.size) (hk : ∀ b, b < w.heap.size → (P b ∨ v.ownBlock = some b) → w'.heap[b]? = w.heap[b]?) : Own K w' base P v l := by
  obtain ⟨xss, h1, h2⟩ := h
  refine ⟨xss, ⟨h1.1, ?_⟩, h2.mono (fun b h => ⟨h.1, h.2.1, Nat.lt_of_lt_of_le h.2.2 hs⟩) fun b h hlt => hk b hlt (.inl h.1)⟩
  rcases h1.2 with h | ⟨g, cap, cur, e, h, hg, rest⟩
  · exact .inl h
  · exact .inr ⟨g, cap, cur, e, h, (hk g (Array.getElem?_eq_some_iff.1 hg).1 (.inr (by rw [e]; rfl))).trans hg, rest⟩

/-- the last element is taken off: its cells, and what they read as -/
theorem Own.pop {w : World} {base g cap n : Nat} {P : Nat → Prop} {l : List α} {a : α} (h : Own K w base P (.slice (some ⟨g, 0, none⟩) (n + 1) cap) (l ++ [a])) (hn : l.length = n) :
    Own K w base P (.slice (some ⟨g, 0, none⟩) n cap) l ∧ n + 1 ≤ cap ∧ cap ≤ maxLen ∧ ∃ cs, K.R w (fun b => P b ∧ g ≠ b ∧ b < w.heap.size) cs a ∧ ∀ j, j < K.sz → w.cell? ⟨g, n * K.sz + j, none⟩ = cs[j]? := by
  obtain ⟨xss, h1, h2⟩ := h
  obtain ⟨yss, cs, rfl, h3, h4⟩ := h2.unsnoc
  have hy := h3.flat
  have hl := K.len h4
  rw [hn] at hy
  rw [List.flatten_append, List.flatten_singleton] at h1
  have hne : ∀ b, (Value.slice (some ⟨g, 0, none⟩) (n + 1) cap).ownBlock ≠ some b → g ≠ b := fun b h e => h (by simp [Value.ownBlock, e])
  have e1 : (l ++ [a]).length = n + 1 := by simp [hn]
  rw [e1] at h1
  have hcell := fun j (hj : j < K.sz) => h1.cellAt (n * K.sz + j) (by rw [Nat.add_mul]; omega)
  obtain ⟨-, h5 | ⟨g', cap', cur, e, hb, hg, hc, hm, hs, ht⟩⟩ := h1
  · cases h5.1
  · simp only [Value.slice.injEq, Option.some.injEq, Addr.mk.injEq, and_true, true_and] at e
    obtain ⟨rfl, rfl⟩ := e
    refine ⟨⟨yss, ⟨by rw [hn]; exact hy, .inr ⟨_, _, cur, by rw [hn], hb, hg, by omega, hm, hs, ?_⟩⟩, h3.mono (fun b h => ⟨h.1, fun e => h.2.1 (by simpa [Value.ownBlock] using e), h.2.2⟩) fun _ _ _ => rfl⟩, hc, hm, cs, K.mono (fun b h => ⟨h.1, hne b h.2.1, h.2.2⟩) (fun _ _ _ => rfl) h4, fun j hj => ?_⟩
    · have := congrArg (List.take (n * K.sz)) ht
      rw [List.take_take, List.take_append_of_le_length (by omega), List.take_of_length_le (l := yss.flatten) (by omega)] at this
      rw [← this, hn]
      congr 1
      rw [Nat.add_mul]
      omega
    · rw [hcell j hj, List.getElem?_append_right (by omega), hy, Nat.add_sub_cancel_left]

theorem Own.rows {w : World} {base : Nat} {P : Nat → Prop} {v : Value} {l : List α} (h : Own K w base P v l) {xs : List Value} (hx : w.ownsRow base K.T K.sz v l.length xs) : ∃ xss : List (List Value), xs = xss.flatten ∧ Each K w (fun b => P b ∧ v.ownBlock ≠ some b ∧ b < w.heap.size) xss l := by
  obtain ⟨xss, h1, h2⟩ := h
  refine ⟨xss, ?_, h2⟩
  rcases h1.2 with ⟨rfl, hn⟩ | ⟨g, cap, cur, e, -, hg, -, -, -, ht⟩
  · have a := h1.1; have b := hx.1; rw [hn] at a b; simp only [Nat.zero_mul] at a b
    rw [List.eq_nil_of_length_eq_zero a, List.eq_nil_of_length_eq_zero b]
  · rcases hx.2 with ⟨e', hn⟩ | ⟨g', cap', cur', e', -, hg', -, -, -, ht'⟩
    · rw [e] at e'; cases e'
    · rw [e] at e'
      simp only [Value.slice.injEq, Option.some.injEq, Addr.mk.injEq, and_true] at e'
      obtain ⟨rfl, -, -⟩ := e'
      rw [hg] at hg'
      simp only [Option.some.injEq, Obj.cells.injEq, and_true] at hg'
      rw [← ht, ← ht', hg']

/-- append of an element whose cells lie in a row (at place 'at' of block g) -/
theorem wpList_put {Q : Program} {w : World} {ops : Array Oper} {rest : List Oper} {o : Oper} {a : Act} {E : Exit → Act → World → Prop} (hgd : o.guard = none) (s x : Operand) (t : TypeId)
    (ho : o.op = .call { callee := .builtin .append, args := #[s, x], argTypes := #[t, t] }) (ht : Q.underlying t = some (.slice K.T)) {z : Value} {bytes : Nat} (hi : (Q.info? K.T).map (fun i => (i.zero, i.size, i.bytes)) = some (some z, K.sz, bytes)) (hz : z.cells.size = K.sz)
    (base : Nat) (P : Nat → Prop) (v : Value) (l : List α) (cs : List Value) (y : α) (g c : Nat) (T : TypeId) (fr : Nat × Nat) (hs : a.eval s = v) (hown : Own K w base P v l) (hx : a.eval x = .slice (some ⟨g, 0, none⟩) 1 c) (hg : w.heap[g]? = some (.cells cs.toArray T fr))
    (hy : K.R w (fun b => P b ∧ v.ownBlock ≠ some b) cs y) (h63 : l.length + 1 ≤ maxLen) (hlen : (l.length + 1) * bytes ≤ 140737488355328) (hbase : base ≤ w.heap.size)
    (h : ∀ v' w', Own K w' base P v' (l ++ [y]) → Below base w w' → w.grownBy w' v.ownBlock → (∀ k, v'.ownBlock = some k → v.ownBlock = some k ∨ w.heap.size ≤ k) → wpList Q ops E rest (a.put o.dst v') w') : wpList Q ops E (o :: rest) a w := by
  obtain ⟨i0, hi, hz0, hz1, hz2⟩ := info_parts hi
  obtain ⟨xss, h1, h2⟩ := id hown
  refine Push.wpList_push hgd s x t ho base K.T i0 z K.sz bytes ht hi hz0 hz1 hz2 hz K.pos v l.length xss.flatten hs h1 ⟨g, 0, none⟩ c cs hx (K.len hy) (fun j u hu => by rw [Addr.add_lit, cell_of_row w g _ _ _ _ hg, Nat.zero_add]; simpa using hu) (K.one hy) h63 hlen hbase ?_
  intro v' w' hown' hgr hv
  have hsz : w.heap.size ≤ w'.heap.size := hgr.size
  have hblk : ∀ b, b < w.heap.size → v.ownBlock ≠ some b → w'.heap[b]? = w.heap[b]? := fun b hb hne => hgr.block b hb fun e => hne e.symm
  have hne : ∀ b, b < w.heap.size → v.ownBlock ≠ some b → v'.ownBlock ≠ some b := fun b hb h e => by
    rcases hv b e with h' | h'
    · exact h h'
    · omega
  have hy' : K.R w (fun b => P b ∧ v.ownBlock ≠ some b ∧ b < w.heap.size) cs y := K.mono (fun b h => ⟨h.1.1, h.1.2, h.2⟩) (fun _ _ _ => rfl) (K.lt hy)
  refine h v' w' ⟨xss ++ [cs], by simpa using hown', (h2.snoc hy').mono (fun b h => ⟨h.1, hne b h.2.2 h.2.1, by omega⟩) fun b h _ => hblk b h.2.2 h.2.1⟩ ?_ hgr hv
  exact (Below.refl base w).grown hgr hbase fun k e => (h1.lt k e).1
end
end Go.Proofs.YtkhchmgdaolojaaDoor.Rws
