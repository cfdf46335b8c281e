/-
  Layer texts, glued and made small.
-/
import Derived.WalkKit
import Derived.Lib.Hide
import Derived.OwnWalk
import Derived.StillTail
import Derived.Orders
import Derived.Test.YtcbijikalfodnaaProg
set_option linter.unusedVariables false
set_option linter.unusedSimpArgs false
set_option maxRecDepth 100000
set_option maxHeartbeats 1600000
namespace Go.Proofs.Ytcbijikalfodnaa
theorem zA {α : Type _} {l : List α} {i : Nat} : l.toArray[i]? = l[i]? := by simp
theorem zB {α : Type _} {a : α} {l : List α} {i : Nat} : (a :: l)[i + 1]? = l[i]? := rfl
theorem zC {α : Type _} {a : α} {l : List α} : (a :: l)[0]? = some a := rfl
theorem zD {α β : Type _} {f : α → Option β} {a : α} : (some a).bind f = f a := rfl
theorem zE {α : Type _} {l : List α} {i : Nat} {a : α} : l.toArray.setIfInBounds i a = (l.set i a).toArray := by simp
theorem zF {α : Type _} {x : α} {l : List α} {i : Nat} {a : α} : (x :: l).set (i + 1) a = x :: l.set i a := rfl
theorem zG {α : Type _} {x : α} {l : List α} {a : α} : (x :: l).set 0 a = a :: l := rfl
end Go.Proofs.Ytcbijikalfodnaa
namespace Go.Proofs.Ytcbijikalfodnaa.Cod
open Go Go.RowKit
structure Ins where
 op : Int
 a : Int
 n : Int
 s : ByteArray
structure Cod where
 name : ByteArray
 args : Int
 slots : Int
 body : Int
 l : List Ins
def Ins.bad (i : Ins) : Bool := decide (i.op < 1) || decide (6 < i.op) || (decide (i.op = 6) && (decide (i.a < 1) || decide (255 < i.a)))
def Ins.ar (i : Ins) : Nat := if i.op = 6 then i.a.toNat else 0
def sk : List Ins → Nat → Option Nat
 | _, 0 => some 0
 | [], _ + 1 => none
 | i :: l, n + 1 => if i.bad then none else (sk l (n + i.ar)).map (· + 1)
def skA (L : List Ins) (m k : Nat) : Int := match sk (L.drop k) m with
 | none => -1
 | some j => (k : Int) + j
def skip (L : List Ins) (z : Int) : Int := if z < 0 then -1 else skA L 1 z.toNat
theorem sk_zero (l : List Ins) : sk l 0 = some 0 := by cases l <;> rfl
theorem skA_zero (L : List Ins) (k : Nat) : skA L 0 k = k := by simp [skA, sk_zero]
theorem skA_end (L : List Ins) (m k : Nat) (h : L.length ≤ k) : skA L (m + 1) k = -1 := by simp [skA, List.drop_eq_nil_of_le h, sk]
theorem skA_bad (L : List Ins) (m k : Nat) (h : k < L.length) (hb : L[k].bad = true) : skA L (m + 1) k = -1 := by
 unfold skA; rw [List.drop_eq_getElem_cons h]; simp only [sk, hb, if_true]
theorem skA_step (L : List Ins) (m k : Nat) (h : k < L.length) (hb : L[k].bad = false) : skA L (m + 1) k = skA L (m + L[k].ar) (k + 1) := by
 simp only [skA, List.drop_eq_getElem_cons h, sk, hb]; cases sk (L.drop (k + 1)) (m + L[k].ar) <;> simp <;> omega
theorem sk_le : ∀ (l : List Ins) (n j : Nat), sk l n = some j → j ≤ l.length
 | l, 0, j, h => by rw [sk_zero] at h; cases h; omega
 | [], n + 1, j, h => by simp [sk] at h
 | i :: l, n + 1, j, h => by
   unfold sk at h
   split at h
   ·cases h
   ·cases h1 : sk l (n + i.ar) with
    | none => simp [h1] at h
    | some q => simp [h1] at h; subst h; have := sk_le l _ q h1; simp only [List.length_cons]; omega
theorem skA_le (L : List Ins) (m k : Nat) (hk : k ≤ L.length) : skA L m k ≤ L.length := by
 unfold skA; cases h : sk (L.drop k) m with
 | none => simp only []; omega
 | some j => have := sk_le _ _ _ h; simp at this ⊢; omega
theorem skip_neg (L : List Ins) (z : Int) (h : z < 0) : skip L z = -1 := by simp [skip, h]
theorem skip_nat (L : List Ins) (k : Nat) : skip L (k : Int) = skA L 1 k := by
 have : ¬ ((k : Int) < 0) := by omega
 simp [skip, this]
theorem skip_of (L : List Ins) (z : Int) (h : 0 ≤ z) : skip L z = skA L 1 z.toNat := by
 have : ¬ z < 0 := by omega
 simp [skip, this]
theorem skip_past (L : List Ins) (z : Int) (h : (L.length : Int) ≤ z) : skip L z = -1 := by
 rw [skip_of L z (by omega), skA_end L 0 z.toNat (by omega)]
theorem skip_hi (L : List Ins) (z : Int) : skip L z ≤ L.length := by
 by_cases h : z ≤ L.length
 ·unfold skip; split
  ·omega
  ·exact skA_le L 1 z.toNat (by omega)
 ·rw [skip_past L z (by omega)]; omega
/-! ### In memory -/
def InsAt (w : World) (b o : Nat) (i : Ins) : Prop :=
 w.cell? ⟨b, o, none⟩ = some (.int .i64 i.op) ∧ w.cell? ⟨b, o + 1, none⟩ = some (.int .i64 i.a) ∧ w.cell? ⟨b, o + 2, none⟩ = some (.int .i64 i.n) ∧ w.cell? ⟨b, o + 3, none⟩ = some (.string i.s)
def InsSl (w : World) (v : Value) (L : List Ins) : Prop :=
 ∃ a cap, v = .slice a L.length cap ∧ ∀ j (h : j < L.length), ∃ b off, a = some ⟨b, off, none⟩ ∧ InsAt w b (off + j * 4) L[j]
theorem InsAt.lt {w : World} {b o : Nat} {i : Ins} (h : InsAt w b o i) : b < w.heap.size := World.block_lt_of_cell? _ _ h.1
theorem InsAt.below {w w' : World} {b o B : Nat} {i : Ins} (h : InsAt w b o i) (hb : Below B w w') (hlt : b < B) : InsAt w' b o i :=
 ⟨(hb.cell (p := ⟨b, o, none⟩) hlt).trans h.1, (hb.cell (p := ⟨b, o + 1, none⟩) hlt).trans h.2.1, (hb.cell (p := ⟨b, o + 2, none⟩) hlt).trans h.2.2.1, (hb.cell (p := ⟨b, o + 3, none⟩) hlt).trans h.2.2.2⟩
theorem InsSl.below {w w' : World} {v : Value} {L : List Ins} (h : InsSl w v L) (hb : Below w.heap.size w w') : InsSl w' v L := by
 obtain ⟨a, cap, rfl, hc⟩ := h; refine ⟨a, cap, rfl, fun j hj => ?_⟩; obtain ⟨b, off, rfl, hi⟩ := hc j hj; exact ⟨b, off, rfl, hi.below hb hi.lt⟩
theorem InsSl.form {w : World} {v : Value} {L : List Ins} (h : InsSl w v L) : ∃ a cap, v = .slice a L.length cap := let ⟨a, cap, e, _⟩ := h; ⟨a, cap, e⟩
theorem InsSl.nil (w : World) (a : Option Addr) (cap : Nat) : InsSl w (.slice a 0 cap) [] := ⟨a, cap, rfl, fun j hj => by simp at hj⟩
end Go.Proofs.Ytcbijikalfodnaa.Cod
namespace Go.Proofs.Ytcbijikalfodnaa.Maps
open Go Go.RowKit Go.Instr
def plainKey : TypeDesc → Bool
 | .int _ => true
 | .string => true
 | _ => false
theorem run_checkKey {P : Program} (w : World) (b : Bool) (n : Nat) (t : TypeId) (d : TypeDesc) (h : P.underlying t = some d) (hp : plainKey d = true) (v : Value) : (checkKey b (n + 1) t v).run P w = .ok () w := by
 unfold checkKey; simp only [Sem.run_bind, run_underlying h, Result.andThen_ok]; cases d <;> simp [plainKey] at hp <;> rfl
theorem run_findKey {P : Program} (w : World) (t : TypeId) (d : TypeDesc) (h : P.underlying t = some d) (k : Value) (es : List MapEntry) (r : Option (Nat × Value)) (hf : findNow d k es 0 = some r) : (findKey t k es).run P w = .ok r w := by
 unfold findKey
 simp [Sem.run_bind, run_underlying h, hf]
def World.setObj' (w : World) (b : Nat) (o : Obj) : World := { w with heap := w.heap.setIfInBounds b o }
theorem setObj'_at (w : World) (b : Nat) (o : Obj) (h : b < w.heap.size) : (World.setObj' w b o).heap[b]? = some o := by simp [World.setObj', h]
theorem setObj'_grown (w : World) (b : Nat) (o : Obj) : w.grownBy (World.setObj' w b o) (some b) :=
 ⟨rfl, rfl, rfl, by simp [World.setObj'], fun k _ hk => by simp only [World.setObj']; rw [Array.getElem?_setIfInBounds, if_neg (by intro e; exact hk (by rw [e]))]⟩
theorem run_insert_new {P : Program} (w : World) (t kt et : TypeId) (d : TypeDesc) (h : P.underlying t = some (.map kt et)) (hk : P.underlying kt = some d) (hp : plainKey d = true) (b : Nat) (key val : Value) (es : Array MapEntry) (c : Nat)
 (hb : w.heap[b]? = some (.map es c)) (hf : findNow d key es.toList 0 = some none) : (Instr.mapUpdate t (.map (some b)) key val).run P w = .ok () (World.setObj' w b (.map (es.push ⟨key, val, c⟩) (c + 1))) := by
 unfold Instr.mapUpdate; simp only [Sem.run_bind, run_underlying h, Result.andThen_ok]
 simp [getObj, Sem.run, hb, run_checkKey w false 9999 kt d hk hp key, run_findKey w kt d hk key es.toList none hf, setObj, World.setObj']
theorem run_lookup_now {P : Program} (w : World) (t kt et : TypeId) (d : TypeDesc) (h : P.underlying t = some (.map kt et)) (hk : P.underlying kt = some d) (hp : plainKey d = true) (b : Nat) (key : Value) (es : Array MapEntry) (c : Nat)
 (hb : w.heap[b]? = some (.map es c)) (r : Option (Nat × Value)) (hf : findNow d key es.toList 0 = some r) (z : Value) (hz : ∀ w, (zeroValue et).run P w = .ok z w) :
 (Instr.lookup t (.map (some b)) key true).run P w = .ok (.tuple #[(r.map (·.2)).getD z, .bool r.isSome]) w := by
 unfold Instr.lookup; simp only [Sem.run_bind, run_underlying h, Result.andThen_ok]; cases r with
 | none => simp [getObj, Sem.run, hb, run_checkKey w _ 9999 kt d hk hp key, run_findKey w kt d hk key es.toList none hf, hz]
 | some r => simp [getObj, Sem.run, hb, run_checkKey w _ 9999 kt d hk hp key, run_findKey w kt d hk key es.toList (some r) hf]
theorem wpList_lookup_now {P : Program} {w : World} {ops : Array Oper} {rest : List Oper} {o : Oper} {a : Act} {Q : Exit → Act → World → Prop} (hgd : o.guard = none) (t : TypeId) (m k : Operand) (ho : o.op = .lookup t m k true) (kt et : TypeId) (d : TypeDesc)
 (h : P.underlying t = some (.map kt et)) (hk : P.underlying kt = some d) (hp : plainKey d = true) (b : Nat) (es : Array MapEntry) (c : Nat) (hm : a.eval m = .map (some b)) (hb : w.heap[b]? = some (.map es c)) (r : Option (Nat × Value))
 (hf : findNow d (a.eval k) es.toList 0 = some r) (z : Value) (hz : ∀ w, (zeroValue et).run P w = .ok z w)
 (hK : wpList P ops Q rest (a.put o.dst (.tuple #[(r.map (·.2)).getD z, .bool r.isSome])) w) : wpList P ops Q (o :: rest) a w := by
 refine wpList_plain hgd fun K hK' => ?_
 have hrun := run_lookup_now (P := P) w t kt et d h hk hp b (a.eval k) es c hb r hf z hz; unfold Oper.wp
 simp [execOp, ho, hm, hrun, Result.andThen]
 exact hK' _ _ hK
structure Filled (w0 : World) (b : Nat) (es : Array MapEntry) (c : Nat) (w : World) : Prop where
 at_ : w.heap[b]? = some (.map es c)
 low : w0.heap.size ≤ b
 bel : Below w0.heap.size w0 w
end Go.Proofs.Ytcbijikalfodnaa.Maps
namespace Go.Proofs.Ytcbijikalfodnaa.Tms
open Go Go.RowKit
inductive Tm where
 | mk (k n : Int) (s : ByteArray) (args : List Tm)
def Tm.k : Tm → Int | .mk k _ _ _ => k
def Tm.n : Tm → Int | .mk _ n _ _ => n
def Tm.s : Tm → ByteArray | .mk _ _ s _ => s
def Tm.args : Tm → List Tm | .mk _ _ _ a => a
mutual
def TmAt (w : World) (P : Nat → Prop) (b o : Nat) : Tm → Prop
 | .mk k n s args => ∃ a cap, w.cell? ⟨b, o, none⟩ = some (.int .i64 k) ∧ w.cell? ⟨b, o + 1, none⟩ = some (.int .i64 n) ∧ w.cell? ⟨b, o + 2, none⟩ = some (.string s) ∧
    w.cell? ⟨b, o + 3, none⟩ = some (.slice a args.length cap) ∧ ArgsFrom w P a 0 args
def ArgsFrom (w : World) (P : Nat → Prop) (a : Option Addr) (j : Nat) : List Tm → Prop
 | [] => True
 | t :: ts => (∃ b off, a = some ⟨b, off, none⟩ ∧ P b ∧ TmAt w P b (off + j * 4) t) ∧ ArgsFrom w P a (j + 1) ts
end
def IsSl (w : World) (P : Nat → Prop) (v : Value) (ts : List Tm) : Prop := ∃ a cap, v = .slice a ts.length cap ∧ ArgsFrom w P a 0 ts
def IsTm (w : World) (P : Nat → Prop) (v : Value) (t : Tm) : Prop := ∃ a cap, v = .agg #[.int .i64 t.k, .int .i64 t.n, .string t.s, .slice a t.args.length cap] ∧ ArgsFrom w P a 0 t.args
theorem argsFrom_iff {w : World} {P : Nat → Prop} {a : Option Addr} : ∀ {ts : List Tm} {j : Nat}, ArgsFrom w P a j ts ↔ ∀ i (h : i < ts.length), ∃ b off, a = some ⟨b, off, none⟩ ∧ P b ∧ TmAt w P b (off + (j + i) * 4) ts[i]
 | [], j => by unfold ArgsFrom; simp
 | t :: ts, j => by
   unfold ArgsFrom; rw [argsFrom_iff]; constructor
   ·rintro ⟨h0, h⟩ i hi
    cases i with
    | zero => simpa using h0
    | succ i =>
      have := h i (by simpa using hi)
      simpa [Nat.add_assoc, Nat.add_comm 1 i] using this
   ·intro h
    refine ⟨by have h0 := h 0 (Nat.zero_lt_succ _); rw [Nat.add_zero] at h0; exact h0, fun i hi => ?_⟩; have := h (i + 1) (by simpa using hi)
    simpa [Nat.add_assoc, Nat.add_comm 1 i] using this
mutual
theorem TmAt.imp {w w' : World} {P P' : Nat → Prop} (hP : ∀ b, P b → P' b) (hw : ∀ b, P b → b < w.heap.size → w'.heap[b]? = w.heap[b]?) : ∀ (t : Tm) (b o : Nat), P b → TmAt w P b o t → TmAt w' P' b o t
 | .mk k n s args, b, o, hb, h => by
   unfold TmAt at h ⊢; obtain ⟨a, cap, h0, h1, h2, h3, h4⟩ := h; have hlt : b < w.heap.size := World.block_lt_of_cell? _ _ h0; have e := fun q => World.cell?_of_block (w := w) (w' := w') (a := ⟨b, q, none⟩) (hw b hb hlt)
   exact ⟨a, cap, (e _).trans h0, (e _).trans h1, (e _).trans h2, (e _).trans h3, ArgsFrom.imp hP hw args a 0 h4⟩
theorem ArgsFrom.imp {w w' : World} {P P' : Nat → Prop} (hP : ∀ b, P b → P' b) (hw : ∀ b, P b → b < w.heap.size → w'.heap[b]? = w.heap[b]?) : ∀ (ts : List Tm) (a : Option Addr) (j : Nat), ArgsFrom w P a j ts → ArgsFrom w' P' a j ts
 | [], a, j, _ => by unfold ArgsFrom; trivial
 | t :: ts, a, j, h => by
   unfold ArgsFrom at h ⊢; obtain ⟨⟨b, off, e, hb, ht⟩, h2⟩ := h; exact ⟨⟨b, off, e, hP b hb, TmAt.imp hP hw t b _ hb ht⟩, ArgsFrom.imp hP hw ts a (j + 1) h2⟩
end
theorem IsSl.imp {w w' : World} {P P' : Nat → Prop} {v : Value} {ts : List Tm} (h : IsSl w P v ts) (hP : ∀ b, P b → P' b) (hw : ∀ b, P b → b < w.heap.size → w'.heap[b]? = w.heap[b]?) : IsSl w' P' v ts :=
 let ⟨a, cap, e, h⟩ := h; ⟨a, cap, e, ArgsFrom.imp hP hw ts a 0 h⟩
theorem IsTm.imp {w w' : World} {P P' : Nat → Prop} {v : Value} {t : Tm} (h : IsTm w P v t) (hP : ∀ b, P b → P' b) (hw : ∀ b, P b → b < w.heap.size → w'.heap[b]? = w.heap[b]?) : IsTm w' P' v t :=
 let ⟨a, cap, e, h⟩ := h; ⟨a, cap, e, ArgsFrom.imp hP hw t.args a 0 h⟩
theorem IsTm.below {w w' : World} {P : Nat → Prop} {v : Value} {t : Tm} (h : IsTm w P v t) (hb : Below w.heap.size w w') : IsTm w' P v t := h.imp (fun _ h => h) fun b _ hlt => hb.block b hlt
theorem IsSl.below {w w' : World} {P : Nat → Prop} {v : Value} {ts : List Tm} (h : IsSl w P v ts) (hb : Below w.heap.size w w') : IsSl w' P v ts := h.imp (fun _ h => h) fun b _ hlt => hb.block b hlt
theorem IsTm.form {w : World} {P : Nat → Prop} {v : Value} {t : Tm} (h : IsTm w P v t) : ∃ a cap, v = .agg #[.int .i64 t.k, .int .i64 t.n, .string t.s, .slice a t.args.length cap] := let ⟨a, cap, e, _⟩ := h; ⟨a, cap, e⟩
theorem IsSl.form {w : World} {P : Nat → Prop} {v : Value} {ts : List Tm} (h : IsSl w P v ts) : ∃ a cap, v = .slice a ts.length cap := let ⟨a, cap, e, _⟩ := h; ⟨a, cap, e⟩
theorem IsSl.at {w : World} {P : Nat → Prop} {a : Option Addr} {len cap : Nat} {ts : List Tm} (h : IsSl w P (.slice a len cap) ts) (i : Nat) (hi : i < ts.length) :
 ∃ b off, a = some ⟨b, off, none⟩ ∧ P b ∧ TmAt w P b (off + i * 4) ts[i] := by
 obtain ⟨a', cap', e, h⟩ := h; obtain ⟨rfl, -, -⟩ := Value.slice.inj e; have := argsFrom_iff.1 h i hi
 simpa using this
theorem TmAt.read {w : World} {P : Nat → Prop} {b o : Nat} {t : Tm} (h : TmAt w P b o t) :
 ∃ a cap, w.cell? ⟨b, o, none⟩ = some (.int .i64 t.k) ∧ w.cell? ⟨b, o + 1, none⟩ = some (.int .i64 t.n) ∧ w.cell? ⟨b, o + 2, none⟩ = some (.string t.s) ∧ w.cell? ⟨b, o + 3, none⟩ = some (.slice a t.args.length cap) ∧
   IsTm w P (.agg #[.int .i64 t.k, .int .i64 t.n, .string t.s, .slice a t.args.length cap]) t ∧ b < w.heap.size := by
 obtain ⟨k, n, s, args⟩ := t; unfold TmAt at h; obtain ⟨a, cap, h0, h1, h2, h3, h4⟩ := h; exact ⟨a, cap, h0, h1, h2, h3, ⟨a, cap, rfl, h4⟩, World.block_lt_of_cell? _ _ h0⟩
theorem TmAt.mk' {w : World} {P : Nat → Prop} {b o : Nat} {t : Tm} {a : Option Addr} {cap : Nat} (h0 : w.cell? ⟨b, o, none⟩ = some (.int .i64 t.k)) (h1 : w.cell? ⟨b, o + 1, none⟩ = some (.int .i64 t.n)) (h2 : w.cell? ⟨b, o + 2, none⟩ = some (.string t.s))
 (h3 : w.cell? ⟨b, o + 3, none⟩ = some (.slice a t.args.length cap)) (h4 : IsSl w P (.slice a t.args.length cap) t.args) : TmAt w P b o t := by
 obtain ⟨k, n, s, args⟩ := t; unfold TmAt; obtain ⟨a', cap', e, h⟩ := h4; obtain ⟨rfl, -, rfl⟩ := Value.slice.inj e; exact ⟨a, cap, h0, h1, h2, h3, h⟩
theorem IsSl.mk' {w : World} {P : Nat → Prop} {a : Option Addr} {cap : Nat} {ts : List Tm} (h : ∀ i (hi : i < ts.length), ∃ b off, a = some ⟨b, off, none⟩ ∧ P b ∧ TmAt w P b (off + i * 4) ts[i]) : IsSl w P (.slice a ts.length cap) ts :=
 ⟨a, cap, rfl, argsFrom_iff.2 fun i hi => by simpa using h i hi⟩
theorem IsSl.nil (w : World) (P : Nat → Prop) (a : Option Addr) (cap : Nat) : IsSl w P (.slice a 0 cap) [] := ⟨a, cap, rfl, by unfold ArgsFrom; trivial⟩
theorem IsTm.args {w : World} {P : Nat → Prop} {k n : Int} {s : ByteArray} {a : Option Addr} {len cap : Nat} {t : Tm} (h : IsTm w P (.agg #[.int .i64 k, .int .i64 n, .string s, .slice a len cap]) t) : IsSl w P (.slice a t.args.length cap) t.args := by
 obtain ⟨a', cap', e, h⟩ := h
 simp at e
 obtain ⟨_, _, _, rfl, _, rfl⟩ := e; exact ⟨a, cap, rfl, h⟩
theorem IsTm.mk' {w : World} {P : Nat → Prop} {a : Option Addr} {cap : Nat} {t : Tm} (h : IsSl w P (.slice a t.args.length cap) t.args) : IsTm w P (.agg #[.int .i64 t.k, .int .i64 t.n, .string t.s, .slice a t.args.length cap]) t := by
 obtain ⟨a', cap', e, h⟩ := h; obtain ⟨rfl, -, rfl⟩ := Value.slice.inj e; exact ⟨a, cap, rfl, h⟩
end Go.Proofs.Ytcbijikalfodnaa.Tms
namespace Go.Proofs.Ytcbijikalfodnaa.Push
open Go Go.RowKit
theorem append_block {P : Program} {w : World} (base : Nat) (t ty e : TypeId) (i : TypeInfo) (z : Value) (size bytes : Nat) (ht : P.underlying t = some (.slice e)) (hi : P.info? e = some i) (hz : i.zero = some z) (hsize : i.size = size) (hby : i.bytes = bytes)
 (v : Value) (n : Nat) (xs : List Value) (hown : w.ownsRow base e size v n xs) (a : Addr) (c : Nat) (news : List Value) (hl : news.length = size) (hnews : ∀ j u, news[j]? = some u → w.cell? (a.add j) = some u) (h1 : ∀ u ∈ news, u.oneCell' = true)
 (h63 : n + 1 ≤ maxLen) (hbytes : (n + 1) * bytes ≤ 140737488355328) {v' : Value} {w' : World} (hr : (Builtin.append_ #[t, t] ty #[v, .slice (some a) 1 c]).run P w = .ok v' w') :
 ∀ k, v'.ownBlock = some k → v.ownBlock = some k ∨ w.heap.size ≤ k := by
 subst hsize; subst hby; have hsmall : n + 1 ≤ 9223372036854775807 := by simp only [maxLen] at h63; omega
 have hl' : news.length = 1 * i.size := by omega
 rcases hown.2 with ⟨rfl, rfl⟩ | ⟨g, cap, cur, rfl, hbg, hg, hnc, hcm, hcs, htake⟩
 ·rw [run_append_nil (P := P) w t ty e i z ht hi hz a 1 c news hl' hnews (by omega) (by omega) (by have hb := hbytes; simp only [Nat.zero_add] at hb; omega)] at hr
  simp only [Result.ok.injEq] at hr; obtain ⟨rfl, -⟩ := hr; intro k hk
  simp [Value.ownBlock] at hk
  omega
 ·by_cases hroom : n + 1 ≤ cap
  ·have hfit : n * i.size + news.length ≤ cur.size := by
    have h2 : (n + 1) * i.size ≤ cap * i.size := Nat.mul_le_mul_right _ hroom; rw [Nat.add_mul] at h2; omega
   rw [run_append_room (P := P) w t ty e i ht hi g n cap cur hg a 1 c news hl' hnews h1 hroom hfit] at hr; simp only [Result.ok.injEq] at hr; obtain ⟨rfl, -⟩ := hr; intro k hk; exact .inl hk
  ·rw [run_append_grow (P := P) w t ty e i z ht hi hz ⟨g, 0, none⟩ n cap xs hown.1 (hown.cells (g := g) rfl) a 1 c news hl' hnews (by omega) (by omega) (growslice_fits (by omega) hbytes)] at hr
   simp only [Result.ok.injEq] at hr; obtain ⟨rfl, -⟩ := hr; intro k hk
   simp [Value.ownBlock] at hk
   omega
theorem wpList_push {P : Program} {w : World} {ops : Array Oper} {rest : List Oper} {o : Oper} {a : Act} {Q : Exit → Act → World → Prop} (hgd : o.guard = none) (s x : Operand) (t : TypeId)
 (ho : o.op = .call { callee := .builtin .append, args := #[s, x], argTypes := #[t, t] })
 (base : Nat) (e : TypeId) (i : TypeInfo) (z : Value) (size bytes : Nat) (ht : P.underlying t = some (.slice e)) (hi : P.info? e = some i) (hz : i.zero = some z)
 (hsize : i.size = size) (hby : i.bytes = bytes) (hzs : z.cells.size = size) (hsz : 0 < size)
 (v : Value) (n : Nat) (xs : List Value) (hs : a.eval s = v) (hown : w.ownsRow base e size v n xs)
 (ad : Addr) (c : Nat) (news : List Value) (hx : a.eval x = .slice (some ad) 1 c) (hl : news.length = size) (hnews : ∀ j u, news[j]? = some u → w.cell? (ad.add j) = some u) (h1 : ∀ u ∈ news, u.oneCell' = true)
 (h63 : n + 1 ≤ maxLen) (hbytes : (n + 1) * bytes ≤ 140737488355328) (hbase : base ≤ w.heap.size)
 (h : ∀ v' w', w'.ownsRow base e size v' (n + 1) (xs ++ news) → w.grownBy w' v.ownBlock → (∀ k, v'.ownBlock = some k → v.ownBlock = some k ∨ w.heap.size ≤ k) → wpList P ops Q rest (a.put o.dst v') w') : wpList P ops Q (o :: rest) a w := by
 refine wpList_plain hgd fun K hK => ?_
 obtain ⟨v', w', hr, h2, h3, -⟩ := run_append_own (P := P) w base t o.type e i z size bytes ht hi hz hsize hby hzs hsz v n xs hown ad 1 c news (by omega) hnews h1 h63 hbytes hbase; have h4 := append_block (P := P) base t o.type e i z size bytes ht hi hz hsize hby v n xs hown ad c news hl hnews h1 h63 hbytes hr; unfold Oper.wp execOp; simp only [ho, resolve, invoke, builtin, Sem.run_bind, Sem.run_pure, Result.andThen_ok, List.map_toArray, List.map_cons, List.map_nil, hs, hx, hr]; exact hK _ _ (h v' w' h2 h3 h4)
theorem results_cell_tmp {P : Program} {fn : Func} {p q : Tmp} {ty : TypeId} (h : fn.results = #[.cell p ty, .tmp q]) (tmps : Array Value) (w : World) (g : Nat) (t : TypeId) (cs : Array Value) (fr : Nat × Nat) (d : TypeDesc) (x : Value)
 (hp : tmps.getD p undef = .pointer (some ⟨g, 0, none⟩)) (hx : tmps.getD q undef = x) (hg : w.heap[g]? = some (.cells cs t fr))
 (hu : P.underlying ty = some d) (hd : (match d with | .struct _ | .array _ _ => true | _ => false) = true) (hi : (P.info? ty).map (·.size) = some cs.size) :
 (results fn tmps).run P w = .ok (.tuple #[.agg cs, x]) w := by
 have hp' : tmps[p]?.getD undef = .pointer (some ⟨g, 0, none⟩) := by simpa using hp
 have hx' : tmps[q]?.getD undef = x := by simpa using hx
 simp [results, h, hp', hx', asAddr, run_loadVar_row w g t ty cs fr d hg hu hd hi]
end Go.Proofs.Ytcbijikalfodnaa.Push
namespace Go.Proofs.Ytcbijikalfodnaa.Rws
open Go Go.RowKit
structure Kind (α : Type) where
 T : TypeId
 sz : Nat
 R : World → (Nat → Prop) → List Value → α → Prop
 pos : 0 < sz
 len : ∀ {w P cs a}, R w P cs a → cs.length = sz
 one : ∀ {w P cs a}, R w P cs a → ∀ v ∈ cs, v.oneCell' = true
 mono : ∀ {w w' : World} {P P' : Nat → Prop} {cs a}, (∀ b, P b → P' b) → (∀ b, P b → b < w.heap.size → w'.heap[b]? = w.heap[b]?) → R w P cs a → R w' P' cs a
 lt : ∀ {w : World} {P : Nat → Prop} {cs a}, R w P cs a → R w (fun b => P b ∧ b < w.heap.size) cs a
section
variable {α : Type} (K : Kind α)
def Each (w : World) (P : Nat → Prop) : List (List Value) → List α → Prop
 | [], [] => True
 | cs :: xss, a :: l => K.R w P cs a ∧ Each w P xss l
 | _, _ => False
variable {K}
theorem Each.mono {w w' : World} {P P' : Nat → Prop} (hP : ∀ b, P b → P' b) (hw : ∀ b, P b → b < w.heap.size → w'.heap[b]? = w.heap[b]?) : ∀ {xss : List (List Value)} {l : List α}, Each K w P xss l → Each K w' P' xss l
 | [], [], _ => trivial
 | _ :: _, _ :: _, h => ⟨K.mono hP hw h.1, Each.mono hP hw h.2⟩
 | [], _ :: _, h => h.elim
 | _ :: _, [], h => h.elim
theorem Each.snoc {w : World} {P : Nat → Prop} {cs : List Value} {a : α} (ha : K.R w P cs a) : ∀ {xss : List (List Value)} {l : List α}, Each K w P xss l → Each K w P (xss ++ [cs]) (l ++ [a])
 | [], [], _ => ⟨ha, trivial⟩
 | _ :: _, _ :: _, h => ⟨h.1, Each.snoc ha h.2⟩
 | [], _ :: _, h => h.elim
 | _ :: _, [], h => h.elim
theorem Each.unsnoc {w : World} {P : Nat → Prop} {a : α} : ∀ {xss : List (List Value)} {l : List α}, Each K w P xss (l ++ [a]) → ∃ yss cs, xss = yss ++ [cs] ∧ Each K w P yss l ∧ K.R w P cs a
 | [], [], h => h.elim
 | [cs], [], h => ⟨[], cs, rfl, trivial, h.1⟩
 | _ :: _ :: _, [], h => h.2.elim
 | [], _ :: _, h => h.elim
 | x :: xss, _ :: l, h => by
   obtain ⟨yss, cs, e, h1, h2⟩ := Each.unsnoc h.2; exact ⟨x :: yss, cs, by rw [e]; rfl, ⟨h.1, h1⟩, h2⟩
theorem Each.flat {w : World} {P : Nat → Prop} : ∀ {xss : List (List Value)} {l : List α}, Each K w P xss l → xss.flatten.length = l.length * K.sz
 | [], [], _ => by simp
 | cs :: xss, a :: l, h => by have := Each.flat h.2; have := K.len h.1; simp only [List.flatten_cons, List.length_append, List.length_cons, Nat.add_mul, Nat.one_mul]; omega
 | [], _ :: _, h => h.elim
 | _ :: _, [], h => h.elim
theorem Each.inj {w : World} {P P' : Nat → Prop} : ∀ {xss yss : List (List Value)} {l : List α}, Each K w P xss l → Each K w P' yss l → xss.flatten = yss.flatten → xss = yss
 | [], [], [], _, _, _ => rfl
 | x :: xss, y :: yss, a :: l, h, h', e => by
   simp only [List.flatten_cons] at e; obtain ⟨rfl, e2⟩ := List.append_inj e ((K.len h.1).trans (K.len h'.1).symm); rw [Each.inj h.2 h'.2 e2]
 | [], _ :: _, _ :: _, h, _, _ => h.elim
 | [], _ :: _, [], _, h, _ => h.elim
 | _ :: _, [], _ :: _, _, h, _ => h.elim
 | _ :: _, [], [], h, _, _ => h.elim
 | _ :: _, _ :: _, [], h, _, _ => h.elim
 | [], [], _ :: _, h, _, _ => h.elim
variable (K)
def Own (w : World) (base : Nat) (P : Nat → Prop) (v : Value) (l : List α) : Prop :=
 ∃ xss : List (List Value), w.ownsRow base K.T K.sz v l.length xss.flatten ∧ Each K w (fun b => P b ∧ v.ownBlock ≠ some b ∧ b < w.heap.size) xss l
variable {K}
theorem Own.nil (w : World) (base : Nat) (P : Nat → Prop) : Own K w base P (.slice none 0 0) [] := ⟨[], World.ownsRow_nil w base _ _, trivial⟩
theorem Own.low {w : World} {base : Nat} {P : Nat → Prop} {v : Value} {l : List α} (h : Own K w base P v l) : ∀ k, v.ownBlock = some k → base ≤ k ∧ k < w.heap.size := h.choose_spec.1.lt
theorem Own.form {w : World} {base : Nat} {P : Nat → Prop} {v : Value} {l : List α} (h : Own K w base P v l) : (v = .slice none 0 0 ∧ l = []) ∨ ∃ g cap, v = .slice (some ⟨g, 0, none⟩) l.length cap := by
 obtain ⟨xss, ⟨-, ⟨h0, hn⟩ | ⟨g, cap, cur, e, -⟩⟩, -⟩ := h
 ·exact .inl ⟨h0, List.eq_nil_of_length_eq_zero hn⟩
 ·exact .inr ⟨g, cap, e⟩
theorem Own.below {w w' : World} {base : Nat} {P : Nat → Prop} {v : Value} {l : List α} (h : Own K w base P v l) (hb : Below w.heap.size w w') : Own K w' base P v l := by
 obtain ⟨xss, h1, h2⟩ := h; refine ⟨xss, ⟨h1.1, ?_⟩, h2.mono (fun b h => ⟨h.1, h.2.1, Nat.lt_of_lt_of_le h.2.2 hb.size⟩) fun b _ hlt => hb.block b hlt⟩; rcases h1.2 with h | ⟨g, cap, cur, e, h, hg, rest⟩
 ·exact .inl h
 ·exact .inr ⟨g, cap, cur, e, h, (hb.block g (Array.getElem?_eq_some_iff.1 hg).1).trans hg, rest⟩
theorem Own.keep {w w' : World} {base : Nat} {P : Nat → Prop} {v : Value} {l : List α} (h : Own K w base P v l) (hs : w.heap.size ≤ w'.heap.size) (hk : ∀ b, b < w.heap.size → (P b ∨ v.ownBlock = some b) → w'.heap[b]? = w.heap[b]?) : Own K w' base P v l := by
 obtain ⟨xss, h1, h2⟩ := h; refine ⟨xss, ⟨h1.1, ?_⟩, h2.mono (fun b h => ⟨h.1, h.2.1, Nat.lt_of_lt_of_le h.2.2 hs⟩) fun b h hlt => hk b hlt (.inl h.1)⟩; rcases h1.2 with h | ⟨g, cap, cur, e, h, hg, rest⟩
 ·exact .inl h
 ·exact .inr ⟨g, cap, cur, e, h, (hk g (Array.getElem?_eq_some_iff.1 hg).1 (.inr (by rw [e]; rfl))).trans hg, rest⟩
theorem Own.pop {w : World} {base g cap n : Nat} {P : Nat → Prop} {l : List α} {a : α} (h : Own K w base P (.slice (some ⟨g, 0, none⟩) (n + 1) cap) (l ++ [a])) (hn : l.length = n) :
 Own K w base P (.slice (some ⟨g, 0, none⟩) n cap) l ∧ n + 1 ≤ cap ∧ cap ≤ maxLen ∧ ∃ cs, K.R w (fun b => P b ∧ g ≠ b ∧ b < w.heap.size) cs a ∧ ∀ j, j < K.sz → w.cell? ⟨g, n * K.sz + j, none⟩ = cs[j]? := by
 obtain ⟨xss, h1, h2⟩ := h; obtain ⟨yss, cs, rfl, h3, h4⟩ := h2.unsnoc; have hy := h3.flat; have hl := K.len h4; rw [hn] at hy; rw [List.flatten_append, List.flatten_singleton] at h1; have hne : ∀ b, (Value.slice (some ⟨g, 0, none⟩) (n + 1) cap).ownBlock ≠ some b → g ≠ b := fun b h e => h (by simp [Value.ownBlock, e])
 have e1 : (l ++ [a]).length = n + 1 := by simp [hn]
 rw [e1] at h1; have hcell := fun j (hj : j < K.sz) => h1.cellAt (n * K.sz + j) (by rw [Nat.add_mul]; omega)
 obtain ⟨-, h5 | ⟨g', cap', cur, e, hb, hg, hc, hm, hs, ht⟩⟩ := h1
 ·cases h5.1
 ·simp only [Value.slice.injEq, Option.some.injEq, Addr.mk.injEq, and_true, true_and] at e
  obtain ⟨rfl, rfl⟩ := e; refine ⟨⟨yss, ⟨by rw [hn]; exact hy, .inr ⟨_, _, cur, by rw [hn], hb, hg, by omega, hm, hs, ?_⟩⟩, h3.mono (fun b h => ⟨h.1, fun e => h.2.1 (by simpa [Value.ownBlock] using e), h.2.2⟩) fun _ _ _ => rfl⟩, hc, hm, cs, K.mono (fun b h => ⟨h.1, hne b h.2.1, h.2.2⟩) (fun _ _ _ => rfl) h4, fun j hj => ?_⟩
  ·have := congrArg (List.take (n * K.sz)) ht
   rw [List.take_take, List.take_append_of_le_length (by omega), List.take_of_length_le (l := yss.flatten) (by omega)] at this; rw [← this, hn]
   congr 1
   rw [Nat.add_mul]; omega
  ·rw [hcell j hj, List.getElem?_append_right (by omega), hy, Nat.add_sub_cancel_left]
theorem Own.rows {w : World} {base : Nat} {P : Nat → Prop} {v : Value} {l : List α} (h : Own K w base P v l) {xs : List Value} (hx : w.ownsRow base K.T K.sz v l.length xs) : ∃ xss : List (List Value), xs = xss.flatten ∧ Each K w (fun b => P b ∧ v.ownBlock ≠ some b ∧ b < w.heap.size) xss l := by
 obtain ⟨xss, h1, h2⟩ := h; refine ⟨xss, ?_, h2⟩; rcases h1.2 with ⟨rfl, hn⟩ | ⟨g, cap, cur, e, -, hg, -, -, -, ht⟩
 ·have a := h1.1; have b := hx.1; rw [hn] at a b; simp only [Nat.zero_mul] at a b
  rw [List.eq_nil_of_length_eq_zero a, List.eq_nil_of_length_eq_zero b]
 ·rcases hx.2 with ⟨e', hn⟩ | ⟨g', cap', cur', e', -, hg', -, -, -, ht'⟩
  ·rw [e] at e'; cases e'
  ·rw [e] at e'
   simp only [Value.slice.injEq, Option.some.injEq, Addr.mk.injEq, and_true] at e'; obtain ⟨rfl, -, -⟩ := e'; rw [hg] at hg'; simp only [Option.some.injEq, Obj.cells.injEq, and_true] at hg'; rw [← ht, ← ht', hg']
theorem wpList_put {Q : Program} {w : World} {ops : Array Oper} {rest : List Oper} {o : Oper} {a : Act} {E : Exit → Act → World → Prop} (hgd : o.guard = none) (s x : Operand) (t : TypeId)
 (ho : o.op = .call { callee := .builtin .append, args := #[s, x], argTypes := #[t, t] }) (ht : Q.underlying t = some (.slice K.T)) {z : Value} {bytes : Nat} (hi : (Q.info? K.T).map (fun i => (i.zero, i.size, i.bytes)) = some (some z, K.sz, bytes)) (hz : z.cells.size = K.sz)
 (base : Nat) (P : Nat → Prop) (v : Value) (l : List α) (cs : List Value) (y : α) (g c : Nat) (T : TypeId) (fr : Nat × Nat) (hs : a.eval s = v) (hown : Own K w base P v l) (hx : a.eval x = .slice (some ⟨g, 0, none⟩) 1 c) (hg : w.heap[g]? = some (.cells cs.toArray T fr))
 (hy : K.R w (fun b => P b ∧ v.ownBlock ≠ some b) cs y) (h63 : l.length + 1 ≤ maxLen) (hlen : (l.length + 1) * bytes ≤ 140737488355328) (hbase : base ≤ w.heap.size)
 (h : ∀ v' w', Own K w' base P v' (l ++ [y]) → Below base w w' → w.grownBy w' v.ownBlock → (∀ k, v'.ownBlock = some k → v.ownBlock = some k ∨ w.heap.size ≤ k) → wpList Q ops E rest (a.put o.dst v') w') : wpList Q ops E (o :: rest) a w := by
 obtain ⟨i0, hi, hz0, hz1, hz2⟩ := info_parts hi; obtain ⟨xss, h1, h2⟩ := id hown; refine Push.wpList_push hgd s x t ho base K.T i0 z K.sz bytes ht hi hz0 hz1 hz2 hz K.pos v l.length xss.flatten hs h1 ⟨g, 0, none⟩ c cs hx (K.len hy) (fun j u hu => by rw [Addr.add_lit, cell_of_row w g _ _ _ _ hg, Nat.zero_add]; simpa using hu) (K.one hy) h63 hlen hbase ?_; intro v' w' hown' hgr hv; have hsz : w.heap.size ≤ w'.heap.size := hgr.size; have hblk : ∀ b, b < w.heap.size → v.ownBlock ≠ some b → w'.heap[b]? = w.heap[b]? := fun b hb hne => hgr.block b hb fun e => hne e.symm
 have hne : ∀ b, b < w.heap.size → v.ownBlock ≠ some b → v'.ownBlock ≠ some b := fun b hb h e => by
  rcases hv b e with h' | h'
  ·exact h h'
  ·omega
 have hy' : K.R w (fun b => P b ∧ v.ownBlock ≠ some b ∧ b < w.heap.size) cs y := K.mono (fun b h => ⟨h.1.1, h.1.2, h.2⟩) (fun _ _ _ => rfl) (K.lt hy); refine h v' w' ⟨xss ++ [cs], by simpa using hown', (h2.snoc hy').mono (fun b h => ⟨h.1, hne b h.2.2 h.2.1, by omega⟩) fun b h _ => hblk b h.2.2 h.2.1⟩ ?_ hgr hv; exact (Below.refl base w).grown hgr hbase fun k e => (h1.lt k e).1
end
end Go.Proofs.Ytcbijikalfodnaa.Rws
namespace Go.Proofs.Ytcbijikalfodnaa.Reg
open Go Go.RowKit
section
variable {P : Program} {ops : Array Oper} {Q : Exit → Act → World → Prop}
def backB (ops : Array Oper) : Bool :=
 (List.range ops.size).all fun i => match ops[i]? with
   | some o => o.after.all fun e => !Region.binds .any e || decide (e.on < i)
   | none => true
theorem backB_spec (h : backB ops = true) {i : Nat} {o : Oper} (ho : ops[i]? = some o) : ∀ e ∈ o.after, Region.binds .any e = true → e.on < i := by
 intro e he hb; have h1 := List.all_eq_true.1 h i (List.mem_range.2 (Array.getElem?_eq_some_iff.1 ho).1); simp only [ho, Array.all_eq_true_iff_forall_mem] at h1
 simpa [hb] using h1 e he
structure Good (ops : Array Oper) (L : Array Bool) : Prop where
 size : L.size = ops.size
 closed : ∀ j oj, ops[j]? = some oj → L.getD j false = true → ∀ e ∈ oj.after, Region.binds .any e = true → L.getD e.on false = true
theorem Good.set {L : Array Bool} (g : Good ops L) {i : Nat} {o : Oper} (ho : ops[i]? = some o) (hall : ∀ e ∈ o.after, Region.binds .any e = true → L.getD e.on false = true) :
 Good ops (L.setIfInBounds i true) := by
 refine ⟨by simp [g.size], fun j oj hj hl e he hb => ?_⟩
 by_cases hij : i = j
 ·subst hij
  obtain rfl : oj = o := Option.some.inj (hj.symm.trans ho); exact getD_set_true (hall e he hb)
 ·rw [getD_set_ne false hij] at hl
  exact getD_set_true (g.closed j oj hj hl e he hb)
theorem ready_of_unlisted (hB : backB ops = true) {L : Array Bool} (g : Good ops L) : ∀ i, i < ops.size → L.getD i false = false → Region.ready .any ops L ≠ [] := by
 intro i
 induction i using Nat.strongRecOn with
 | _ i ih =>
   intro hi hf; have ho : ops[i]? = some ops[i] := Array.getElem?_eq_getElem hi
   by_cases hall : ∀ e ∈ ops[i].after, Region.binds .any e = true → L.getD e.on false = true
   ·intro h0
    have : i ∈ Region.ready .any ops L := mem_ready.2 ⟨getD_in (by rw [g.size]; exact hi) hf, _, ho, hall⟩; rw [h0] at this; cases this
   ·have : ∃ e, e ∈ ops[i].after ∧ Region.binds .any e = true ∧ L.getD e.on false = false := by
     refine Classical.byContradiction fun hne => hall fun e he hb => ?_
     cases hc : L.getD e.on false with
     | true => rfl
     | false => exact absurd ⟨e, he, hb, hc⟩ hne
    obtain ⟨e, he, hb, hc⟩ := this; have := backB_spec hB ho e he hb; exact ih e.on this (by omega) hc
theorem count_set {l : List Bool} {i : Nat} (h : l[i]? = some false) : (l.set i true).count false + 1 = l.count false := by
 induction l generalizing i with
 | nil => simp at h
 | cons b l ih =>
   cases i with
   | zero => simp at h; subst h; simp
   | succ i =>
     have := ih (i := i) (by simpa using h); simp only [List.set_cons_succ, List.count_cons]; omega
theorem all_of_count {l : List Bool} (h : l.count false = 0) : ∀ i, i < l.length → l[i]? = some true := by
 intro i hi; rw [List.getElem?_eq_getElem hi]
 congr 1
 cases hb : l[i] with
 | true => rfl
 | false =>
   have : false ∈ l := hb ▸ List.getElem_mem hi; have := List.count_pos_iff.2 this; omega
/-! ### Where all that follows waits for all that stands ahead -/
def cutB (ops : Array Oper) (k n : Nat) : Bool :=
 ((List.range n).all fun i => decide (i < k) || (List.range (n + 1)).any fun j => decide (i < j) && Region.waitsFor .any ops j i) &&
 (List.range ops.size).all fun t => decide (t ≤ n) || (List.range t).any fun j => decide (n ≤ j) && Region.waitsFor .any ops t j
theorem cut_first {k n : Nat} (h : cutB ops k n = true) {L : Array Bool} (g : Good ops L) (hk : ∀ i, i < k → L.getD i false = true) {o : Oper} (ho : ops[n]? = some o)
 (hall : ∀ e ∈ o.after, Region.binds .any e = true → L.getD e.on false = true) : ∀ d i, n - i = d → i < n → L.getD i false = true := by
 simp only [cutB, Bool.and_eq_true, List.all_eq_true, List.mem_range, Bool.or_eq_true, decide_eq_true_eq, List.any_eq_true] at h; intro d
 induction d using Nat.strongRecOn with
 | _ d ih =>
   intro i hd hi; rcases h.1 i hi with hlt | ⟨j, hj, hij, hw⟩
   ·exact hk i hlt
   ·obtain ⟨oj, hoj, e, he, hb, hon⟩ := Region.waitsFor_spec hw
    rw [← hon]
    by_cases hjn : j = n
    ·subst hjn
     obtain rfl : oj = o := Option.some.inj (hoj.symm.trans ho); exact hall e he hb
    ·exact g.closed j oj hoj (ih (n - j) (by omega) j rfl (by omega)) e he hb
theorem cut_spec {k n : Nat} (h : cutB ops k n = true) {L : Array Bool} (g : Good ops L) (hk : ∀ i, i < k → L.getD i false = true) (hlt : n < ops.size) :
 ∀ t o, n ≤ t → ops[t]? = some o → (∀ e ∈ o.after, Region.binds .any e = true → L.getD e.on false = true) → ∀ i, i < n → L.getD i false = true := by
 intro t
 induction t using Nat.strongRecOn with
 | _ t ih =>
   intro o hnt ho hall i hi
   by_cases htn : t = n
   ·subst htn
    exact cut_first h g hk ho hall (t - i) i rfl hi
   ·have h2 := h
    simp only [cutB, Bool.and_eq_true, List.all_eq_true, List.mem_range, Bool.or_eq_true, decide_eq_true_eq, List.any_eq_true] at h2; rcases h2.2 t (Array.getElem?_eq_some_iff.1 ho).1 with hle | ⟨j, hj, hnj, hw⟩
    ·omega
    ·obtain ⟨ot, hot, e, he, hb, hon⟩ := Region.waitsFor_spec hw
     obtain rfl : ot = o := Option.some.inj (hot.symm.trans ho); have hjl := hall e he hb; rw [hon] at hjl; have hjs : j < ops.size := by have := (Array.getElem?_eq_some_iff.1 ho).1; omega
     exact ih j hj ops[j] hnj (Array.getElem?_eq_getElem hjs) (fun e' he' hb' => g.closed j ops[j] (Array.getElem?_eq_getElem hjs) hjl e' he' hb') i hi
def Rest (P : Program) (ops : Array Oper) (Q : Exit → Act → World → Prop) (k : Nat) (a : Act) (w : World) : Prop :=
 ∀ L, Good ops L → (∀ i, i < k → i < ops.size → L.getD i false = true) → (∀ i, k ≤ i → L.getD i false = false) → wpAny P .any ops Q (ops.size - k) L a w
theorem count_first : ∀ (l : List Bool) (k : Nat), (∀ i, i < k → i < l.length → l.getD i false = true) → (∀ i, k ≤ i → l.getD i false = false) → l.count false = l.length - k
 | [], k, _, _ => by simp
 | b :: l, 0, _, h2 => by
   have hb : b = false := by simpa using h2 0 (Nat.le_refl _)
   have := count_first l 0 (fun i hi => by omega) (fun i _ => by simpa using h2 (i + 1) (by omega)); subst hb
   simp [this]
 | b :: l, k + 1, h1, h2 => by
   have hb : b = true := by simpa using h1 0 (by omega) (by simp)
   have := count_first l k (fun i hi hl => by simpa using h1 (i + 1) (by omega) (by simpa using hl)) (fun i hi => by simpa using h2 (i + 1) (by omega)); subst hb
   simp [this]
theorem count_rest {L : Array Bool} (g : Good ops L) {k : Nat} (h1 : ∀ i, i < k → i < ops.size → L.getD i false = true) (h2 : ∀ i, k ≤ i → L.getD i false = false) : L.toList.count false = ops.size - k := by
 have := count_first L.toList k (fun i hi hl => by have := h1 i hi (by simpa [g.size] using hl); simpa using this) (fun i hi => by have := h2 i hi; simpa using this)
 simpa [g.size] using this
theorem wpAny_upto (I : Array Bool → Act → World → Prop) (hB : backB ops = true) {k n : Nat} (hn : n ≤ ops.size) (hcut : n = ops.size ∨ cutB ops k n = true)
 (hstep : ∀ L a w i o, Good ops L → i < n → ops[i]? = some o → L.getD i true = false → (∀ e ∈ o.after, Region.binds .any e = true → L.getD e.on false = true) → (∀ t, n ≤ t → L.getD t false = false) → (∀ j, j < k → L.getD j false = true) → I L a w →
   wpOp P ops Q i (I (L.setIfInBounds i true)) a w)
 (hend : ∀ L a w, (∀ i, i < n → L.getD i false = true) → I L a w → Rest P ops Q n a w) :
 ∀ fuel L a w, Good ops L → L.toList.count false = fuel → (∀ i, i < k → L.getD i false = true) → (∀ t, n ≤ t → L.getD t false = false) → I L a w → wpAny P .any ops Q fuel L a w := by
 have done : ∀ fuel L a w, Good ops L → L.toList.count false = fuel → (∀ t, n ≤ t → L.getD t false = false) → I L a w → (∀ i, i < n → L.getD i false = true) → wpAny P .any ops Q fuel L a w := by
  intro fuel L a w g hc ht hI hall; have := hend L a w hall hI L g (fun i hi _ => hall i hi) ht
  rwa [← count_rest g (fun i hi _ => hall i hi) ht, hc] at this
 intro fuel
 induction fuel with
 | zero =>
   intro L a w g hc _ ht hI; refine done 0 L a w g hc ht hI fun i hi => ?_
   have h1 := all_of_count hc i (by simpa [g.size] using (by omega : i < ops.size)); have hl : i < L.size := by rw [g.size]; omega
   simp [hl] at h1 ⊢
   exact h1
 | succ fuel ih =>
   intro L a w g hc hk ht hI
   by_cases hall : ∀ i, i < n → L.getD i false = true
   ·exact done _ L a w g hc ht hI hall
   ·have hne : ∃ i, i < n ∧ L.getD i false = false := by
     refine Classical.byContradiction fun hno => hall fun i hi => ?_
     cases hf : L.getD i false with
     | true => rfl
     | false => exact absurd ⟨i, hi, hf⟩ hno
    obtain ⟨i0, hi0, hf0⟩ := hne; refine ⟨fun h0 => absurd h0 (ready_of_unlisted hB g i0 (by omega) hf0), fun i hi => ?_⟩; obtain ⟨hu, o, ho, hal⟩ := mem_ready.1 hi; have hilt : i < ops.size := (Array.getElem?_eq_some_iff.1 ho).1
    have hin : i < n := by
     rcases Nat.lt_or_ge i n with h | h
     ·exact h
     ·rcases hcut with hcut | hcut
      ·omega
      ·have := cut_spec hcut g hk (by omega) i o h ho hal i0 hi0
       rw [this] at hf0; cases hf0
    refine wpOp_mono (fun a' w' h' => ih _ a' w' (g.set ho hal) ?_ (fun j hj => getD_set_true (hk j hj)) (fun t htn => by rw [getD_set_ne false (by omega)]; exact ht t htn) h') (hstep L a w i o g hin ho hu hal ht hk hI); have hlt : i < L.size := by rw [g.size]; exact hilt
    have hf : L.toList[i]? = some false := by simp [hlt] at hu ⊢; exact hu
    have := count_set hf
    simp
    omega
theorem good_start : Good ops (Array.replicate ops.size false) :=
 ⟨by simp, fun j oj hj hl => by rw [getD_replicate_false] at hl; cases hl⟩
theorem wp_region_rest {id : Nat} {a : Act} {w : World} {l : List Oper} (hm : P.follows .mixedOrders = true) (h : Rest P l.toArray Q 0 a w.drew) : (Code.region id l.toArray true).wp P Q a w :=
 wp_region_any hm (by have := h _ good_start (fun i hi => by omega) (fun i _ => getD_replicate_false _ _); simpa using this)
theorem rest_end {k : Nat} {a : Act} {w : World} (hk : ops.size ≤ k) (h : Q .normal a w) : Rest P ops Q k a w := by
 intro L g h1 h2; have h0 : ops.size - k = 0 := by omega
 rw [h0]; refine ⟨List.eq_nil_iff_forall_not_mem.2 fun i hi => ?_, h⟩; obtain ⟨hu, o, ho, _⟩ := mem_ready.1 hi; have hlt := (Array.getElem?_eq_some_iff.1 ho).1; have := h1 i (by omega) hlt; rw [getD_both hu] at this; cases this
def lineB (ops : Array Oper) (k m : Nat) : Bool := (List.range m).all fun i => decide (i < k) || (i + 1 == ops.size) || cutB ops i (i + 1)
def thenRest (P : Program) (ops : Array Oper) (Q : Exit → Act → World → Prop) (m : Nat) : Exit → Act → World → Prop
 | .normal, a, w => Rest P ops Q m a w
 | e, a, w => Q e a w
theorem then_rest {m : Nat} {a : Act} {w : World} (h : Rest P ops Q m a w) : thenRest P ops Q m .normal a w := h
theorem lets_then {m : Nat} (h : LetsOut (thenRest P ops Q m)) : LetsOut Q := h
theorem upon_then {m : Nat} {o : Oper} {a : Act} {K : Act → World → Prop} {r : Result Next} (h : o.upon P a K (thenRest P ops Q m) r) : o.upon P a K Q r := by
 cases r with
 | ok x w' =>
   cases x <;> simp only [Oper.upon] at h ⊢
   case value v => exact h
   case skip => exact h
   case defer d => exact h
   case enter f args => exact h.mono fun e w'' he => by cases e <;> exact he
   case row row args => exact h
 | halt x w' => cases x <;> simp only [Oper.upon] at h ⊢; exact h
theorem rest_line (k m : Nat) (hB : backB ops = true) (hkm : k ≤ m) (hm : m ≤ ops.size) (hl : lineB ops k m = true) :
 ∀ a w, wpList P ops (thenRest P ops Q m) ((ops.toList.drop k).take (m - k)) a w → Rest P ops Q k a w := by
 obtain ⟨d, rfl⟩ : ∃ d, m = k + d := ⟨m - k, by omega⟩; clear hkm
 induction d generalizing k with
 | zero =>
   intro a w h; simp only [Nat.add_zero, Nat.sub_self, List.take_zero, wpList] at h; exact h
 | succ d ih =>
   intro a w h; have hklt : k < ops.size := by omega
   have ho : ops[k]? = some ops[k] := Array.getElem?_eq_getElem hklt
   have hd : (ops.toList.drop k).take (k + (d + 1) - k) = ops[k] :: (ops.toList.drop (k + 1)).take (k + 1 + d - (k + 1)) := by
    rw [List.drop_eq_getElem_cons (by simpa using hklt), show k + (d + 1) - k = (k + 1 + d - (k + 1)) + 1 from by omega, List.take_succ_cons]
    simp
   rw [hd] at h
   have hl' : lineB ops (k + 1) (k + 1 + d) = true := by
    simp only [lineB, List.all_eq_true, List.mem_range, Bool.or_eq_true, decide_eq_true_eq] at hl ⊢; intro i hi; rcases hl i (by omega) with (h1 | h1) | h1
    ·exact .inl (.inl (by omega))
    ·exact .inl (.inr h1)
    ·exact .inr h1
   have hcut : k + 1 = ops.size ∨ cutB ops k (k + 1) = true := by
    simp only [lineB, List.all_eq_true, List.mem_range, Bool.or_eq_true, decide_eq_true_eq, beq_iff_eq] at hl; rcases hl k (by omega) with (h1 | h1) | h1
    ·omega
    ·exact .inl h1
    ·exact .inr h1
   have key := fun a w => ih (k + 1) (by omega) (by rw [show k + 1 + d = k + 1 + d from rfl]; exact hl') a w
   rw [show k + (d + 1) = k + 1 + d from by omega] at h; intro L g h1 h2
   refine wpAny_upto (k := k) (n := k + 1) (fun L' a' w' => (L'.getD k false = false ∧ a' = a ∧ w' = w) ∨ (L'.getD k false = true ∧ Rest P ops Q (k + 1) a' w')) hB (by omega) hcut ?_ ?_ _ L a w g (count_rest g h1 h2)
    (fun i hi => h1 i hi (by omega)) (fun t ht => h2 t (by omega)) (.inl ⟨h2 k (Nat.le_refl _), rfl, rfl⟩)
   ·intro L' a' w' i o g' hi hoi hu hal htail hlow hI
    have hik : i = k := by
     rcases Nat.lt_or_ge i k with hlt | hge
     ·have := hlow i hlt
      rw [getD_both hu] at this; cases this
     ·omega
    subst hik; rcases hI with ⟨_, rfl, rfl⟩ | ⟨hk, _⟩
    ·have hout : ∀ a1 w1, wpList P ops (thenRest P ops Q (i + 1 + d)) ((ops.toList.drop (i + 1)).take (i + 1 + d - (i + 1))) a1 w1 →
      ((L'.setIfInBounds i true).getD i false = false ∧ a1 = a' ∧ w1 = w') ∨ ((L'.setIfInBounds i true).getD i false = true ∧ Rest P ops Q (i + 1) a1 w1) := fun a1 w1 h' =>
      .inr ⟨by simp [g'.size, hklt], key a1 w1 h'⟩
     refine wpOp_mono hout ?_; unfold wpOp; simp only [ho]; unfold wpList at h
     split
     ·rename_i hw
      rw [if_pos hw] at h; rcases h with h | ⟨h, hl⟩
      ·exact .inl (upon_then h)
      ·exact .inr ⟨h, lets_then hl⟩
     ·rename_i hw
      rw [if_neg hw] at h; exact h
    ·rw [getD_both hu] at hk
     cases hk
   ·intro L' a' w' hall hI
    rcases hI with ⟨hk, _, _⟩ | ⟨_, hr⟩
    ·rw [hall k (by omega)] at hk; cases hk
    ·exact hr
/-! ### Operations in whatever order, from k up to n -/
def dstOf (ops : Array Oper) (i : Nat) : Option Tmp := (ops[i]?).bind (·.dst)
def putAll (ops : Array Oper) (v : Nat → Value) (k : Nat) : Nat → Act → Act
 | 0, a => a
 | d + 1, a => (putAll ops v k d a).put (dstOf ops (k + d)) (v (k + d))
def preds (ops : Array Oper) (i : Nat) : List Nat := match ops[i]? with
 | none => []
 | some o => (o.after.toList.filter (Region.binds .any)).map (·.on)
theorem preds_listed {L : Array Bool} {i : Nat} {o : Oper} (ho : ops[i]? = some o) (hall : ∀ e ∈ o.after, Region.binds .any e = true → L.getD e.on false = true) : ∀ j ∈ preds ops i, L.getD j false = true := by
 intro j hj; simp only [preds, ho, List.mem_map, List.mem_filter] at hj; obtain ⟨e, ⟨he, hb⟩, rfl⟩ := hj; exact hall e (by simpa using he) hb
def headB (ops : Array Oper) (k n m : Nat) : Bool :=
 ((List.range n).all fun i => decide (i < k) || match dstOf ops i with
   | some d => decide (d < m) && (List.range n).all fun j => decide (j < k) || decide (i = j) || dstOf ops j != some d
   | none => true) &&
 ((List.range n).all fun i => decide (i < k) || match ops[i]? with
   | some o => (o.looksAt ops).all fun t => (List.range n).all fun j => decide (j < k) || dstOf ops j != some t || (preds ops i).contains j
   | none => true) && Region.noSelect ops && decide (n ≤ ops.size) && decide (k ≤ n)
structure HeadOk (ops : Array Oper) (k n m : Nat) : Prop where
 lt : ∀ (i d : Nat), k ≤ i → i < n → dstOf ops i = some d → d < m
 inj : ∀ (i j d : Nat), k ≤ i → i < n → k ≤ j → j < n → dstOf ops i = some d → dstOf ops j = some d → i = j
 sees : ∀ (i : Nat) (o : Oper) (t j : Nat), k ≤ i → i < n → ops[i]? = some o → t ∈ o.looksAt ops → k ≤ j → j < n → dstOf ops j = some t → j ∈ preds ops i
 nosel : ∀ (j : Nat) (o : Oper) cs b, ops[j]? = some o → o.op ≠ .select cs b
 le : n ≤ ops.size
 kn : k ≤ n
theorem headB_spec {k n m : Nat} (h : headB ops k n m = true) : HeadOk ops k n m := by
 simp only [headB, Bool.and_eq_true, List.all_eq_true, List.mem_range, decide_eq_true_eq, Bool.or_eq_true] at h; obtain ⟨⟨⟨⟨h1, h2⟩, h3⟩, h4⟩, h5⟩ := h; refine ⟨fun i d hki hi hd => ?_, fun i j d hki hi hkj hj hd hd' => ?_, fun i o t j hki hi ho ht hkj hj hd => ?_, Region.noSelect_spec h3, h4, h5⟩
 ·have := (h1 i hi).resolve_left (by omega)
  simp only [hd, Bool.and_eq_true, decide_eq_true_eq] at this; exact this.1
 ·have := (h1 i hi).resolve_left (by omega)
  simp only [hd, Bool.and_eq_true, List.all_eq_true, List.mem_range] at this; have := this.2 j hj; have hnk : ¬ j < k := by omega
  simpa [hd', hnk] using this
 ·have := (h2 i hi).resolve_left (by omega)
  simp only [ho, List.all_eq_true, List.mem_range] at this; have := this t ht j hj; have hnk : ¬ j < k := by omega
  simpa [hd, hnk] using this
theorem putAll_spec {v : Nat → Value} {a : Act} {k n : Nat} (hinj : ∀ (i j d : Nat), k ≤ i → i < n → k ≤ j → j < n → dstOf ops i = some d → dstOf ops j = some d → i = j) : ∀ q, k + q ≤ n →
 (putAll ops v k q a).defers = a.defers ∧ (putAll ops v k q a).tmps.size = a.tmps.size ∧
 (∀ (i d : Nat), k ≤ i → i < k + q → dstOf ops i = some d → d < a.tmps.size → (putAll ops v k q a).tmps[d]? = some (v i)) ∧
 (∀ s, (∀ i, k ≤ i → i < k + q → dstOf ops i ≠ some s) → (putAll ops v k q a).tmps[s]? = a.tmps[s]?) := by
 intro q
 induction q with
 | zero => intro _; exact ⟨rfl, rfl, fun i d hk hi => by omega, fun s _ => rfl⟩
 | succ q ih =>
   intro hq; obtain ⟨h1, h2, h3, h4⟩ := ih (by omega); unfold putAll; cases hd : dstOf ops (k + q) with
   | none =>
     refine ⟨h1, h2, fun i d hki hi hdi hlt => ?_, fun s hs => h4 s fun i hki hi => hs i hki (by omega)⟩
     by_cases hik : i = k + q
     ·subst hik; rw [hd] at hdi; cases hdi
     ·exact h3 i d hki (by omega) hdi hlt
   | some dk =>
     refine ⟨h1, by simp [Act.put, h2], fun i d hki hi hdi hlt => ?_, fun s hs => ?_⟩
     ·by_cases hik : i = k + q
      ·subst hik
       obtain rfl : dk = d := by rw [hd] at hdi; exact Option.some.inj hdi
       simp [Act.put, h2, hlt]
      ·have hne : dk ≠ d := fun e => hik (hinj i (k + q) d hki (by omega) (by omega) (by omega) hdi (e ▸ hd))
       simp only [Act.put, Array.getElem?_setIfInBounds_ne hne]; exact h3 i d hki (by omega) hdi hlt
     ·have hne : dk ≠ s := fun e => hs (k + q) (by omega) (by omega) (e ▸ hd)
      simp only [Act.put, Array.getElem?_setIfInBounds_ne hne]; exact h4 s fun i hki hi => hs i hki (by omega)
def only (K : Act → World → Prop) : Exit → Act → World → Prop
 | .normal, a, w => K a w
 | _, _, _ => False
def Left_ (dst : Option Tmp) (ds : List Deferred) (w : World) (S : Value → World → Prop) (K : Value → Option Nat) (a' : Act) (w' : World) : Prop :=
 a'.defers = ds ∧ Below w.heap.size w w' ∧ S (match dst with | some d => a'.tmps.getD d undef | none => undef) w' ∧
  (∀ b, K (match dst with | some d => a'.tmps.getD d undef | none => undef) = some b → w.heap.size ≤ b ∧ b < w'.heap.size)
structure HI (ops : Array Oper) (k n : Nat) (S : Nat → Value → World → Prop) (F : Nat → Value → Option Nat) (a0 : Act) (w0 : World) (L : Array Bool) (a : Act) (w : World) (v : Nat → Value) : Prop where
 defers : a.defers = a0.defers
 size : a.tmps.size = a0.tmps.size
 grow : Below w0.heap.size w0 w
 slots : ∀ (i d : Nat), k ≤ i → i < n → L.getD i false = true → dstOf ops i = some d → a.tmps[d]? = some (v i)
 others : ∀ s, (∀ i, k ≤ i → i < n → L.getD i false = true → dstOf ops i ≠ some s) → a.tmps[s]? = a0.tmps[s]?
 holds : ∀ i, k ≤ i → i < n → L.getD i false = true → S i (v i) w
 fresh : ∀ i, k ≤ i → i < n → L.getD i false = true → ∀ b, F i (v i) = some b → b < w.heap.size
 apart : ∀ i j, k ≤ i → i < n → k ≤ j → j < n → L.getD i false = true → L.getD j false = true → i ≠ j → ∀ b, F i (v i) = some b → F j (v j) ≠ some b
theorem getD_eq_of {a a' : Act} {t : Tmp} (h : a.tmps[t]? = a'.tmps[t]?) : a.eval (.tmp t) = a'.eval (.tmp t) := by
 simp [Act.eval, h]
theorem only_upon {o : Oper} {a a1 : Act} {K K' : Act → World → Prop} {r : Result Next} (hdef : ∀ a' w', K a' w' → a'.defers = a1.defers)
 (hk : ∀ v w', K (a1.put o.dst v) w' → K' (a.put o.dst v) w') (h : o.upon P a1 K (only K) r) : o.upon P a K' Q r := by
 have no : ¬ LetsOut (only K) := fun ⟨_, _, h⟩ => h
 cases r with
 | ok x w' =>
   cases x <;> simp only [Oper.upon] at h ⊢
   case value v => exact hk v w' h
   case skip => exact hk _ w' h
   case defer d =>
    have := congrArg List.length (hdef _ _ h)
    exfalso
    cases hd : o.dst <;> simp [Act.put, hd] at this
   case enter f args =>
    refine h.mono fun e w'' he => ?_
    cases e with
    | returned v => exact hk v w'' he
    | panicked c => exact he.elim
    | outgrown => exact (no he).elim
   case row row args => exact Rows.mono h fun v w'' he => hk v w'' he
 | halt x w' =>
   cases x <;> simp only [Oper.upon] at h ⊢
   case panic v => exact h.elim
theorem wpOp_of_only {i : Nat} {o : Oper} {a a1 : Act} {K K' : Act → World → Prop} {w : World} (ho : ops[i]? = some o) (hdef : ∀ a' w', K a' w' → a'.defers = a1.defers)
 (hex : execOp a1.eval o = execOp a.eval o) (hwa : Region.wanted o (yielded ops a1.tmps) = Region.wanted o (yielded ops a.tmps))
 (hk : ∀ v w', K (a1.put o.dst v) w' → K' (a.put o.dst v) w') (h : wpList P ops (only K) [o] a1 w) : wpOp P ops Q i K' a w := by
 have no : ¬ LetsOut (only K) := fun ⟨_, _, h⟩ => h
 unfold wpOp; simp only [ho]; unfold wpList at h; rw [hwa] at h
 split
 ·rename_i hw
  rw [if_pos hw] at h; rcases h with h | ⟨_, h⟩
  ·refine .inl ?_
   unfold Oper.wp at h ⊢; rw [hex] at h; exact only_upon (K := K) hdef hk h
  ·exact (no h).elim
 ·rename_i hw
  rw [if_neg hw] at h; exact hk _ _ h
theorem rest_par (k n m : Nat) (S : Nat → Value → World → Prop) (F : Nat → Value → Option Nat) {a0 : Act} {w0 : World} (hB : backB ops = true)
 (hH : headB ops k n m = true) (hsz : a0.tmps.size = m) (hcut : n = ops.size ∨ cutB ops k n = true)
 (hS : ∀ i v w w', k ≤ i → i < n → S i v w → Below w.heap.size w w' → S i v w')
 (hop : ∀ i o, k ≤ i → i < n → ops[i]? = some o → ∀ (v : Nat → Value) w, Below w0.heap.size w0 w → (∀ j, (preds ops i).contains j = true → k ≤ j → j < n → S j (v j) w) →
   wpList P ops (only (Left_ o.dst a0.defers w (S i) (F i))) [o] (putAll ops v k (n - k) a0) w)
 (hend : ∀ (v : Nat → Value) w, Below w0.heap.size w0 w → (∀ i, k ≤ i → i < n → S i (v i) w) → (∀ i j, k ≤ i → i < n → k ≤ j → j < n → i ≠ j → ∀ b, F i (v i) = some b → F j (v j) ≠ some b) →
   Rest P ops Q n (putAll ops v k (n - k) a0) w) : Rest P ops Q k a0 w0 := by
 have H := headB_spec hH; have hkn := H.kn; intro L0 g0 h10 h20; refine wpAny_upto (k := k) (n := n) (fun L a w => ∃ v, HI ops k n S F a0 w0 L a w v) hB H.le hcut ?_ ?_ _ L0 a0 w0 g0 (count_rest g0 h10 h20) (fun i hi => h10 i hi (by have := H.le; omega)) (fun t ht => h20 t (by omega)) ?_
 ·intro L a w i o g hin ho hu hall htail hlow ⟨v, h⟩
  have hki : k ≤ i := by
   rcases Nat.lt_or_ge i k with hlt | hge
   ·have := hlow i hlt
    rw [getD_both hu] at this; cases this
   ·exact hge
  have hilt : i < ops.size := (Array.getElem?_eq_some_iff.1 ho).1; have hp : ∀ j ∈ preds ops i, L.getD j false = true := preds_listed ho hall
  let v' : Nat → Value := fun j => if L.getD j false then v j else undef
  have hv' : ∀ j, L.getD j false = true → v' j = v j := fun j hj => by simp only [v', hj, if_true]
  obtain ⟨q1, q2, q3, q4⟩ := putAll_spec (ops := ops) (v := v') (a := a0) H.inj (n - k) (by omega); rw [show k + (n - k) = n from by omega] at q3 q4
  have hlook : ∀ t ∈ o.looksAt ops, (putAll ops v' k (n - k) a0).tmps[t]? = a.tmps[t]? := by
   intro (t : Nat) ht
   by_cases hs : ∃ j, k ≤ j ∧ j < n ∧ dstOf ops j = some t
   ·obtain ⟨j, hkj, hj, hd⟩ := hs
    have hjl := hp j (H.sees i o t j hki hin ho ht hkj hj hd); rw [q3 j t hkj hj hd (by have := H.lt j t hkj hj hd; rw [hsz]; exact this), h.slots j t hkj hj hjl hd, hv' j hjl]
   ·rw [q4 t fun j hkj hj hd => hs ⟨j, hkj, hj, hd⟩]
    exact (h.others t fun j hkj hj _ hd => hs ⟨j, hkj, hj, hd⟩).symm
  have hlk := hop i o hki hin ho v' w h.grow (fun j hj hkj hjn => by have hj' := hp j (by simpa using hj); rw [hv' j hj']; exact h.holds j hkj hjn hj'); refine wpOp_of_only ho (K := Left_ o.dst a0.defers w (S i) (F i)) (fun a' w' hk => hk.1.trans q1.symm) ?_ ?_ ?_ hlk
  ·refine execOp_congr o (fun cs b => H.nosel i o cs b ho) fun x hx => ?_
   cases x with
   | tmp t => exact getD_eq_of (hlook t (List.mem_append_left _ (List.mem_filterMap.2 ⟨.tmp t, by simpa using hx, rfl⟩)))
   | _ => rfl
  ·unfold Region.wanted
   cases hg : o.guard with
   | none => rfl
   | some gw =>
     obtain ⟨gj, want⟩ := gw
     have : yielded ops (putAll ops v' k (n - k) a0).tmps gj = yielded ops a.tmps gj := by
      unfold yielded; cases ht : (ops[gj]?).bind (·.dst) with
      | none => rfl
      | some t => simp only [Option.bind_some, hlook t (by simp [Oper.looksAt, hg, ht])]
     simp only [this]
  ·intro u w' hk
   obtain ⟨hkd, hkg, hks, hkf⟩ := hk
   have hval : ∀ d : Nat, o.dst = some d → ((putAll ops v' k (n - k) a0).put o.dst u).tmps.getD d undef = u := fun d hd => by
    have hd' : dstOf ops i = some d := by simp [dstOf, ho, hd]
    have hlt := H.lt i d hki hin hd'; have : d < (putAll ops v' k (n - k) a0).tmps.size := by rw [q2, hsz]; exact hlt
    simp [hd, Act.put, this]
   let u' : Value := match o.dst with | some _ => u | none => undef
   have hu' : (match o.dst with | some d => ((putAll ops v' k (n - k) a0).put o.dst u).tmps.getD d undef | none => undef) = u' := by
    cases hd : o.dst with
    | none => simp only [u', hd]
    | some d => have := hval d hd; rw [hd] at this; simp only [u', hd]; exact this
   rw [hu'] at hks hkf; have hLn : ∀ j, j ≠ i → (L.setIfInBounds i true).getD j false = L.getD j false := fun j hj => getD_set_ne false (Ne.symm hj)
   refine ⟨fun j => if j = i then u' else v j, ?_, ?_, ?_, ?_, ?_, ?_, ?_, ?_⟩
   ·cases hd : o.dst <;> simp [Act.put, h.defers]
   ·cases hd : o.dst <;> simp [Act.put, h.size]
   ·exact h.grow.trans (hkg.mono h.grow.size)
   ·intro j d hkj hj hjl hd
    by_cases hji : j = i
    ·subst hji
     have hd' : o.dst = some d := by simpa [dstOf, ho] using hd
     have hlt := H.lt j d hkj hj hd; have : d < a.tmps.size := by rw [h.size, hsz]; exact hlt
     simp [hd', Act.put, this, u']
    ·rw [hLn j hji] at hjl
     have h0 := h.slots j d hkj hj hjl hd; cases hdo : o.dst with
     | none => simp [Act.put, hji, h0]
     | some d' =>
       have hne : d' ≠ d := fun e => hji (H.inj j i d hkj hj hki hin hd (by simp [dstOf, ho, hdo, e]))
       simp [Act.put, hji, Array.getElem?_setIfInBounds_ne hne, h0]
   ·intro s hs
    have h0 := h.others s fun j hkj hj hjl hd => by
     by_cases hji : j = i
     ·subst hji
      rw [getD_both hu] at hjl; cases hjl
     ·exact hs j hkj hj (by rw [hLn j hji]; exact hjl) hd
    cases hdo : o.dst with
    | none => simpa [Act.put] using h0
    | some d' =>
      have hne : d' ≠ s := fun e => hs i hki hin (by simp [g.size, hilt]) (by simp [dstOf, ho, hdo, e])
      simpa [Act.put, Array.getElem?_setIfInBounds_ne hne] using h0
   ·intro j hkj hj hjl
    by_cases hji : j = i
    ·subst hji; simpa using hks
    ·rw [hLn j hji] at hjl
     simpa [hji] using hS j _ _ _ hkj hj (h.holds j hkj hj hjl) hkg
   ·intro j hkj hj hjl b hb
    by_cases hji : j = i
    ·subst hji
     exact (hkf b (by simpa using hb)).2
    ·rw [hLn j hji] at hjl
     have := h.fresh j hkj hj hjl b (by simpa [hji] using hb); have := hkg.size; omega
   ·intro j q hkj hj hkq hq hjl hql hne b hb
    by_cases hji : j = i
    ·subst hji
     have hqi : q ≠ j := Ne.symm hne; rw [hLn q hqi] at hql; have h1 := (hkf b (by simpa using hb)).1; intro e; have h2 := h.fresh q hkq hq hql b (by simpa [hqi] using e); omega
    ·rw [hLn j hji] at hjl
     by_cases hqi : q = i
     ·subst hqi
      have h2 := h.fresh j hkj hj hjl b (by simpa [hji] using hb); intro e; have h1 := (hkf b (by simpa using e)).1; omega
     ·rw [hLn q hqi] at hql
      have := h.apart j q hkj hj hkq hq hjl hql hne b (by simpa [hji] using hb)
      simpa [hqi] using this
 ·intro L a w hall ⟨v, h⟩
  obtain ⟨q1, q2, q3, q4⟩ := putAll_spec (ops := ops) (v := v) (a := a0) H.inj (n - k) (by omega); rw [show k + (n - k) = n from by omega] at q3 q4
  have : a = putAll ops v k (n - k) a0 := by
   obtain ⟨t, d⟩ := a; generalize hp : putAll ops v k (n - k) a0 = b at *; obtain ⟨t', d'⟩ := b; have e1 : d = d' := h.defers.trans q1.symm
   have e2 : t = t' := by
    apply Array.ext_getElem?
    intro (s : Nat)
    by_cases hs : ∃ i, k ≤ i ∧ i < n ∧ dstOf ops i = some s
    ·obtain ⟨i, hki, hi, hd⟩ := hs
     have hl := H.lt i s hki hi hd; exact (h.slots i s hki hi (hall i hi) hd).trans (q3 i s hki hi hd (hsz ▸ hl)).symm
    ·exact (h.others s fun i hki hi _ hd => hs ⟨i, hki, hi, hd⟩).trans (q4 s fun i hki hi hd => hs ⟨i, hki, hi, hd⟩).symm
   rw [e1, e2]
  rw [this]; exact hend v w h.grow (fun i hki hi => h.holds i hki hi (hall i hi)) (fun i j hki hi hkj hj => h.apart i j hki hi hkj hj (hall i hi) (hall j hj))
 ·have hno : ∀ i, k ≤ i → L0.getD i false = true → False := fun i hki hl => by rw [h20 i hki] at hl; cases hl
  exact ⟨fun _ => undef, rfl, rfl, Below.refl _ _, fun i d hki _ hl => (hno i hki hl).elim, fun _ _ => rfl, fun i hki _ hl => (hno i hki hl).elim, fun i hki _ hl => (hno i hki hl).elim, fun i j hki _ _ _ hl => (hno i hki hl).elim⟩
def Hops (P : Program) (ops : Array Oper) (k n : Nat) (S : Nat → Value → World → Prop) (F : Nat → Value → Option Nat) (a0 : Act) (w0 : World) : Nat → List Oper → Prop
 | _, [] => True
 | i, o :: rest => (∀ (v : Nat → Value) (w : World), Below w0.heap.size w0 w → (∀ j, (preds ops i).contains j = true → k ≤ j → j < n → S j (v j) w) →
    ∀ Q' : Exit → Act → World → Prop, (∀ a' w', Left_ o.dst a0.defers w (S i) (F i) a' w' → Q' .normal a' w') → wpList P ops Q' [o] (putAll ops v k (n - k) a0) w) ∧ Hops P ops k n S F a0 w0 (i + 1) rest
theorem hops_get {k n : Nat} {S : Nat → Value → World → Prop} {F : Nat → Value → Option Nat} {a0 : Act} {w0 : World} : ∀ (l : List Oper) (q : Nat), Hops P ops k n S F a0 w0 q l → ∀ i o, l[i]? = some o →
 ∀ (v : Nat → Value) w, Below w0.heap.size w0 w → (∀ j, (preds ops (q + i)).contains j = true → k ≤ j → j < n → S j (v j) w) →
   ∀ Q' : Exit → Act → World → Prop, (∀ a' w', Left_ o.dst a0.defers w (S (q + i)) (F (q + i)) a' w' → Q' .normal a' w') → wpList P ops Q' [o] (putAll ops v k (n - k) a0) w
 | [], _, _, i, o, hi => by simp at hi
 | x :: l, q, h, 0, o, hi => by
   obtain rfl : x = o := by simpa using hi
   exact h.1
 | x :: l, q, h, i + 1, o, hi => by
   have := hops_get l (q + 1) h.2 i o (by simpa using hi); rw [show q + 1 + i = q + (i + 1) from by omega] at this; exact this
theorem rest_ops (k n m : Nat) (S : Nat → Value → World → Prop) (F : Nat → Value → Option Nat) {a0 : Act} {w0 : World} {l : List Oper} (hB : backB l.toArray = true)
 (hH : headB l.toArray k n m = true) (hsz : a0.tmps.size = m) (hcut : n = l.toArray.size ∨ cutB l.toArray k n = true)
 (hS : ∀ i v w w', k ≤ i → i < n → S i v w → Below w.heap.size w w' → S i v w')
 (hop : Hops P l.toArray k n S F a0 w0 k ((l.drop k).take (n - k)))
 (hend : ∀ (v : Nat → Value) w, Below w0.heap.size w0 w → (∀ i, k ≤ i → i < n → S i (v i) w) → (∀ i j, k ≤ i → i < n → k ≤ j → j < n → i ≠ j → ∀ b, F i (v i) = some b → F j (v j) ≠ some b) →
   Rest P l.toArray Q n (putAll l.toArray v k (n - k) a0) w) : Rest P l.toArray Q k a0 w0 := by
 refine rest_par k n m S F hB hH hsz hcut hS (fun i o hki hi ho v w hb hs => ?_) hend; have := hops_get _ k hop (i - k) o (by rw [List.getElem?_take, List.getElem?_drop, if_pos (by omega), show k + (i - k) = i from by omega]; simpa using ho) v w hb; rw [show k + (i - k) = i from by omega] at this; exact this (fun j hj => hs j (by simpa using hj)) _ fun a' w' h => h
theorem rest_line' (k m : Nat) {l : List Oper} (hB : backB l.toArray = true) (hkm : k ≤ m) (hm : m ≤ l.length) (hl : lineB l.toArray k m = true) {a : Act} {w : World}
 (h : wpList P l.toArray (thenRest P l.toArray Q m) ((l.drop k).take (m - k)) a w) : Rest P l.toArray Q k a w :=
 rest_line k m hB hkm (by simpa using hm) hl a w (by simpa using h)
theorem rest_lineL (k m : Nat) {l : List Oper} (ls : List Oper) (hls : (l.drop k).take (m - k) = ls) (hB : backB l.toArray = true) (hkm : k ≤ m) (hm : m ≤ l.length) (hl : lineB l.toArray k m = true) {a : Act} {w : World}
 (h : wpList P l.toArray (thenRest P l.toArray Q m) ls a w) : Rest P l.toArray Q k a w := by
 subst hls; exact rest_line' k m hB hkm hm hl h
theorem rest_opsL (k n m : Nat) (ls : List Oper) (S : Nat → Value → World → Prop) (F : Nat → Value → Option Nat) {a0 : Act} {w0 : World} {l : List Oper} (hls : (l.drop k).take (n - k) = ls) (hB : backB l.toArray = true)
 (hH : headB l.toArray k n m = true) (hsz : a0.tmps.size = m) (hcut : n = l.toArray.size ∨ cutB l.toArray k n = true)
 (hS : ∀ i v w w', k ≤ i → i < n → S i v w → Below w.heap.size w w' → S i v w')
 (hop : Hops P l.toArray k n S F a0 w0 k ls)
 (hend : ∀ (v : Nat → Value) w, Below w0.heap.size w0 w → (∀ i, k ≤ i → i < n → S i (v i) w) → (∀ i j, k ≤ i → i < n → k ≤ j → j < n → i ≠ j → ∀ b, F i (v i) = some b → F j (v j) ≠ some b) →
   Rest P l.toArray Q n (putAll l.toArray v k (n - k) a0) w) : Rest P l.toArray Q k a0 w0 := by
 subst hls; exact rest_ops k n m S F hB hH hsz hcut hS hop hend
theorem hops_nil {k n : Nat} {S : Nat → Value → World → Prop} {F : Nat → Value → Option Nat} {a0 : Act} {w0 : World} {i : Nat} : Hops P ops k n S F a0 w0 i [] := trivial
theorem hops_cons {k n : Nat} {S : Nat → Value → World → Prop} {F : Nat → Value → Option Nat} {a0 : Act} {w0 : World} {i : Nat} {o : Oper} {rest : List Oper}
 (h : ∀ (v : Nat → Value) (w : World), Below w0.heap.size w0 w → (∀ j, (preds ops i).contains j = true → k ≤ j → j < n → S j (v j) w) →
   ∀ Q' : Exit → Act → World → Prop, (∀ a' w', Left_ o.dst a0.defers w (S i) (F i) a' w' → Q' .normal a' w') → wpList P ops Q' [o] (putAll ops v k (n - k) a0) w) (h' : Hops P ops k n S F a0 w0 (i + 1) rest) : Hops P ops k n S F a0 w0 i (o :: rest) := ⟨h, h'⟩
def isV (a : Value) : Value → World → Prop := fun v _ => v = a
def pk (k : Nat) (l : List (Value → World → Prop)) : Nat → Value → World → Prop := fun j => l.getD (j - k) fun _ _ => True
def ptrBlk : Value → Option Nat
 | .pointer (some a) => some a.block
 | _ => none
def NewVar (B : Nat) (cs : Array Value) (T : TypeId) (v : Value) (u : World) : Prop := ∃ b, v = .pointer (some ⟨b, 0, none⟩) ∧ B ≤ b ∧ u.heap[b]? = some (.cells cs T (0, 0))
theorem NewVar.below {B : Nat} {cs : Array Value} {T : TypeId} {v : Value} {u u' : World} (h : NewVar B cs T v u) (hb : Below u.heap.size u u') : NewVar B cs T v u' := by
 obtain ⟨b, h1, h2, h3⟩ := h; exact ⟨b, h1, h2, (hb.block b (Array.getElem?_eq_some_iff.1 h3).1).trans h3⟩
theorem NewVar.made {dst : Nat} {ds : List Deferred} {a' : Act} {cs : Array Value} {T : TypeId} {w0 u : World} (hu : Below w0.heap.size w0 u) (hd : a'.defers = ds) (hv : a'.tmps.getD dst undef = .pointer (some ⟨u.heap.size, 0, none⟩)) :
 Left_ (some dst) ds u (fun v u => NewVar w0.heap.size cs T v u) ptrBlk a' (u.alloc (.cells cs T)) :=
 ⟨hd, (Below.refl _ _).alloc (Nat.le_refl _) _, ⟨u.heap.size, hv, hu.size, heap_alloc_new u _⟩, fun b hb => by
   simp only [] at hb; rw [hv] at hb; obtain rfl : u.heap.size = b := Option.some.inj hb; exact ⟨Nat.le_refl _, by simp⟩⟩
end
end Go.Proofs.Ytcbijikalfodnaa.Reg
namespace Go.Proofs.Ytcbijikalfodnaa.Tms
open Go Go.RowKit Go.Proofs.Ytcbijikalfodnaa.Reg
def Says (b : Bool) (w : World) (e : Ending) (w' : World) : Prop := e = .returned (.bool b) ∧ Below w.heap.size w w'
theorem says {a b : Bool} {w w' : World} (h : a = b) (hb : Below w.heap.size w w') : Says b w (.returned (.bool a)) w' := ⟨by rw [h], hb⟩
mutual
def sameT : Tm → Tm → Bool
 | .mk k n s a, .mk k' n' s' a' => k == k' && (n == n' && (s.toList == s'.toList && (a.length == a'.length && sameL a a')))
def sameL : List Tm → List Tm → Bool
 | [], [] => true
 | t :: ts, u :: us => sameT t u && sameL ts us
 | _, _ => false
end
mutual
def Tm.size : Tm → Nat
 | .mk _ _ _ a => sizeL a + 1
def sizeL : List Tm → Nat
 | [] => 0
 | t :: ts => t.size + sizeL ts
end
theorem size_mem : ∀ {ts : List Tm} {i : Nat} (h : i < ts.length), ts[i].size ≤ sizeL ts
 | t :: ts, 0, h => by simp only [List.getElem_cons_zero, sizeL]; omega
 | t :: ts, i + 1, h => by
   have := size_mem (ts := ts) (i := i) (by simpa using h); simp only [List.getElem_cons_succ, sizeL]; omega
theorem size_pos (t : Tm) : 0 < t.size := by obtain ⟨k, n, s, a⟩ := t; simp [Tm.size]
theorem len_le : ∀ (ts : List Tm), ts.length ≤ sizeL ts
 | [] => by simp [sizeL]
 | t :: ts => by have := len_le ts; have := size_pos t; simp only [List.length_cons, sizeL]; omega
theorem two (w : World) (a b : Obj) : ((w.alloc a).alloc b).heap[w.heap.size]? = some a ∧ ((w.alloc a).alloc b).heap[w.heap.size + 1]? = some b ∧ ((w.alloc a).alloc b).heap.size = w.heap.size + 2 ∧ Below w.heap.size w ((w.alloc a).alloc b) :=
 ⟨heap_alloc2_old w a b, heap_alloc2_new w a b, by simp, ((Below.refl _ _).alloc (Nat.le_refl _) _).alloc (by simp) _⟩
theorem row4 {w : World} {g : Nat} {y0 y1 y2 y3 : Value} {T : TypeId} {fr : Nat × Nat} (h : w.heap[g]? = some (.cells #[y0, y1, y2, y3] T fr)) :
 w.cell? ⟨g, 0, none⟩ = some y0 ∧ w.cell? ⟨g, 1, none⟩ = some y1 ∧ w.cell? ⟨g, 2, none⟩ = some y2 ∧ w.cell? ⟨g, 3, none⟩ = some y3 :=
 ⟨cell_of_row w g 0 _ _ _ h, cell_of_row w g 1 _ _ _ h, cell_of_row w g 2 _ _ _ h, cell_of_row w g 3 _ _ _ h⟩
theorem sameL_take : ∀ (a b : List Tm) (k : Nat) (ha : k < a.length) (hb : k < b.length), sameL (a.take k) (b.take k) = true → sameL (a.take (k + 1)) (b.take (k + 1)) = sameT a[k] b[k]
 | t :: ts, u :: us, 0, _, _, _ => by simp [sameL]
 | t :: ts, u :: us, k + 1, ha, hb, h => by
   simp only [List.take_succ_cons, sameL, Bool.and_eq_true, List.getElem_cons_succ] at h ⊢; rw [h.1, Bool.true_and]; exact sameL_take ts us k _ _ h.2
theorem sameL_no : ∀ (a b : List Tm) (k : Nat), sameL (a.take k) (b.take k) = false → a.length = b.length → sameL a b = false
 | [], [], k, h, _ => by cases k <;> simp [sameL] at h
 | t :: ts, u :: us, 0, h, _ => by simp [sameL] at h
 | t :: ts, u :: us, k + 1, h, hl => by
   simp only [List.take_succ_cons, sameL, Bool.and_eq_false_iff] at h ⊢; rcases h with h | h
   ·exact .inl h
   ·exact .inr (sameL_no ts us k h (by simpa using hl))
 | [], u :: us, k, h, hl => by simp at hl
 | t :: ts, [], k, h, hl => by simp at hl
def SmRel (a b : List Tm) (W : World) (c : Value) (wr : World) : Prop := ∃ k : Nat, k ≤ a.length ∧ c = .int .i64 k ∧ sameL (a.take k) (b.take k) = true ∧ Below W.heap.size W wr
theorem ref_same (N : Nat) : ∀ (t u : Tm) (v v' : Value) (P P' : Nat → Prop) (w : World), t.size ≤ N → t.size ≤ 1000000000 → IsTm w P v t → IsTm w P' v' u →
 Calls Try.prog 20 #[v, v'] w (Says (sameT t u) w) := by
 induction N with
 | zero => intro t u v v' P P' w hN hM; obtain ⟨k, n, s, a⟩ := t; simp [Tm.size] at hN
 | succ N ih =>
   intro t u v v' P P' w hN hM h1 h2; have IH := Lib.hid ih; clear ih; obtain ⟨a, cap, rfl⟩ := h1.form; obtain ⟨a', cap', rfl⟩ := h2.form; have s1 := h1.args; have s2 := h2.args; obtain ⟨k, n, s, ts⟩ := t; obtain ⟨k', n', s', us⟩ := u; simp only [Tm.k, Tm.n, Tm.s, Tm.args] at *; have S1 := Lib.hid s1; have S2 := Lib.hid s2; have HN : Hid (sizeL ts ≤ N) := Lib.hid (by simp only [Tm.size] at hN; omega); have hlen : ts.length ≤ 1000000000 := by have := len_le ts; simp only [Tm.size] at hM; omega
   have HM : Hid (sizeL ts ≤ 1000000000) := Lib.hid (by simp only [Tm.size] at hM; omega); clear h1 h2 s1 s2 hN hM; obtain ⟨t0, t1, tsz, tbl⟩ := two w (.cells #[.int .i64 k, .int .i64 n, .string s, .slice a ts.length cap] 49) (.cells #[.int .i64 k', .int .i64 n', .string s', .slice a' us.length cap'] 49); have T0 := Lib.hid t0; have T1 := Lib.hid t1; have TS := Lib.hid tsz; have TB := Lib.hid tbl; clear t0 t1 tsz tbl; have hno : ∀ W', Below w.heap.size w ((w.alloc (.cells #[.int .i64 k, .int .i64 n, .string s, .slice a ts.length cap] 49)).alloc (.cells #[.int .i64 k', .int .i64 n', .string s', .slice a' us.length cap'] 49)) → W' = ((w.alloc (.cells #[.int .i64 k, .int .i64 n, .string s, .slice a ts.length cap] 49)).alloc (.cells #[.int .i64 k', .int .i64 n', .string s', .slice a' us.length cap'] 49)) → Below w.heap.size w W' := fun W' h e => e ▸ h
   by_cases e1 : k = k'
   case neg =>
    have b1 : (k != k') = true := by simpa using e1
    have hf : sameT (.mk k n s ts) (.mk k' n' s' us) = false := by simp [sameT, e1]
    have HF := Lib.hid hf; clear hf e1
    go_enter Try.func20, Try.ntmps20
    go_wp2; go_ret; exact says HF.out.symm TB.out
   by_cases e2 : n = n'
   case neg =>
    have b1 : (k != k') = false := by simpa using e1
    have b2 : (n != n') = true := by simpa using e2
    have hf : sameT (.mk k n s ts) (.mk k' n' s' us) = false := by simp [sameT, e2]
    have HF := Lib.hid hf; clear hf e1 e2
    go_enter Try.func20, Try.ntmps20
    go_wp2; go_ret; exact says HF.out.symm TB.out
   have b1 : (k != k') = false := by simpa using e1
   have b2 : (n != n') = false := by simpa using e2
   cases e3 : (s.toList == s'.toList)
   ·have hf : sameT (.mk k n s ts) (.mk k' n' s' us) = false := by simp [sameT, e3]
    have HF := Lib.hid hf; clear hf e1 e2
    go_enter Try.func20, Try.ntmps20
    go_wp2; go_ret; exact says HF.out.symm TB.out
   by_cases e4 : ts.length = us.length
   case neg =>
    have b4 : ((ts.length : Int) != (us.length : Int)) = true := by simp; omega
    have hf : sameT (.mk k n s ts) (.mk k' n' s' us) = false := by simp [sameT, e4]
    have HF := Lib.hid hf; clear hf e1 e2 e4
    go_enter Try.func20, Try.ntmps20
    go_wp2; go_ret; exact says HF.out.symm TB.out
   have b4 : ((ts.length : Int) != (us.length : Int)) = false := by simp; omega
   have hf : sameT (.mk k n s ts) (.mk k' n' s' us) = sameL ts us := by simp [sameT, e1, e2, e3, e4]
   have HF := Lib.hid hf; have E4 := Lib.hid e4; clear hf e1 e2 e4
   go_enter Try.func20, Try.ntmps20
   go_wp2; generalize ((w.alloc (.cells #[.int .i64 k, .int .i64 n, .string s, .slice a ts.length cap] 49)).alloc (.cells #[.int .i64 k', .int .i64 n', .string s', .slice a' us.length cap'] 49)) = W at *; have hst : SmRel ts us W (.int .i64 ((0 : Nat) : Int)) W := ⟨0, by omega, rfl, by simp [sameL], Below.refl _ _⟩; have H := Lib.hid hst; clear hst
   go_loopw [37] (fun c wr => SmRel ts us W c wr) (fun c _ => ts.length - (intOf c).toNat)
   case atStart => exact H.out
   case round =>
    obtain ⟨q, hq, rfl, hs, hbl⟩ := hrel; have hbl0 : Below w.heap.size w wr := TB.out.trans (hbl.mono (by have := TS.out; omega)); have hszW : W.heap.size = w.heap.size + 2 := TS.out; have hWr : W.heap.size ≤ wr.heap.size := hbl.size; have HS := Lib.hid hs; have HSZ := Lib.hid hszW; clear hs H hszW
    by_cases hql : q < ts.length
    ·have hqu : q < us.length := by have := E4.out; omega
     obtain ⟨g1, o1, rfl, p1, m1⟩ := (S1.out.below hbl0).at q hql; obtain ⟨g2, o2, rfl, p2, m2⟩ := (S2.out.below hbl0).at q hqu; obtain ⟨c1, d1, x10, x11, x12, x13, i1, l1⟩ := m1.read; obtain ⟨c2, d2, x20, x21, x22, x23, i2, l2⟩ := m2.read; have f3 := (row4 ((hbl.block _ (by have := HSZ.out; omega)).trans T0.out)).2.2.2; have e3' := (row4 ((hbl.block _ (by have := HSZ.out; omega)).trans T1.out)).2.2.2; have hyes := sameL_take ts us q hql hqu HS.out; have hno2 := sameL_no ts us (q + 1); have hsz := size_mem hql; have I1 := Lib.hid i1; have I2 := Lib.hid i2; have HY := Lib.hid hyes; have HN2 := Lib.hid hno2; have HZ : Hid (ts[q].size ≤ N) := Lib.hid (by have := HN.out; omega); have HZ2 : Hid (ts[q].size ≤ 1000000000) := Lib.hid (by have := HM.out; omega); clear m1 m2 i1 i2 hyes hno2 hsz hno; generalize ts[q] = x at *; generalize us[q] = y at *; obtain ⟨xk, xn, xs, xa⟩ := x; obtain ⟨yk, yn, ys, ya⟩ := y; simp only [Tm.k, Tm.n, Tm.s, Tm.args] at x10 x11 x12 x13 x20 x21 x22 x23 I1 I2; have hin : (q : Int) < (ts.length : Int) := by omega
     have hin2 : (q : Int) < (us.length : Int) := by omega
     have hin0 : (0 : Int) ≤ (q : Int) := by omega
     go_wp2; refine wp_region_rest (by kernel_rfl) ?_
     have fs : ∀ z, Below wr.drew.heap.size wr.drew z → z.cell? ⟨w.heap.size, 3, none⟩ = some (.slice (some ⟨g1, o1, none⟩) ts.length cap) ∧ z.cell? ⟨w.heap.size + 1, 3, none⟩ = some (.slice (some ⟨g2, o2, none⟩) us.length cap') ∧
      z.cell? ⟨g1, o1 + q * 4, none⟩ = some (.int .i64 xk) ∧ z.cell? ⟨g1, o1 + q * 4 + 1, none⟩ = some (.int .i64 xn) ∧ z.cell? ⟨g1, o1 + q * 4 + 2, none⟩ = some (.string xs) ∧ z.cell? ⟨g1, o1 + q * 4 + 3, none⟩ = some (.slice c1 xa.length d1) ∧
      z.cell? ⟨g2, o2 + q * 4, none⟩ = some (.int .i64 yk) ∧ z.cell? ⟨g2, o2 + q * 4 + 1, none⟩ = some (.int .i64 yn) ∧ z.cell? ⟨g2, o2 + q * 4 + 2, none⟩ = some (.string ys) ∧ z.cell? ⟨g2, o2 + q * 4 + 3, none⟩ = some (.slice c2 ya.length d2) ∧
      IsTm z P (.agg #[.int .i64 xk, .int .i64 xn, .string xs, .slice c1 xa.length d1]) (.mk xk xn xs xa) ∧ IsTm z P' (.agg #[.int .i64 yk, .int .i64 yn, .string ys, .slice c2 ya.length d2]) (.mk yk yn ys ya) := fun z hz => by
      have hz' : Below wr.heap.size wr z := (Below.refl _ _).drew.trans hz; have at1 : ∀ o, z.cell? ⟨g1, o, none⟩ = wr.cell? ⟨g1, o, none⟩ := fun o => hz'.cell (p := ⟨g1, o, none⟩) l1
      have at2 : ∀ o, z.cell? ⟨g2, o, none⟩ = wr.cell? ⟨g2, o, none⟩ := fun o => hz'.cell (p := ⟨g2, o, none⟩) l2
      refine ⟨(hz'.cell (p := ⟨w.heap.size, 3, none⟩) (by have := HSZ.out; show w.heap.size < _; omega)).trans f3, (hz'.cell (p := ⟨w.heap.size + 1, 3, none⟩) (by have := HSZ.out; show w.heap.size + 1 < _; omega)).trans e3', (at1 _).trans x10, (at1 _).trans x11, (at1 _).trans x12, (at1 _).trans x13, (at2 _).trans x20, (at2 _).trans x21, (at2 _).trans x22, (at2 _).trans x23, I1.out.below hz', I2.out.below hz'⟩
     have FS := Lib.hid fs; have HB0 : Hid (Below w.heap.size w wr.drew) := Lib.hid hbl0.drew; have HBW : Hid (Below W.heap.size W wr.drew) := Lib.hid hbl.drew; clear fs f3 e3' x10 x11 x12 x13 x20 x21 x22 x23 I1 I2 hbl hbl0; generalize wr.drew = W0 at *; refine rest_ops 0 10 53 (fun j v _ => match j with | 0 => v = .pointer (some ⟨w.heap.size, 3, none⟩) | 1 => v = .slice (some ⟨g1, o1, none⟩) ts.length cap | 2 => v = .int .i64 q | 3 => v = .pointer (some ⟨g1, o1 + q * 4, none⟩) | 4 => v = .agg #[.int .i64 xk, .int .i64 xn, .string xs, .slice c1 xa.length d1] | 5 => v = .pointer (some ⟨w.heap.size + 1, 3, none⟩) | 6 => v = .slice (some ⟨g2, o2, none⟩) us.length cap' | 7 => v = .int .i64 q | 8 => v = .pointer (some ⟨g2, o2 + q * 4, none⟩) | 9 => v = .agg #[.int .i64 yk, .int .i64 yn, .string ys, .slice c2 ya.length d2] | _ => True) (fun _ _ => none) (by kernel_rfl) (by kernel_rfl) rfl (.inr (by kernel_rfl)) ?hS ?hop ?_
     case hS => intro j v u u' _ _ h _; exact h
     case hop =>
      refine ⟨fun v u hu hs Q' hQ => ?_, fun v u hu hs Q' hQ => ?_, fun v u hu hs Q' hQ => ?_, fun v u hu hs Q' hQ => ?_, fun v u hu hs Q' hQ => ?_, fun v u hu hs Q' hQ => ?_, fun v u hu hs Q' hQ => ?_, fun v u hu hs Q' hQ => ?_, fun v u hu hs Q' hQ => ?_, fun v u hu hs Q' hQ => ?_, trivial⟩
      ·simp only [putAll, dstOf]
       have y := FS.out u hu; have z0 := y.1; have z1 := y.2.1; have z2 := y.2.2.1; have z3 := y.2.2.2.1; have z4 := y.2.2.2.2.1; have z5 := y.2.2.2.2.2.1; have z6 := y.2.2.2.2.2.2.1; have z7 := y.2.2.2.2.2.2.2.1; have z8 := y.2.2.2.2.2.2.2.2.1; have z9 := y.2.2.2.2.2.2.2.2.2.1; clear y; go_wp2; exact ⟨rfl, Below.refl _ _, rfl, fun _ h => nomatch h⟩
      ·simp only [putAll, dstOf]
       have s_0 : v 0 = .pointer (some ⟨w.heap.size, 3, none⟩) := hs 0 (by kernel_rfl) (by decide) (by decide); have y := FS.out u hu; have z0 := y.1; have z1 := y.2.1; have z2 := y.2.2.1; have z3 := y.2.2.2.1; have z4 := y.2.2.2.2.1; have z5 := y.2.2.2.2.2.1; have z6 := y.2.2.2.2.2.2.1; have z7 := y.2.2.2.2.2.2.2.1; have z8 := y.2.2.2.2.2.2.2.2.1; have z9 := y.2.2.2.2.2.2.2.2.2.1; clear y; go_wp2; exact ⟨rfl, Below.refl _ _, rfl, fun _ h => nomatch h⟩
      ·simp only [putAll, dstOf]
       have y := FS.out u hu; have z0 := y.1; have z1 := y.2.1; have z2 := y.2.2.1; have z3 := y.2.2.2.1; have z4 := y.2.2.2.2.1; have z5 := y.2.2.2.2.2.1; have z6 := y.2.2.2.2.2.2.1; have z7 := y.2.2.2.2.2.2.2.1; have z8 := y.2.2.2.2.2.2.2.2.1; have z9 := y.2.2.2.2.2.2.2.2.2.1; clear y; go_wp2; exact ⟨rfl, Below.refl _ _, rfl, fun _ h => nomatch h⟩
      ·simp only [putAll, dstOf]
       have s_1 : v 1 = .slice (some ⟨g1, o1, none⟩) ts.length cap := hs 1 (by kernel_rfl) (by decide) (by decide); have s_2 : v 2 = .int .i64 q := hs 2 (by kernel_rfl) (by decide) (by decide); have y := FS.out u hu; have z0 := y.1; have z1 := y.2.1; have z2 := y.2.2.1; have z3 := y.2.2.2.1; have z4 := y.2.2.2.2.1; have z5 := y.2.2.2.2.2.1; have z6 := y.2.2.2.2.2.2.1; have z7 := y.2.2.2.2.2.2.2.1; have z8 := y.2.2.2.2.2.2.2.2.1; have z9 := y.2.2.2.2.2.2.2.2.2.1; clear y; go_wp2; exact ⟨rfl, Below.refl _ _, rfl, fun _ h => nomatch h⟩
      ·simp only [putAll, dstOf]
       have s_3 : v 3 = .pointer (some ⟨g1, o1 + q * 4, none⟩) := hs 3 (by kernel_rfl) (by decide) (by decide); have y := FS.out u hu; have z0 := y.1; have z1 := y.2.1; have z2 := y.2.2.1; have z3 := y.2.2.2.1; have z4 := y.2.2.2.2.1; have z5 := y.2.2.2.2.2.1; have z6 := y.2.2.2.2.2.2.1; have z7 := y.2.2.2.2.2.2.2.1; have z8 := y.2.2.2.2.2.2.2.2.1; have z9 := y.2.2.2.2.2.2.2.2.2.1; clear y; go_wp2; exact ⟨rfl, Below.refl _ _, rfl, fun _ h => nomatch h⟩
      ·simp only [putAll, dstOf]
       have y := FS.out u hu; have z0 := y.1; have z1 := y.2.1; have z2 := y.2.2.1; have z3 := y.2.2.2.1; have z4 := y.2.2.2.2.1; have z5 := y.2.2.2.2.2.1; have z6 := y.2.2.2.2.2.2.1; have z7 := y.2.2.2.2.2.2.2.1; have z8 := y.2.2.2.2.2.2.2.2.1; have z9 := y.2.2.2.2.2.2.2.2.2.1; clear y; go_wp2; exact ⟨rfl, Below.refl _ _, rfl, fun _ h => nomatch h⟩
      ·simp only [putAll, dstOf]
       have s_5 : v 5 = .pointer (some ⟨w.heap.size + 1, 3, none⟩) := hs 5 (by kernel_rfl) (by decide) (by decide); have y := FS.out u hu; have z0 := y.1; have z1 := y.2.1; have z2 := y.2.2.1; have z3 := y.2.2.2.1; have z4 := y.2.2.2.2.1; have z5 := y.2.2.2.2.2.1; have z6 := y.2.2.2.2.2.2.1; have z7 := y.2.2.2.2.2.2.2.1; have z8 := y.2.2.2.2.2.2.2.2.1; have z9 := y.2.2.2.2.2.2.2.2.2.1; clear y; go_wp2; exact ⟨rfl, Below.refl _ _, rfl, fun _ h => nomatch h⟩
      ·simp only [putAll, dstOf]
       have y := FS.out u hu; have z0 := y.1; have z1 := y.2.1; have z2 := y.2.2.1; have z3 := y.2.2.2.1; have z4 := y.2.2.2.2.1; have z5 := y.2.2.2.2.2.1; have z6 := y.2.2.2.2.2.2.1; have z7 := y.2.2.2.2.2.2.2.1; have z8 := y.2.2.2.2.2.2.2.2.1; have z9 := y.2.2.2.2.2.2.2.2.2.1; clear y; go_wp2; exact ⟨rfl, Below.refl _ _, rfl, fun _ h => nomatch h⟩
      ·simp only [putAll, dstOf]
       have s_6 : v 6 = .slice (some ⟨g2, o2, none⟩) us.length cap' := hs 6 (by kernel_rfl) (by decide) (by decide); have s_7 : v 7 = .int .i64 q := hs 7 (by kernel_rfl) (by decide) (by decide); have y := FS.out u hu; have z0 := y.1; have z1 := y.2.1; have z2 := y.2.2.1; have z3 := y.2.2.2.1; have z4 := y.2.2.2.2.1; have z5 := y.2.2.2.2.2.1; have z6 := y.2.2.2.2.2.2.1; have z7 := y.2.2.2.2.2.2.2.1; have z8 := y.2.2.2.2.2.2.2.2.1; have z9 := y.2.2.2.2.2.2.2.2.2.1; clear y; go_wp2; exact ⟨rfl, Below.refl _ _, rfl, fun _ h => nomatch h⟩
      ·simp only [putAll, dstOf]
       have s_8 : v 8 = .pointer (some ⟨g2, o2 + q * 4, none⟩) := hs 8 (by kernel_rfl) (by decide) (by decide); have y := FS.out u hu; have z0 := y.1; have z1 := y.2.1; have z2 := y.2.2.1; have z3 := y.2.2.2.1; have z4 := y.2.2.2.2.1; have z5 := y.2.2.2.2.2.1; have z6 := y.2.2.2.2.2.2.1; have z7 := y.2.2.2.2.2.2.2.1; have z8 := y.2.2.2.2.2.2.2.2.1; have z9 := y.2.2.2.2.2.2.2.2.2.1; clear y; go_wp2; exact ⟨rfl, Below.refl _ _, rfl, fun _ h => nomatch h⟩
     intro v u hu hs hap; have s_0 : v 0 = .pointer (some ⟨w.heap.size, 3, none⟩) := hs 0 (by decide) (by decide); have s_1 : v 1 = .slice (some ⟨g1, o1, none⟩) ts.length cap := hs 1 (by decide) (by decide); have s_2 : v 2 = .int .i64 q := hs 2 (by decide) (by decide); have s_3 : v 3 = .pointer (some ⟨g1, o1 + q * 4, none⟩) := hs 3 (by decide) (by decide); have s_4 : v 4 = .agg #[.int .i64 xk, .int .i64 xn, .string xs, .slice c1 xa.length d1] := hs 4 (by decide) (by decide); have s_5 : v 5 = .pointer (some ⟨w.heap.size + 1, 3, none⟩) := hs 5 (by decide) (by decide); have s_6 : v 6 = .slice (some ⟨g2, o2, none⟩) us.length cap' := hs 6 (by decide) (by decide); have s_7 : v 7 = .int .i64 q := hs 7 (by decide) (by decide); have s_8 : v 8 = .pointer (some ⟨g2, o2 + q * 4, none⟩) := hs 8 (by decide) (by decide); have s_9 : v 9 = .agg #[.int .i64 yk, .int .i64 yn, .string ys, .slice c2 ya.length d2] := hs 9 (by decide) (by decide); simp only [putAll, dstOf]; have y := FS.out u hu; have hcall := IH.out (.mk xk xn xs xa) (.mk yk yn ys ya) _ _ P P' u HZ.out HZ2.out y.2.2.2.2.2.2.2.2.2.2.1 y.2.2.2.2.2.2.2.2.2.2.2; have HU0 := Lib.hid (HB0.out.trans (hu.mono HB0.out.size)); have HUW := Lib.hid (HBW.out.trans (hu.mono HBW.out.size)); clear hs hap y hu; cases hsm : sameT (.mk xk xn xs xa) (.mk yk yn ys ya)
     ·rw [hsm] at hcall
      have HC := Lib.hid hcall; have hr := HN2.out (by rw [HY.out, hsm]) E4.out; have HR := Lib.hid hr; clear hcall hsm hr; refine rest_lineL 10 12 [_, _] rfl (by kernel_rfl) (by decide) (by decide) (by kernel_rfl) ?_
      go_wp2_with (refine (HC.out).mono ?_; rintro e w9 ⟨rfl, hb9⟩)
      refine then_rest (rest_end (by decide) ?_); go_wp2; go_ret; exact says (by rw [HF.out, HR.out]) (HU0.out.trans (hb9.mono HU0.out.size))
     ·rw [hsm] at hcall
      have HC := Lib.hid hcall; have hr := HY.out; rw [hsm] at hr; have HR := Lib.hid hr; clear hcall hsm hr; refine rest_lineL 10 12 [_, _] rfl (by kernel_rfl) (by decide) (by decide) (by kernel_rfl) ?_
      go_wp2_with (refine (HC.out).mono ?_; rintro e w9 ⟨rfl, hb9⟩)
      refine then_rest (rest_end (by decide) ?_); go_wp2; go_roundw
      case rel => exact ⟨q + 1, by omega, by go_num, HR.out, HUW.out.trans (hb9.mono HUW.out.size)⟩
      case measure => simp [intOf]; omega
    ·go_wp2
     go_ret; exact says (by have h := HS.out; have := E4.out; rw [HF.out, ← h, List.take_of_length_le (by omega), List.take_of_length_le (by omega)]) hbl0
end Go.Proofs.Ytcbijikalfodnaa.Tms
