
/-
  Maps whose key is a name and a number of arguments: how keys are compared, found and put. Plain laws over the program's table of types.
  goal.kinds, a map literal whose entries are put in any order, walked over the program: whatever the order, what is found under a key is the same.
  goal.Kind, walked over the program.
-/
import Derived.Test.YtoklbeogmcdgaaaGnb
import Derived.ChangeKeysEq
import Derived.WideKeyRuns
import Derived.Laws.StructEq
import Derived.Test.YtoklbeogmcdgaaaVars
import Derived.Test.YtoklbeogmcdgaaaChn
namespace Go.Proofs.Ytoklbeogmcdgaaa.Tms
open Go Go.RowKit Go.Proofs.Ytoklbeogmcdgaaa.Reg Go.Proofs.Ytoklbeogmcdgaaa.Maps Go.Instr
set_option linter.unusedVariables false

abbrev keyV (s : ByteArray) (n : Int) : Value := .agg #[.string s, .int .i64 n]
theorem plain_str : Try.prog.plainKey 9 = true := by kernel_rfl
theorem plain_int : Try.prog.plainKey 3 = true := by kernel_rfl
theorem run_p1 (s : ByteArray) (n : Int) (w : World) : (part 9 #[.string s, .int .i64 n] 0).run Try.prog w = .ok (.string s) w := run_part_plain w plain_str rfl
theorem run_p2 (s : ByteArray) (n : Int) (w : World) : (part 3 #[.string s, .int .i64 n] 1).run Try.prog w = .ok (.int .i64 n) w := run_part_plain w plain_int rfl
def isKey (s : ByteArray) (n : Int) : Value → Bool
  | .agg cs => (match (cs[0]? : Option Value) with | some (Value.string s') => s.toList == s'.toList | _ => false) && (match (cs[1]? : Option Value) with | some (Value.int _ n') => n == n' | _ => false)
  | _ => false
theorem isKey_key (s s' : ByteArray) (n n' : Int) : isKey s n (keyV s' n') = (s.toList == s'.toList && n == n') := rfl
/-- what is found under a key: where, and what -/
def lookE (s : ByteArray) (n : Int) : List MapEntry → Nat → Option (Nat × Value)
  | [], _ => none
  | e :: es, i => if isKey s n e.key then some (i, e.val) else lookE s n es (i + 1)
/-- all keys are a name and a number -/
def KeyEs (es : List MapEntry) : Prop := ∀ e ∈ es, ∃ s n, e.key = keyV s n
end Go.Proofs.Ytoklbeogmcdgaaa.Tms
namespace Go.Proofs.Ytoklbeogmcdgaaa.Tms
open Go Go.RowKit Go.Proofs.Ytoklbeogmcdgaaa.Reg Go.Proofs.Ytoklbeogmcdgaaa.Maps
set_option linter.unusedVariables false

def kindsL : List (ByteArray × Int × Int) := [((⟨#[116, 114, 117, 101]⟩ : ByteArray), 0, 1), ((⟨#[102, 97, 105, 108]⟩ : ByteArray), 0, 7), ((⟨#[33]⟩ : ByteArray), 0, 6), ((⟨#[44]⟩ : ByteArray), 2, 2), ((⟨#[59]⟩ : ByteArray), 2, 3), ((⟨#[45, 62]⟩ : ByteArray), 2, 4), ((⟨#[92, 43]⟩ : ByteArray), 1, 5), ((⟨#[99, 97, 108, 108]⟩ : ByteArray), 1, 8), ((⟨#[99, 97, 116, 99, 104]⟩ : ByteArray), 3, 9), ((⟨#[116, 104, 114, 111, 119]⟩ : ByteArray), 1, 10), ((⟨#[102, 105, 110, 100, 97, 108, 108]⟩ : ByteArray), 3, 11)]
def kAt (i : Nat) : ByteArray × Int × Int := kindsL.getD i (⟨#[]⟩, 0, 0)
def kKey (i : Nat) : Value := keyV (kAt i).1 (kAt i).2.1
def kVal (i : Nat) : Value := .int .i64 (kAt i).2.2
/-- a goal's kind by its name and how many arguments -/
def kindOf (s : ByteArray) (n : Int) : Int := match kindsL.find? fun x => s.toList == x.1.toList && n == x.2.1 with
  | some x => x.2.2
  | none => 0
def apartB : Bool := (List.range 11).all fun i => (List.range 11).all fun j => i == j || !isKey (kAt i).1 (kAt i).2.1 (kKey j)
theorem apartB_true : apartB = true := by decide +kernel
theorem kapart {i j : Nat} (hi : i < 11) (hj : j < 11) (h : i ≠ j) : isKey (kAt i).1 (kAt i).2.1 (kKey j) = false := by
  have := apartB_true
  simp only [apartB, List.all_eq_true, List.mem_range, Bool.or_eq_true, beq_iff_eq, Bool.not_eq_true'] at this
  exact (this i hi j hj).resolve_left h
theorem lookE_none {s : ByteArray} {n : Int} : ∀ {es : List MapEntry} {i : Nat}, (∀ e ∈ es, isKey s n e.key = false) → lookE s n es i = none
  | [], i, _ => rfl
  | e :: es, i, h => by
    rw [lookE, if_neg (by rw [h e (by simp)]; decide)]
    exact lookE_none fun e he => h e (List.mem_cons_of_mem _ he)
/-- block b holds a map of just these entries -/
def EsIs (w : World) (b : Nat) (l : List Nat) : Prop := ∃ es c, w.heap[b]? = some (.map es c) ∧ (es.toList.map fun e => (e.key, e.val)) = l.map fun i => (kKey i, kVal i)
theorem es_key {es : List MapEntry} {l : List Nat} (h : (es.map fun e => (e.key, e.val)) = l.map fun i => (kKey i, kVal i)) : ∀ e ∈ es, ∃ i ∈ l, e.key = kKey i ∧ e.val = kVal i := by
  intro e he
  have : (e.key, e.val) ∈ es.map fun e => (e.key, e.val) := List.mem_map.2 ⟨e, he, rfl⟩
  rw [h] at this
  obtain ⟨i, hi, e2⟩ := List.mem_map.1 this
  simp only [Prod.mk.injEq] at e2
  exact ⟨i, hi, e2.1.symm, e2.2.symm⟩
theorem es_keys {es : List MapEntry} {l : List Nat} (h : (es.map fun e => (e.key, e.val)) = l.map fun i => (kKey i, kVal i)) : KeyEs es := fun e he => by
  obtain ⟨i, -, h1, -⟩ := es_key h e he
  exact ⟨_, _, h1⟩
theorem lookE_of {s : ByteArray} {n : Int} : ∀ {es : List MapEntry} {l : List Nat} {q : Nat}, (es.map fun e => (e.key, e.val)) = (l.map fun i => (kKey i, kVal i)) →
    (lookE s n es q).elim (.int .i64 0) (·.2) = match l.find? fun i => isKey s n (kKey i) with | some i => kVal i | none => .int .i64 0
  | [], [], q, _ => rfl
  | e :: es, i :: l, q, h => by
    simp only [List.map_cons, List.cons.injEq, Prod.mk.injEq] at h
    obtain ⟨⟨h1, h2⟩, h3⟩ := h
    rw [lookE, h1, List.find?_cons]
    cases hk : isKey s n (kKey i)
    · simpa using lookE_of h3
    · simpa using h2
  | [], _ :: _, _, h => by simp at h
  | _ :: _, [], _, h => by simp at h
/-- a map in which each goal's kind is found -/
def KMap (w : World) (b : Nat) : Prop := ∃ es c, w.heap[b]? = some (.map es c) ∧ KeyEs es.toList ∧ ∀ s n, (lookE s n es.toList 0).elim (.int .i64 0) (·.2) = .int .i64 (kindOf s n)
theorem kindsL_at : kindsL = (List.range 11).map kAt := by decide +kernel
theorem find_one {s : ByteArray} {n : Int} {i : Nat} (hi : i < 11) (h : isKey s n (kKey i) = true) : kindOf s n = (kAt i).2.2 := by
  have hk : ∀ j, isKey s n (kKey j) = (s.toList == (kAt j).1.toList && n == (kAt j).2.1) := fun j => isKey_key _ _ _ _
  unfold kindOf
  cases hf : kindsL.find? fun x => s.toList == x.1.toList && n == x.2.1 with
  | none =>
    rw [List.find?_eq_none] at hf
    have := hf (kAt i) (by rw [kindsL_at]; exact List.mem_map.2 ⟨i, by simpa using hi, rfl⟩)
    rw [hk i] at h
    exact absurd h this
  | some x =>
    have hm := List.mem_of_find?_eq_some hf
    have hx := List.find?_some hf
    rw [kindsL_at] at hm
    obtain ⟨j, hj, rfl⟩ := List.mem_map.1 hm
    have hj : j < 11 := by simpa using hj
    by_cases e : i = j
    · rw [e]
    · exfalso
      have h1 := kapart hj hi (Ne.symm e)
      have e1 : isKey (kAt j).1 (kAt j).2.1 (kKey i) = ((kAt j).1.toList == (kAt i).1.toList && (kAt j).2.1 == (kAt i).2.1) := isKey_key _ _ _ _
      rw [hk i] at h
      rw [e1] at h1
      simp only [Bool.and_eq_true, beq_iff_eq] at h hx
      rw [← hx.1, ← hx.2, h.1, h.2] at h1
      simp at h1
theorem find_non {s : ByteArray} {n : Int} (h : ∀ i, i < 11 → isKey s n (kKey i) = false) : kindOf s n = 0 := by
  have hk : ∀ j, isKey s n (kKey j) = (s.toList == (kAt j).1.toList && n == (kAt j).2.1) := fun j => isKey_key _ _ _ _
  unfold kindOf
  cases hf : kindsL.find? fun x => s.toList == x.1.toList && n == x.2.1 with
  | none => rfl
  | some x =>
    have hm := List.mem_of_find?_eq_some hf
    have hx := List.find?_some hf
    rw [kindsL_at] at hm
    obtain ⟨j, hj, rfl⟩ := List.mem_map.1 hm
    have h1 := h j (by simpa using hj)
    rw [hk j] at h1
    rw [hx] at h1
    cases h1
theorem kmap_of {w : World} {b : Nat} {l : List Nat} (h : EsIs w b l) (hl : ∀ i, i ∈ l ↔ i < 11) : KMap w b := by
  obtain ⟨es, c, h1, h2⟩ := h
  refine ⟨es, c, h1, es_keys h2, fun s n => ?_⟩
  rw [lookE_of h2]
  cases hf : l.find? fun i => isKey s n (kKey i) with
  | none =>
    rw [List.find?_eq_none] at hf
    rw [find_non fun i hi => by simpa using hf i ((hl i).2 hi)]
  | some i =>
    have hm := List.mem_of_find?_eq_some hf
    have hx := List.find?_some hf
    simp only
    rw [find_one ((hl i).1 hm) hx]
    rfl

/-- what an operation does, and where its value goes -/
def opOf (ops : Array Oper) (i : Nat) : Option (Option Tmp × Op × Bool) := (ops[i]?).map fun o => (o.dst, o.op, o.guard.isNone)
theorem opOf_spec {ops : Array Oper} {i : Nat} {d : Option Tmp} {p : Op} (h : opOf ops i = some (d, p, true)) {o : Oper} (ho : ops[i]? = some o) : o.dst = d ∧ o.op = p ∧ o.guard = none := by
  unfold opOf at h
  rw [ho] at h
  simpa using h
/-- what holds while the entries are put, in whatever order -/
structure LitI (w0 : World) (ds : List Deferred) (L : Array Bool) (a : Act) (w : World) : Prop where
  defers : a.defers = ds
  size : a.tmps.size = 14
  bel : Below w0.heap.size w0 w
  made : L.getD 0 false = true → ∃ b l, a.tmps[1]? = some (.map (some b)) ∧ w0.heap.size ≤ b ∧ EsIs w b l ∧ l.Nodup ∧ ∀ i, i ∈ l ↔ i < 11 ∧ L.getD (2 * i + 2) false = true
  keys : ∀ i, i < 11 → L.getD (2 * i + 1) false = true → a.tmps[i + 2]? = some (kKey i)

theorem getD_set_iff {L : Array Bool} {i j : Nat} (hi : i < L.size) : (L.setIfInBounds i true).getD j false = true ↔ j = i ∨ L.getD j false = true := by
  by_cases h : j = i
  · subst h; simp [hi]
  · rw [getD_set_ne false (Ne.symm h)]; simp [h]
theorem list14 : ∀ (l : List Value), l.length = 14 → ∃ x0 x1 x2 x3 x4 x5 x6 x7 x8 x9 x10 x11 x12 x13, l = [x0, x1, x2, x3, x4, x5, x6, x7, x8, x9, x10, x11, x12, x13]
  | [x0, x1, x2, x3, x4, x5, x6, x7, x8, x9, x10, x11, x12, x13], _ => ⟨x0, x1, x2, x3, x4, x5, x6, x7, x8, x9, x10, x11, x12, x13, rfl⟩
end Go.Proofs.Ytoklbeogmcdgaaa.Tms
namespace Go.Proofs.Ytoklbeogmcdgaaa.Tms
open Go Go.RowKit Go.Proofs.Ytoklbeogmcdgaaa.Reg Go.Proofs.Ytoklbeogmcdgaaa.Maps
set_option linter.unusedVariables false

/-- a goal's kind -/
def kindT (t : Tm) : Int := if t.k = 3 then kindOf t.s 0 else if t.k = 4 then (if t.args.length = 0 then 0 else kindOf t.s (if t.s.toList == [99, 97, 108, 108] then 1 else t.args.length)) else -1

end Go.Proofs.Ytoklbeogmcdgaaa.Tms
