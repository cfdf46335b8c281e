
/-
  A region that draws its order, walked in ONE order: groups of operations that only look ('soft'), and between them single operations that may do more, each of which waits for what came ahead. Plain theorems over any program; nothing of the seat stands here.
-/
import Derived.Test.YtilmfkpflecghaaReg
import Derived.OrdersHeld
namespace Go.Proofs.Ytilmfkpflecghaa.Reg
open Go Go.RowKit
set_option linter.unusedVariables false

/-! ### Operations that only look -/

/-- Where it draws no answer and makes no block, it leaves the world as it was, and comes to the same wherever all blocks are as they were. -/
def Soft {α : Type} (P : Program) (s : Sem α) : Prop :=
  ∀ w x w1, s.run P w = .ok x w1 → w.drawn ≤ w1.drawn ∧ w.heap.size ≤ w1.heap.size ∧ (w1.drawn = w.drawn → w1.heap.size = w.heap.size → w1 = w ∧ ∀ w', Below w.heap.size w w' → s.run P w' = .ok x w')

section
variable {α β : Type} {P : Program}
theorem Soft.pure' (a : α) : Soft P (Pure.pure a : Sem α) := fun w x w1 h => by
  simp only [Sem.run_pure, Result.ok.injEq] at h
  obtain ⟨rfl, rfl⟩ := h
  exact ⟨Nat.le_refl _, Nat.le_refl _, fun _ _ => ⟨rfl, fun w' _ => rfl⟩⟩
theorem Soft.never {s : Sem α} (h : ∀ w x w1, s.run P w ≠ .ok x w1) : Soft P s := fun w x w1 h' => absurd h' (h w x w1)
theorem Soft.halt (e : Halt) : Soft P (Sem.halt e : Sem α) := Soft.never fun w x w1 h => by simp at h
theorem Soft.bind {s : Sem α} {f : α → Sem β} (hs : Soft P s) (hf : ∀ a, Soft P (f a)) : Soft P (s >>= f) := fun w x w1 h => by
  rw [Sem.run_bind] at h
  cases hr : s.run P w with
  | halt e w2 => rw [hr] at h; simp [Result.andThen] at h
  | ok a w2 =>
    rw [hr] at h
    simp only [Result.andThen_ok] at h
    obtain ⟨h1, h2, h3⟩ := hs w a w2 hr
    obtain ⟨k1, k2, k3⟩ := hf a w2 x w1 h
    refine ⟨Nat.le_trans h1 k1, Nat.le_trans h2 k2, fun he hz => ?_⟩
    obtain ⟨rfl, h4⟩ := h3 (by omega) (by omega)
    obtain ⟨rfl, k4⟩ := k3 (by omega) (by omega)
    exact ⟨rfl, fun w' hb => by rw [Sem.run_bind, h4 w' hb, Result.andThen_ok]; exact k4 w' hb⟩
theorem Soft.never_bind {s : Sem α} {f : α → Sem β} (hf : ∀ a w x w1, (f a).run P w ≠ .ok x w1) : ∀ w x w1, (s >>= f).run P w ≠ .ok x w1 := fun w x w1 h => by
  rw [Sem.run_bind] at h
  cases hr : s.run P w with
  | halt e w2 => rw [hr] at h; simp [Result.andThen] at h
  | ok a w2 => rw [hr] at h; simp only [Result.andThen_ok] at h; exact hf _ _ _ _ h
theorem Soft.program' : Soft P program := fun w x w1 h => by
  simp only [run_program, Result.ok.injEq] at h
  obtain ⟨rfl, rfl⟩ := h
  exact ⟨Nat.le_refl _, Nat.le_refl _, fun _ _ => ⟨rfl, fun w' _ => rfl⟩⟩
theorem Soft.stuck' (s : String) : Soft P (stuck s : Sem α) := Soft.halt _
theorem Soft.unsupported' (s : Unsupported) : Soft P (unsupported s : Sem α) := Soft.halt _
theorem Soft.choose' (q : Question) : Soft P (choose q) := fun w x w1 h => by
  rw [run_choose] at h
  split at h
  · rename_i hq
    simp only [Result.ok.injEq] at h
    obtain ⟨rfl, rfl⟩ := h
    exact ⟨Nat.le_refl _, Nat.le_refl _, fun _ _ => ⟨rfl, fun w' _ => by rw [run_choose, if_pos hq]⟩⟩
  · simp only [Result.ok.injEq] at h
    obtain ⟨rfl, rfl⟩ := h
    exact ⟨Nat.le_succ _, Nat.le_refl _, fun he => by simp at he⟩
theorem seen_eq {w w' : World} {a : Addr} {u : TypeId} {k : Addr} {m : Bool} (h : w'.heap[a.block]? = w.heap[a.block]?) : w'.seen P a u k m = w.seen P a u k m := by
  unfold World.seen
  rw [h]
theorem seen_some {w : World} {a : Addr} {u : TypeId} {k : Addr} {m : Bool} {x} (h : w.seen P a u k m = .ok x) : a.block < w.heap.size := by
  rcases Nat.lt_or_ge a.block w.heap.size with hl | hl
  · exact hl
  · exfalso
    have : w.heap[a.block]? = none := Array.getElem?_eq_none hl
    unfold World.seen at h
    rw [this] at h
    revert h
    simp only [bind, Except.bind]
    repeat' split
    all_goals simp
theorem Soft.load' (a : Addr) (m : Mode) : Soft P (load a m) := fun w x w1 h => by
  rw [run_load] at h
  cases hc : w.cell? a with
  | some v =>
    rw [hc] at h
    simp only [Result.ok.injEq] at h
    obtain ⟨rfl, rfl⟩ := h
    exact ⟨Nat.le_refl _, Nat.le_refl _, fun _ _ => ⟨rfl, fun w' hb => by rw [run_load, hb.cell (World.block_lt_of_cell? _ _ hc), hc]⟩⟩
  | none =>
    rw [hc] at h
    simp only at h
    cases hf : w.farLoad P a (m == .atomic) with
    | error e => rw [hf] at h; simp at h
    | ok r =>
      rw [hf] at h
      simp only [Result.ok.injEq] at h
      obtain ⟨rfl, rfl⟩ := h
      refine ⟨Nat.le_refl _, Nat.le_refl _, fun _ _ => ⟨rfl, fun w' hb => ?_⟩⟩
      have hlt : a.block < w.heap.size := by
        rcases Nat.lt_or_ge a.block w.heap.size with hl | hl
        · exact hl
        · exfalso
          unfold World.farLoad at hf
          rw [Array.getElem?_eq_none hl] at hf
          simp at hf
      have hcc : w'.cell? a = none := (hb.cell hlt).trans hc
      have hff : w'.farLoad P a (m == .atomic) = .ok r := by
        rw [← hf]
        unfold World.farLoad at hf ⊢
        rw [hb.block _ hlt]
        cases ho : w.heap[a.block]? with
        | none => rw [ho] at hf; simp at hf
        | some o =>
          rw [ho] at hf
          cases o <;> simp only [] at hf ⊢
          case view at_ u =>
            have hs : w'.seen P at_ u a (m == .atomic) = w.seen P at_ u a (m == .atomic) := by
              refine seen_eq (hb.block _ ?_)
              cases hq : w.seen P at_ u a (m == .atomic) with
              | ok x => exact seen_some hq
              | error e =>
                exfalso
                unfold World.viewLoad at hf
                rw [hq] at hf
                exact nomatch (show (Except.error (Halt.unsupported (.unsafePointer e)) : Except Halt _) = .ok r from hf)
            unfold World.viewLoad
            rw [hs]
          all_goals exact absurd hf (by simp)
      rw [run_load, hcc]
      simp only [hff]
end

section
variable {α β : Type} {P : Program}
theorem Soft.typeInfo' (t : TypeId) : Soft P (typeInfo t) := by
  unfold typeInfo
  refine Soft.bind Soft.program' fun p => ?_
  split
  · exact Soft.pure' _
  · exact Soft.stuck' _
theorem Soft.underlying' (t : TypeId) : Soft P (underlying t) := by
  unfold underlying
  refine Soft.bind Soft.program' fun p => ?_
  split
  · exact Soft.pure' _
  · exact Soft.stuck' _
theorem Soft.sizeOf' (t : TypeId) : Soft P (sizeOf t) := Soft.bind (Soft.typeInfo' t) fun _ => Soft.pure' _
theorem Soft.isAgg' (t : TypeId) : Soft P (isAgg t) := by
  unfold isAgg
  refine Soft.bind (Soft.underlying' t) fun d => ?_
  split <;> exact Soft.pure' _
theorem Soft.loadCellsFrom' (a : Addr) : ∀ (n i : Nat) (acc : Array Value), Soft P (loadCellsFrom a i n acc)
  | 0, i, acc => Soft.pure' _
  | n + 1, i, acc => Soft.bind (Soft.load' _ _) fun v => Soft.loadCellsFrom' a n (i + 1) _
theorem Soft.loadVar' (t : TypeId) (a : Addr) : Soft P (loadVar t a) := by
  unfold loadVar
  refine Soft.bind (Soft.isAgg' t) fun b => ?_
  split
  · exact Soft.bind (Soft.sizeOf' t) fun n => Soft.bind (Soft.loadCellsFrom' a n 0 #[]) fun _ => Soft.pure' _
  · exact Soft.load' _ _
theorem Soft.sureAddr' (v : Value) : Soft P (Instr.sureAddr v) := by
  unfold Instr.sureAddr
  split
  · exact Soft.pure' _
  · exact Soft.stuck' _
theorem Soft.asIntOf' (v : Value) : Soft P (asIntOf v) := by
  unfold asIntOf
  split
  · exact Soft.pure' _
  · exact Soft.unsupported' _
  · exact Soft.stuck' _
theorem Soft.asBool' (v : Value) : Soft P (asBool v) := by
  unfold asBool
  split
  · exact Soft.pure' _
  · exact Soft.stuck' _
theorem Soft.asAgg' (v : Value) : Soft P (asAgg v) := by
  unfold asAgg
  split
  · exact Soft.pure' _
  · exact Soft.stuck' _
theorem Soft.part' (t : TypeId) (cs : Array Value) (o : Nat) : Soft P (part t cs o) := by
  unfold part
  refine Soft.bind (Soft.isAgg' t) fun b => ?_
  split
  · exact Soft.bind (Soft.sizeOf' t) fun _ => Soft.pure' _
  · split
    · exact Soft.pure' _
    · exact Soft.stuck' _
theorem never_panics (e : RuntimeError) (w : World) (x : α) (w1 : World) : (runtimePanic e : Sem α).run P w ≠ .ok x w1 := by
  unfold runtimePanic
  refine Soft.never_bind (fun p => ?_) _ _ _
  cases e <;> intro w x w1 h
  all_goals first
    | (simp at h; done)
    | (revert h; exact Soft.never_bind (fun _ => Soft.never_bind fun _ w x w1 h => by simp at h) _ _ _)
    | (revert h; refine Soft.never_bind (fun _ w x w1 h => ?_) _ _ _; simp at h; done)
theorem Soft.runtimePanic' (e : RuntimeError) : Soft P (runtimePanic e : Sem α) := Soft.never (never_panics e)
theorem Soft.boundsPanic' (k : IntKind) (x y : Int) (c : BoundsCode) : Soft P (boundsPanic k x y c : Sem α) := Soft.never fun w v w1 => by
  unfold boundsPanic
  simp only []
  split
  · exact Soft.never_bind (fun _ => never_panics _) _ _ _
  · exact Soft.never_bind (fun _ => never_panics _) _ _ _
theorem Soft.map' {s : Sem α} (f : α → β) (hs : Soft P s) : Soft P (f <$> s) := fun w x w1 h => by
  rw [Sem.run_map] at h
  cases hr : s.run P w with
  | halt e w2 => rw [hr] at h; simp [Result.andThen] at h
  | ok a w2 =>
    rw [hr] at h
    simp only [Result.andThen_ok, Result.ok.injEq] at h
    obtain ⟨rfl, rfl⟩ := h
    obtain ⟨h1, h2, h3⟩ := hs w a w2 hr
    exact ⟨h1, h2, fun he hz => ⟨(h3 he hz).1, fun w' hb => by rw [Sem.run_map, (h3 he hz).2 w' hb, Result.andThen_ok]⟩⟩
theorem Soft.sliceBound' (x : Value) (y : Nat) (c : BoundsCode) : Soft P (Instr.sliceBound x y c) := by
  unfold Instr.sliceBound
  refine Soft.bind (Soft.asIntOf' x) fun (k, i) => ?_
  by_cases h : 0 ≤ i ∧ i ≤ (y : Int)
  · simp only [h, and_self, if_true]
    exact Soft.pure' _
  · simp only [h, if_false]
    exact Soft.boundsPanic' _ _ _ _
theorem Soft.sliceBounds' (b : Bool) (l c : Nat) (lo hi mx : Option Value) : Soft P (Instr.sliceBounds b l c lo hi mx) := by
  unfold Instr.sliceBounds
  cases lo <;> cases hi <;> cases mx <;> simp only [pure_bind]
  all_goals repeat first
    | exact Soft.pure' _
    | exact Soft.stuck' _
    | exact Soft.sliceBound' _ _ _
    | refine Soft.bind ?_ fun _ => ?_
theorem Soft.intArith' (op : BinOp) (k : IntKind) (x y : Int) : Soft P (Op.intArith op k x y) := by
  unfold Op.intArith
  split <;> first | exact Soft.pure' _ | exact Soft.stuck' _
theorem Soft.intBits' (op : BinOp) (k : IntKind) (x y : Int) : Soft P (Op.intBits op k x y) := by
  unfold Op.intBits
  simp only []
  split <;> first | exact Soft.pure' _ | exact Soft.stuck' _
theorem Soft.unary' (op : UnOp) (x : Value) : Soft P (Op.unary op x) := by
  unfold Op.unary
  split <;> first | exact Soft.pure' _ | exact Soft.stuck' _ | exact Soft.unsupported' _ | exact Soft.intArith' _ _ _ _ | exact Soft.intBits' _ _ _ _
end

section
variable {α β : Type} {P : Program}
theorem Soft.newObj' (o : Obj) : Soft P (newObj o) := fun w x w1 h => by
  simp only [run_newObj, Result.ok.injEq] at h
  obtain ⟨-, rfl⟩ := h
  exact ⟨Nat.le_refl _, by simp, fun _ hz => by simp at hz⟩
theorem Soft.shape_bind {r : Nat} {f : Option (TypeId × Nat) → Sem β} (hf : ∀ s, Soft P (f s)) (hn : ∀ w, w.heap[r]? = none → ∀ x w1, (f none).run P w ≠ .ok x w1) : Soft P (shape r >>= f) := fun w x w1 h => by
  rw [Sem.run_bind, run_shape, Result.andThen_ok] at h
  obtain ⟨h1, h2, h3⟩ := hf _ w x w1 h
  refine ⟨h1, h2, fun he hz => ?_⟩
  obtain ⟨rfl, h4⟩ := h3 he hz
  refine ⟨rfl, fun w' hb => ?_⟩
  rw [Sem.run_bind, run_shape, Result.andThen_ok]
  have : w'.shape? r = w1.shape? r := by
    rcases Nat.lt_or_ge r w1.heap.size with hl | hl
    · unfold World.shape?
      rw [hb.block r hl]
    · exfalso
      have hno : w1.heap[r]? = none := Array.getElem?_eq_none hl
      have hs : w1.shape? r = none := by unfold World.shape?; rw [hno]
      rw [hs] at h
      exact hn w1 hno _ _ h
  rw [this]
  exact h4 w' hb
theorem getObj_none {f : Obj → Sem β} {r : Nat} {w : World} (h : w.heap[r]? = none) (x : β) (w1 : World) : (getObj r >>= f).run P w ≠ .ok x w1 := fun h' => by
  have : (getObj r >>= f) = Sem.getObj r fun o => (Sem.pure o).bind f := rfl
  rw [this] at h'
  simp only [Sem.run, h] at h'
  cases h'
theorem Soft.getObj' (r : Nat) : Soft P (getObj r) := fun w x w1 h => by
  have hr : (getObj r).run P w = match w.heap[r]? with
    | some (.cells ..) => .halt (.stuck "getObj: a row of cells") w
    | some o => .ok o w
    | none => .halt (.stuck "getObj: no such block") w := by
    cases hw : w.heap[r]? with
    | none => simp [getObj, Sem.run, hw]
    | some o => cases o <;> simp [getObj, Sem.run, hw]
  rw [hr] at h
  cases ho : w.heap[r]? with
  | none => rw [ho] at h; cases h
  | some o =>
    have hlt : r < w.heap.size := (Array.getElem?_eq_some_iff.1 ho).1
    rw [ho] at h
    cases o <;> simp only [reduceCtorEq, Result.ok.injEq] at h
    all_goals
      obtain ⟨rfl, rfl⟩ := h
      exact ⟨Nat.le_refl _, Nat.le_refl _, fun _ _ => ⟨rfl, fun w' hb => by simp [getObj, Sem.run, (hb.block r hlt).trans ho]⟩⟩
theorem Soft.viewAt' (r : Nat) : Soft P (viewAt r) := by
  unfold viewAt
  refine Soft.shape_bind (fun s => ?_) fun w hw x w1 => ?_
  · split
    · exact Soft.pure' _
    · refine Soft.bind (Soft.getObj' r) fun o => ?_
      split <;> exact Soft.pure' _
  · exact getObj_none hw x w1
theorem Soft.numberAt' (r : Nat) : Soft P (numberAt r) := by
  unfold numberAt
  refine Soft.shape_bind (fun s => ?_) fun w hw x w1 => ?_
  · split
    · exact Soft.pure' _
    · refine Soft.bind (Soft.getObj' r) fun o => ?_
      split <;> exact Soft.pure' _
  · exact getObj_none hw x w1
theorem Soft.noView' (a : Addr) : Soft P (noView a) := by
  unfold noView
  refine Soft.bind (Soft.viewAt' _) fun o => ?_
  split
  · exact Soft.unsupported' _
  · exact Soft.pure' _
theorem Soft.byteOf' (a : Addr) : Soft P (byteOf a) := by
  unfold byteOf
  split
  · exact Soft.pure' _
  · refine Soft.bind Soft.program' fun p => Soft.bind (Soft.noView' a) fun _ => Soft.shape_bind (fun s => ?_) fun w hw x w1 h => by simp at h
    split
    · simp only []
      split
      · exact Soft.pure' _
      · split
        · exact Soft.pure' _
        · exact Soft.stuck' _
    · exact Soft.stuck' _
theorem Soft.behindNumber' (a : Addr) : Soft P (behindNumber a) := Soft.bind (Soft.numberAt' _) fun _ => Soft.pure' _
theorem Soft.asNumber' (a : Addr) (l : Bool) : Soft P (asNumber a l) := Soft.bind (Soft.newObj' _) fun _ => Soft.pure' _
theorem Soft.partAt' (a : Addr) (c b : Nat) : Soft P (partAt a c b) := by
  unfold partAt
  exact Soft.bind (Soft.byteOf' a) fun _ => Soft.bind (Soft.byteOf' _) fun _ => Soft.pure' _
theorem Soft.fieldPlace' (a : Addr) (f : Field) : Soft P (fieldPlace a f) := by
  unfold fieldPlace
  refine Soft.bind (Soft.sizeOf' _) fun n => ?_
  split
  · exact Soft.partAt' _ _ _
  · exact Soft.pure' _
end

section
variable {α β : Type} {P : Program}
theorem Soft.ite' {c : Prop} [Decidable c] {x y : Sem α} (hx : Soft P x) (hy : Soft P y) : Soft P (if c then x else y) := by
  by_cases h : c
  · rw [if_pos h]; exact hx
  · rw [if_neg h]; exact hy
theorem Soft.loadAt' (t : TypeId) (v : Value) : Soft P (Instr.loadAt t v) := Soft.bind (Soft.sureAddr' v) fun a => Soft.loadVar' t a
theorem Soft.fieldAt' (s : TypeId) (v : Value) (f : Nat) : Soft P (Instr.fieldAt s v f) := by
  unfold Instr.fieldAt
  refine Soft.bind (Soft.underlying' s) fun d => ?_
  split
  · split
    · exact Soft.bind (Soft.sureAddr' v) fun a => Soft.bind (Soft.fieldPlace' a _) fun _ => Soft.pure' _
    · exact Soft.stuck' _
  · exact Soft.stuck' _
theorem Soft.field' (s : TypeId) (v : Value) (f : Nat) : Soft P (Instr.field s v f) := by
  unfold Instr.field
  refine Soft.bind (Soft.underlying' s) fun d => ?_
  split
  · split
    · exact Soft.bind (Soft.asAgg' v) fun a => Soft.part' _ _ _
    · exact Soft.stuck' _
  · exact Soft.stuck' _
theorem Soft.extract' (v : Value) (i : Nat) : Soft P (Instr.extract v i) := by
  unfold Instr.extract
  split
  · split
    · exact Soft.pure' _
    · exact Soft.stuck' _
  · exact Soft.stuck' _
theorem Soft.index' (t : TypeId) (x i : Value) : Soft P (Instr.index t x i) := by
  unfold Instr.index
  refine Soft.bind (Soft.asIntOf' i) fun (k, i) => Soft.bind (Soft.underlying' t) fun d => ?_
  split
  · exact Soft.ite' (Soft.bind (Soft.sizeOf' _) fun _ => Soft.part' _ _ _) (Soft.boundsPanic' _ _ _ _)
  · split
    · exact Soft.pure' _
    · exact Soft.boundsPanic' _ _ _ _
  · exact Soft.stuck' _
theorem Soft.indexAt' (t : TypeId) (x i : Value) : Soft P (Instr.indexAt t x i) := by
  unfold Instr.indexAt
  refine Soft.bind (Soft.asIntOf' i) fun (k, i) => Soft.bind (Soft.underlying' t) fun d => ?_
  simp only []
  have key : ∀ x : Option Addr × Nat × TypeId, Soft P (match x with
      | (base, len, elem) => do
        let __do_lift ← underlying t
        have tiny : Bool := decide (len ≤ 1) && match __do_lift with
            | TypeDesc.array len elem => true
            | x => false
        match base with
          | some a =>
            if 0 ≤ i ∧ i < ↑len then do
              let __do_lift ← sizeOf elem
              pure (Value.pointer (some (a.add (i.toNat * __do_lift))))
            else
              if tiny = true then
                unsupported
                  (Unsupported.noEntry "op/indexAddr.an index out of range at an array of length 0 or 1 (ledger 616)")
              else boundsPanic k i (↑len) BoundsCode.index
          | none => boundsPanic k i 0 BoundsCode.index : Sem Value) := fun (base, len, elem) => by
    simp only []
    refine Soft.bind (Soft.underlying' t) fun d => ?_
    cases base with
    | some a => exact Soft.ite' (Soft.bind (Soft.sizeOf' _) fun _ => Soft.pure' _) (Soft.ite' (Soft.unsupported' _) (Soft.boundsPanic' _ _ _ _))
    | none => exact Soft.boundsPanic' _ _ _ _
  split
  · exact Soft.bind (Soft.sureAddr' _) fun _ => Soft.bind (Soft.pure' _) fun x => key x
  · exact Soft.bind (Soft.pure' _) fun x => key x
  · exact Soft.bind (Soft.stuck' _) fun x => key x
theorem Soft.asAddr' (v : Value) : Soft P (asAddr v) := by
  unfold asAddr
  split
  · exact Soft.pure' _
  · exact Soft.runtimePanic' _
  · exact Soft.stuck' _
theorem Soft.slice' (t : TypeId) (x : Value) (lo hi mx : Option Value) : Soft P (Instr.slice t x lo hi mx) := by
  unfold Instr.slice
  refine Soft.bind (Soft.underlying' t) fun d => ?_
  split
  · simp only []
    split
    · exact Soft.bind (Soft.stuck' _) fun _ => Soft.bind (Soft.sliceBounds' _ _ _ _ _ _) fun (a, b, c) => Soft.pure' _
    · exact Soft.bind (Soft.sliceBounds' _ _ _ _ _ _) fun (a, b, c) => Soft.pure' _
  · exact Soft.bind (Soft.sliceBounds' _ _ _ _ _ _) fun (a, b, c) => Soft.bind (Soft.sizeOf' _) fun _ => Soft.pure' _
  · refine Soft.bind (Soft.asAddr' _) fun a => Soft.bind (Soft.underlying' _) fun d => ?_
    split
    · exact Soft.bind (Soft.sliceBounds' _ _ _ _ _ _) fun (a, b, c) => Soft.bind (Soft.sizeOf' _) fun _ => Soft.pure' _
    · exact Soft.stuck' _
  · exact Soft.stuck' _
theorem Soft.sliceAt' (t : TypeId) (x : Value) (lo hi mx : Option Value) : Soft P (Instr.sliceAt t x lo hi mx) := by
  unfold Instr.sliceAt
  refine Soft.bind (Soft.underlying' t) fun d => ?_
  split
  · exact Soft.bind (Soft.sureAddr' _) fun a => Soft.bind (Soft.sliceBounds' _ _ _ _ _ _) fun (a, b, c) => Soft.bind (Soft.sizeOf' _) fun _ => Soft.pure' _
  · exact Soft.slice' _ _ _ _ _
theorem Soft.len' (ts : Array TypeId) (t : TypeId) (vs : Array Value) : Soft P (Builtin.len_ ts t vs) := by
  unfold Builtin.len_
  split
  · refine Soft.bind (Soft.underlying' _) fun d => ?_
    split
    · exact Soft.pure' _
    · exact Soft.pure' _
    · refine Soft.bind (Soft.underlying' _) fun d => ?_
      split
      · exact Soft.pure' _
      · exact Soft.stuck' _
    · exact Soft.pure' _
    · exact Soft.pure' _
    · exact Soft.pure' _
    · refine Soft.bind (Soft.getObj' _) fun d => ?_
      split
      · exact Soft.pure' _
      · exact Soft.stuck' _
    · refine Soft.bind (Soft.getObj' _) fun d => ?_
      split
      · exact Soft.pure' _
      · exact Soft.stuck' _
    · exact Soft.stuck' _
  · exact Soft.stuck' _
theorem Soft.floatToInt' (k : FloatKind) (b : Nat) (d : IntKind) : Soft P (Conv.floatToInt k b d) := by
  unfold Conv.floatToInt
  simp only []
  split
  · exact Soft.ite' (Soft.pure' _) (Soft.bind (Soft.choose' _) fun _ => Soft.pure' _)
  · exact Soft.bind (Soft.choose' _) fun _ => Soft.pure' _
end

section
variable {α β : Type} {P : Program}
theorem Soft.shift' (op : BinOp) (k : IntKind) (x : Int) (k' : IntKind) (y : Int) : Soft P (Op.shift op k x k' y) := by
  unfold Op.shift
  refine Soft.ite' (Soft.runtimePanic' _) ?_
  simp only []
  split <;> first | exact Soft.pure' _ | exact Soft.stuck' _
theorem Soft.intCmp' (op : BinOp) (x y : Int) : Soft P (Op.intCmp op x y) := by
  unfold Op.intCmp
  split <;> first | exact Soft.pure' _ | exact Soft.stuck' _
theorem Soft.intDiv' (op : BinOp) (k : IntKind) (x y : Int) : Soft P (Op.intDiv op k x y) := by
  unfold Op.intDiv
  refine Soft.ite' (Soft.runtimePanic' _) ?_
  split <;> first | exact Soft.pure' _ | exact Soft.stuck' _
theorem Soft.stringOp' (op : BinOp) (x y : ByteArray) : Soft P (Op.stringOp op x y) := by
  unfold Op.stringOp
  simp only []
  split <;> first | exact Soft.pure' _ | exact Soft.stuck' _ | exact Soft.ite' (Soft.unsupported' _) (Soft.pure' _)
theorem Soft.floatCmp' (op : BinOp) (k : FloatKind) (x y : Nat) : Soft P (Op.floatCmp op k x y) := by
  unfold Op.floatCmp
  simp only []
  split <;> first | exact Soft.pure' _ | exact Soft.stuck' _
theorem Soft.floatArith' (op : BinOp) (k : FloatKind) (x y : Nat) : Soft P (Op.floatArith op k x y) := by
  unfold Op.floatArith
  have key : ∀ r : Option Nat, Soft P (match r with
      | some r => pure (Value.float k r)
      | none => do
        let __do_lift ← choose (Question.nanBits k x y)
        pure (Value.float k __do_lift) : Sem Value) := fun r => by
    cases r with
    | some r => exact Soft.pure' _
    | none => exact Soft.bind (Soft.choose' _) fun _ => Soft.pure' _
  simp only []
  split <;> first | exact Soft.bind (Soft.pure' _) key | exact Soft.bind (Soft.stuck' _) key
theorem Soft.twoPlaces' (a b : Addr) : Soft P (Op.twoPlaces a b) := by
  unfold Op.twoPlaces
  refine Soft.bind Soft.program' fun p => ?_
  simp only []
  split
  · exact Soft.bind (Soft.unsupported' _) fun _ => Soft.bind (Soft.byteOf' a) fun _ => Soft.bind (Soft.byteOf' b) fun _ => Soft.pure' _
  · exact Soft.bind (Soft.byteOf' a) fun _ => Soft.bind (Soft.byteOf' b) fun _ => Soft.pure' _
theorem Soft.addrSub' (k : IntKind) (a b : Addr) : Soft P (Op.addrSub k a b) := Soft.bind (Soft.twoPlaces' a b) fun (x, y) => Soft.pure' _
theorem Soft.addrCmp' (op : BinOp) (a b : Addr) : Soft P (Op.addrCmp op a b) := by
  unfold Op.addrCmp
  refine Soft.bind (Soft.twoPlaces' a b) fun (x, y) => ?_
  cases op <;> first | exact Soft.pure' _ | exact Soft.unsupported' _
theorem Soft.addrMod' (k : IntKind) (a : Addr) (n : Int) : Soft P (Op.addrMod k a n) := by
  unfold Op.addrMod
  refine Soft.shape_bind (fun s => ?_) fun w hw x w1 h => by simp at h
  split
  · refine Soft.bind (Soft.typeInfo' _) fun i => ?_
    simp only []
    split
    · exact Soft.bind (Soft.unsupported' _) fun _ => Soft.bind (Soft.byteOf' a) fun _ => Soft.pure' _
    · exact Soft.bind (Soft.byteOf' a) fun _ => Soft.pure' _
  · exact Soft.unsupported' _
theorem Soft.unsafeAdd' (a : Array TypeId) (t : TypeId) (x y : Value) : Soft P (Builtin.unsafeAdd_ a t #[x, y]) := by
  unfold Builtin.unsafeAdd_
  have asInt' : ∀ v, Soft P (asInt v) := fun v => Soft.bind (Soft.asIntOf' v) fun _ => Soft.pure' _
  have last : ∀ (a : Addr) (n : Int), Soft P (do
      let some (e, cells) ← shape a.block | unsupported (.unsafePointer "Add")
      let p ← program
      match cellAtBytes p p.depth e (cells / p.cellsOf e) a.off n with
      | some off => pure (.pointer (some { a with off }))
      | none => unsupported (.unsafePointer "Add") : Sem Value) := fun a n => by
    refine Soft.shape_bind (fun s => ?_) fun w hw x w1 h => by simp at h
    split
    · refine Soft.bind Soft.program' fun p => ?_
      split
      · exact Soft.pure' _
      · exact Soft.unsupported' _
    · exact Soft.unsupported' _
  cases x
  case pointer ptr =>
    refine Soft.bind (asInt' _) fun n => ?_
    simp only []
    split
    · split
      · refine Soft.bind (Soft.viewAt' _) fun o => ?_
        split
        · exact Soft.bind (Soft.unsupported' _) fun _ => Soft.pure' _
        · exact Soft.pure' _
      · exact Soft.unsupported' _
    · split
      · refine Soft.bind (Soft.unsupported' _) fun _ => ?_
        split
        · exact last _ _
        · exact Soft.unsupported' _
      · split
        · exact last _ _
        · exact Soft.unsupported' _
  all_goals exact Soft.stuck' _
theorem Soft.movedNumber' (t : TypeId) (x y : Value) : Soft P (movedNumber t x y) := by
  unfold movedNumber
  refine Soft.bind (Soft.underlying' _) fun d => ?_
  have rest : Soft P (do
      let .pointer (some n) := x | Builtin.unsafeAdd_ #[] t #[x, y]
      let (a, lost) ← behindNumber n
      match ← Builtin.unsafeAdd_ #[] t #[.pointer (some a), y] with
      | .pointer (some b) => asNumber b lost
      | v => pure v : Sem Value) := by
    split
    · refine Soft.bind (Soft.behindNumber' _) fun (a, l) => Soft.bind (Soft.unsafeAdd' _ _ _ _) fun v => ?_
      split
      · exact Soft.asNumber' _ _
      · exact Soft.pure' _
    · exact Soft.unsafeAdd' _ _ _ _
  simp only []
  split
  · exact Soft.bind (Soft.unsupported' _) fun _ => rest
  · exact rest
theorem Soft.movedPointer' (t : TypeId) (x y : Value) : Soft P (movedPointer t x y) := by
  unfold movedPointer
  simp only []
  split
  · refine Soft.bind (Soft.numberAt' _) fun o => ?_
    split
    · exact Soft.bind (Soft.unsupported' _) fun _ => Soft.unsafeAdd' _ _ _ _
    · exact Soft.unsafeAdd' _ _ _ _
  · exact Soft.unsafeAdd' _ _ _ _
end

section
variable {α β : Type} {P : Program}
theorem Soft.floatToFloat' (k : FloatKind) (b : Nat) (d : FloatKind) : Soft P (Conv.floatToFloat k b d) := by
  unfold Conv.floatToFloat
  refine Soft.ite' (Soft.pure' _) ?_
  cases k.decode b
  · exact Soft.ite' (Soft.bind (Soft.choose' _) fun _ => Soft.pure' _) (Soft.pure' _)
  · exact Soft.pure' _
  · exact Soft.bind (Soft.choose' _) fun _ => Soft.pure' _
theorem Soft.cArith (op : BinOp) (k : FloatKind) (x y : Nat) : Soft P (Op.Complex.arith op k x y) := by
  unfold Op.Complex.arith
  refine Soft.bind (Soft.floatArith' _ _ _ _) fun v => ?_
  cases v <;> first | exact Soft.pure' _ | exact Soft.stuck' _
theorem Soft.cCmp (op : BinOp) (k : FloatKind) (x y : Nat) : Soft P (Op.Complex.cmp op k x y) := Soft.bind (Soft.floatCmp' _ _ _ _) fun _ => Soft.asBool' _
theorem Soft.cConv (k : FloatKind) (x : Nat) (d : FloatKind) : Soft P (Op.Complex.conv k x d) := by
  unfold Op.Complex.conv
  refine Soft.ite' (Soft.pure' _) (Soft.bind (Soft.floatToFloat' _ _ _) fun v => ?_)
  cases v <;> first | exact Soft.pure' _ | exact Soft.stuck' _
theorem Soft.cProduct (a b c d : Nat) : Soft P (Op.Complex.product a b c d) := by
  unfold Op.Complex.product
  repeat' first | exact Soft.pure' _ | exact Soft.cArith _ _ _ _ | refine Soft.bind ?_ fun _ => ?_
theorem Soft.cCorrected (s a b c d : Nat) : Soft P (Op.Complex.corrected s a b c d) := by
  unfold Op.Complex.corrected
  repeat' first | exact Soft.pure' _ | exact Soft.cArith _ _ _ _ | refine Soft.bind ?_ fun _ => ?_
theorem Soft.cQuotient (a b c d : Nat) : Soft P (Op.Complex.quotient a b c d) := by
  unfold Op.Complex.quotient
  refine Soft.bind (Soft.cCmp _ _ _ _) fun g => ?_
  have tail : ∀ e f : Nat, Soft P (do
      let zero := (← Op.Complex.cmp .eql .f64 c 0) && (← Op.Complex.cmp .eql .f64 d 0)
      if !(Op.Complex.isNaN e && Op.Complex.isNaN f) then pure (e, f)
      else if zero && (!Op.Complex.isNaN a || !Op.Complex.isNaN b) then
        pure (← Op.Complex.mul (Op.Complex.copysign Op.Complex.inf c) a, ← Op.Complex.mul (Op.Complex.copysign Op.Complex.inf c) b)
      else if (Op.Complex.isInf a || Op.Complex.isInf b) && Op.Complex.isFinite c && Op.Complex.isFinite d then
        Op.Complex.corrected Op.Complex.inf (Op.Complex.inf2one a) (Op.Complex.inf2one b) c d
      else if (Op.Complex.isInf c || Op.Complex.isInf d) && Op.Complex.isFinite a && Op.Complex.isFinite b then
        Op.Complex.corrected 0 a b (Op.Complex.inf2one c) (Op.Complex.inf2one d)
      else pure (e, f) : Sem (Nat × Nat)) := fun e f => by
    repeat' first | exact Soft.pure' _ | exact Soft.cArith _ _ _ _ | exact Soft.cCmp _ _ _ _ | exact Soft.cCorrected _ _ _ _ _ | refine Soft.ite' ?_ ?_ | refine Soft.bind ?_ fun _ => ?_
  simp only []
  split
  · repeat' first | exact Soft.pure' _ | exact Soft.cArith _ _ _ _ | exact tail _ _ | refine Soft.bind ?_ fun _ => ?_
  · repeat' first | exact Soft.pure' _ | exact Soft.cArith _ _ _ _ | exact tail _ _ | refine Soft.bind ?_ fun _ => ?_
theorem Soft.complexOp' (op : BinOp) (k : FloatKind) (a b c d : Nat) : Soft P (Op.complexOp op k a b c d) := by
  have two : Soft P (do
      let (a, b, c, d) := (← Op.Complex.conv k a .f64, ← Op.Complex.conv k b .f64, ← Op.Complex.conv k c .f64, ← Op.Complex.conv k d .f64)
      let (e, f) ← if op == .mul then Op.Complex.product a b c d else Op.Complex.quotient a b c d
      pure (.complex k (← Op.Complex.conv .f64 e k) (← Op.Complex.conv .f64 f k)) : Sem Value) := by
    repeat' first | exact Soft.pure' _ | exact Soft.cConv _ _ _ | exact Soft.cProduct _ _ _ _ | exact Soft.cQuotient _ _ _ _ | refine Soft.ite' ?_ ?_ | refine Soft.bind ?_ fun _ => ?_
  cases op <;> first
    | exact Soft.stuck' _
    | (unfold Op.complexOp; exact two)
    | (unfold Op.complexOp; exact Soft.bind (Soft.cArith _ _ _ _) fun _ => Soft.bind (Soft.cArith _ _ _ _) fun _ => Soft.pure' _)
    | (unfold Op.complexOp; exact Soft.bind (Soft.cCmp _ _ _ _) fun _ => Soft.bind (Soft.cCmp _ _ _ _) fun _ => Soft.pure' _)
theorem Soft.binOp' (op : BinOp) (h1 : op ≠ .eql) (h2 : op ≠ .neq) (t : TypeId) (x y : Value) : Soft P (binOp op t x y) := by
  unfold binOp
  repeat' first
    | exact Soft.pure' _
    | exact Soft.stuck' _
    | exact Soft.unsupported' _
    | exact Soft.shift' _ _ _ _ _
    | exact Soft.intArith' _ _ _ _
    | exact Soft.intDiv' _ _ _ _
    | exact Soft.intBits' _ _ _ _
    | exact Soft.intCmp' _ _ _
    | exact Soft.floatArith' _ _ _ _
    | exact Soft.floatCmp' _ _ _ _
    | exact Soft.complexOp' _ _ _ _ _ _
    | exact Soft.stringOp' _ _ _
    | exact Soft.movedPointer' _ _ _
    | exact Soft.movedNumber' _ _ _
    | exact Soft.addrSub' _ _ _
    | exact Soft.addrCmp' _ _ _
    | exact Soft.addrMod' _ _ _
    | exact Soft.underlying' _
    | exact Soft.behindNumber' _
    | exact absurd rfl h1
    | exact absurd rfl h2
    | split
    | refine Soft.bind ?_ fun _ => ?_
end
end Go.Proofs.Ytilmfkpflecghaa.Reg
