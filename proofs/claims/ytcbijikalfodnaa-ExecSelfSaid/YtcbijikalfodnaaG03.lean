/-
  Layer texts, glued and made small.
-/
import Derived.Test.YtcbijikalfodnaaG02
import Derived.OrdersHeld
set_option linter.unusedVariables false
set_option linter.unusedSimpArgs false
set_option maxRecDepth 100000
set_option maxHeartbeats 200000
namespace Go.Proofs.Ytcbijikalfodnaa.Reg
open Go Go.RowKit
/-! ### Operations that only look -/
def Soft {α : Type} (P : Program) (s : Sem α) : Prop :=
 ∀ w x w1, s.run P w = .ok x w1 → w.drawn ≤ w1.drawn ∧ w.heap.size ≤ w1.heap.size ∧ (w1.drawn = w.drawn → w1.heap.size = w.heap.size → w1 = w ∧ ∀ w', Below w.heap.size w w' → s.run P w' = .ok x w')
section
variable {α β : Type} {P : Program}
theorem Soft.pure' (a : α) : Soft P (Pure.pure a : Sem α) := fun w x w1 h => by
 simp only [Sem.run_pure, Result.ok.injEq] at h; obtain ⟨rfl, rfl⟩ := h; exact ⟨Nat.le_refl _, Nat.le_refl _, fun _ _ => ⟨rfl, fun w' _ => rfl⟩⟩
theorem Soft.never {s : Sem α} (h : ∀ w x w1, s.run P w ≠ .ok x w1) : Soft P s := fun w x w1 h' => absurd h' (h w x w1)
theorem Soft.halt (e : Halt) : Soft P (Sem.halt e : Sem α) := Soft.never fun w x w1 h => by simp at h
theorem Soft.bind {s : Sem α} {f : α → Sem β} (hs : Soft P s) (hf : ∀ a, Soft P (f a)) : Soft P (s >>= f) := fun w x w1 h => by
 rw [Sem.run_bind] at h; cases hr : s.run P w with
 | halt e w2 => rw [hr] at h; simp [Result.andThen] at h
 | ok a w2 =>
   rw [hr] at h; simp only [Result.andThen_ok] at h; obtain ⟨h1, h2, h3⟩ := hs w a w2 hr; obtain ⟨k1, k2, k3⟩ := hf a w2 x w1 h; refine ⟨Nat.le_trans h1 k1, Nat.le_trans h2 k2, fun he hz => ?_⟩; obtain ⟨rfl, h4⟩ := h3 (by omega) (by omega); obtain ⟨rfl, k4⟩ := k3 (by omega) (by omega); exact ⟨rfl, fun w' hb => by rw [Sem.run_bind, h4 w' hb, Result.andThen_ok]; exact k4 w' hb⟩
theorem Soft.never_bind {s : Sem α} {f : α → Sem β} (hf : ∀ a w x w1, (f a).run P w ≠ .ok x w1) : ∀ w x w1, (s >>= f).run P w ≠ .ok x w1 := fun w x w1 h => by
 rw [Sem.run_bind] at h; cases hr : s.run P w with
 | halt e w2 => rw [hr] at h; simp [Result.andThen] at h
 | ok a w2 => rw [hr] at h; simp only [Result.andThen_ok] at h; exact hf _ _ _ _ h
theorem Soft.program' : Soft P program := fun w x w1 h => by
 simp only [run_program, Result.ok.injEq] at h; obtain ⟨rfl, rfl⟩ := h; exact ⟨Nat.le_refl _, Nat.le_refl _, fun _ _ => ⟨rfl, fun w' _ => rfl⟩⟩
theorem Soft.stuck' (s : String) : Soft P (stuck s : Sem α) := Soft.halt _
theorem Soft.unsupported' (s : Unsupported) : Soft P (unsupported s : Sem α) := Soft.halt _
theorem Soft.choose' (q : Question) : Soft P (choose q) := fun w x w1 h => by
 rw [run_choose] at h
 split at h
 ·rename_i hq
  simp only [Result.ok.injEq] at h; obtain ⟨rfl, rfl⟩ := h; exact ⟨Nat.le_refl _, Nat.le_refl _, fun _ _ => ⟨rfl, fun w' _ => by rw [run_choose, if_pos hq]⟩⟩
 ·simp only [Result.ok.injEq] at h
  obtain ⟨rfl, rfl⟩ := h; exact ⟨Nat.le_succ _, Nat.le_refl _, fun he => by simp at he⟩
theorem seen_eq {w w' : World} {a : Addr} {u : TypeId} {k : Addr} {m : Bool} (h : w'.heap[a.block]? = w.heap[a.block]?) : w'.seen P a u k m = w.seen P a u k m := by
 unfold World.seen; rw [h]
theorem seen_some {w : World} {a : Addr} {u : TypeId} {k : Addr} {m : Bool} {x} (h : w.seen P a u k m = .ok x) : a.block < w.heap.size := by
 rcases Nat.lt_or_ge a.block w.heap.size with hl | hl
 ·exact hl
 ·exfalso
  have : w.heap[a.block]? = none := Array.getElem?_eq_none hl; unfold World.seen at h; rw [this] at h
  revert h
  simp only [bind, Except.bind]
  repeat' split
  all_goals simp
theorem Soft.load' (a : Addr) (m : Mode) : Soft P (load a m) := fun w x w1 h => by
 rw [run_load] at h; cases hc : w.cell? a with
 | some v =>
   rw [hc] at h; simp only [Result.ok.injEq] at h; obtain ⟨rfl, rfl⟩ := h; exact ⟨Nat.le_refl _, Nat.le_refl _, fun _ _ => ⟨rfl, fun w' hb => by rw [run_load, hb.cell (World.block_lt_of_cell? _ _ hc), hc]⟩⟩
 | none =>
   rw [hc] at h; simp only at h; cases hf : w.farLoad P a (m == .atomic) with
   | error e => rw [hf] at h; simp at h
   | ok r =>
     rw [hf] at h; simp only [Result.ok.injEq] at h; obtain ⟨rfl, rfl⟩ := h; refine ⟨Nat.le_refl _, Nat.le_refl _, fun _ _ => ⟨rfl, fun w' hb => ?_⟩⟩
     have hlt : a.block < w.heap.size := by
      rcases Nat.lt_or_ge a.block w.heap.size with hl | hl
      ·exact hl
      ·exfalso
       unfold World.farLoad at hf; rw [Array.getElem?_eq_none hl] at hf
       simp at hf
     have hcc : w'.cell? a = none := (hb.cell hlt).trans hc
     have hff : w'.farLoad P a (m == .atomic) = .ok r := by
      rw [← hf]; unfold World.farLoad at hf ⊢; rw [hb.block _ hlt]; cases ho : w.heap[a.block]? with
      | none => rw [ho] at hf; simp at hf
      | some o =>
        rw [ho] at hf; cases o <;> simp only [] at hf ⊢
        case view at_ u =>
         have hs : w'.seen P at_ u a (m == .atomic) = w.seen P at_ u a (m == .atomic) := by
          refine seen_eq (hb.block _ ?_); cases hq : w.seen P at_ u a (m == .atomic) with
          | ok x => exact seen_some hq
          | error e =>
            exfalso
            unfold World.viewLoad at hf; rw [hq] at hf; exact nomatch (show (Except.error (Halt.unsupported (.unsafePointer e)) : Except Halt _) = .ok r from hf)
         unfold World.viewLoad; rw [hs]
        all_goals exact absurd hf (by simp)
     rw [run_load, hcc]; simp only [hff]
end
section
variable {α β : Type} {P : Program}
theorem Soft.typeInfo' (t : TypeId) : Soft P (typeInfo t) := by
 unfold typeInfo; refine Soft.bind Soft.program' fun p => ?_
 split
 ·exact Soft.pure' _
 ·exact Soft.stuck' _
theorem Soft.underlying' (t : TypeId) : Soft P (underlying t) := by
 unfold underlying; refine Soft.bind Soft.program' fun p => ?_
 split
 ·exact Soft.pure' _
 ·exact Soft.stuck' _
theorem Soft.sizeOf' (t : TypeId) : Soft P (sizeOf t) := Soft.bind (Soft.typeInfo' t) fun _ => Soft.pure' _
theorem Soft.isAgg' (t : TypeId) : Soft P (isAgg t) := by
 unfold isAgg; refine Soft.bind (Soft.underlying' t) fun d => ?_
 split <;> exact Soft.pure' _
theorem Soft.loadCellsFrom' (a : Addr) : ∀ (n i : Nat) (acc : Array Value), Soft P (loadCellsFrom a i n acc)
 | 0, i, acc => Soft.pure' _
 | n + 1, i, acc => Soft.bind (Soft.load' _ _) fun v => Soft.loadCellsFrom' a n (i + 1) _
theorem Soft.loadVar' (t : TypeId) (a : Addr) : Soft P (loadVar t a) := by
 unfold loadVar; refine Soft.bind (Soft.isAgg' t) fun b => ?_
 split
 ·exact Soft.bind (Soft.sizeOf' t) fun n => Soft.bind (Soft.loadCellsFrom' a n 0 #[]) fun _ => Soft.pure' _
 ·exact Soft.load' _ _
theorem Soft.sureAddr' (v : Value) : Soft P (Instr.sureAddr v) := by
 unfold Instr.sureAddr
 split
 ·exact Soft.pure' _
 ·exact Soft.stuck' _
theorem Soft.asIntOf' (v : Value) : Soft P (asIntOf v) := by
 unfold asIntOf
 split
 ·exact Soft.pure' _
 ·exact Soft.unsupported' _
 ·exact Soft.stuck' _
theorem Soft.asBool' (v : Value) : Soft P (asBool v) := by
 unfold asBool
 split
 ·exact Soft.pure' _
 ·exact Soft.stuck' _
theorem Soft.asAgg' (v : Value) : Soft P (asAgg v) := by
 unfold asAgg
 split
 ·exact Soft.pure' _
 ·exact Soft.stuck' _
theorem Soft.part' (t : TypeId) (cs : Array Value) (o : Nat) : Soft P (part t cs o) := by
 unfold part; refine Soft.bind (Soft.isAgg' t) fun b => ?_
 split
 ·exact Soft.bind (Soft.sizeOf' t) fun _ => Soft.pure' _
 ·split
  ·exact Soft.pure' _
  ·exact Soft.stuck' _
theorem never_panics (e : RuntimeError) (w : World) (x : α) (w1 : World) : (runtimePanic e : Sem α).run P w ≠ .ok x w1 := by
 unfold runtimePanic; refine Soft.never_bind (fun p => ?_) _ _ _; cases e <;> intro w x w1 h
 all_goals first
  | (simp at h; done)
  | (revert h; exact Soft.never_bind (fun _ => Soft.never_bind fun _ w x w1 h => by simp at h) _ _ _)
  | (revert h; refine Soft.never_bind (fun _ w x w1 h => ?_) _ _ _; simp at h; done)
theorem Soft.runtimePanic' (e : RuntimeError) : Soft P (runtimePanic e : Sem α) := Soft.never (never_panics e)
theorem Soft.boundsPanic' (k : IntKind) (x y : Int) (c : BoundsCode) : Soft P (boundsPanic k x y c : Sem α) := Soft.never fun w v w1 => by
 unfold boundsPanic; simp only []
 split
 ·exact Soft.never_bind (fun _ => never_panics _) _ _ _
 ·exact Soft.never_bind (fun _ => never_panics _) _ _ _
theorem Soft.map' {s : Sem α} (f : α → β) (hs : Soft P s) : Soft P (f <$> s) := fun w x w1 h => by
 rw [Sem.run_map] at h; cases hr : s.run P w with
 | halt e w2 => rw [hr] at h; simp [Result.andThen] at h
 | ok a w2 =>
   rw [hr] at h; simp only [Result.andThen_ok, Result.ok.injEq] at h; obtain ⟨rfl, rfl⟩ := h; obtain ⟨h1, h2, h3⟩ := hs w a w2 hr; exact ⟨h1, h2, fun he hz => ⟨(h3 he hz).1, fun w' hb => by rw [Sem.run_map, (h3 he hz).2 w' hb, Result.andThen_ok]⟩⟩
theorem Soft.sliceBound' (x : Value) (y : Nat) (c : BoundsCode) : Soft P (Instr.sliceBound x y c) := by
 unfold Instr.sliceBound; refine Soft.bind (Soft.asIntOf' x) fun (k, i) => ?_
 by_cases h : 0 ≤ i ∧ i ≤ (y : Int)
 ·simp only [h, and_self, if_true]
  exact Soft.pure' _
 ·simp only [h, if_false]
  exact Soft.boundsPanic' _ _ _ _
theorem Soft.sliceBounds' (b : Bool) (l c : Nat) (lo hi mx : Option Value) : Soft P (Instr.sliceBounds b l c lo hi mx) := by
 unfold Instr.sliceBounds; cases lo <;> cases hi <;> cases mx <;> simp only [pure_bind]
 all_goals repeat first
  | exact Soft.pure' _
  | exact Soft.stuck' _
  | exact Soft.sliceBound' _ _ _
  | refine Soft.bind ?_ fun _ => ?_
theorem Soft.intArith' (op : BinOp) (k : IntKind) (x y : Int) : Soft P (Op.intArith op k x y) := by
 unfold Op.intArith
 split <;> first | exact Soft.pure' _ | exact Soft.stuck' _
theorem Soft.intBits' (op : BinOp) (k : IntKind) (x y : Int) : Soft P (Op.intBits op k x y) := by
 unfold Op.intBits; simp only []
 split <;> first | exact Soft.pure' _ | exact Soft.stuck' _
theorem Soft.unary' (op : UnOp) (x : Value) : Soft P (Op.unary op x) := by
 unfold Op.unary
 split <;> first | exact Soft.pure' _ | exact Soft.stuck' _ | exact Soft.unsupported' _ | exact Soft.intArith' _ _ _ _ | exact Soft.intBits' _ _ _ _
end
section
variable {α β : Type} {P : Program}
theorem Soft.newObj' (o : Obj) : Soft P (newObj o) := fun w x w1 h => by
 simp only [run_newObj, Result.ok.injEq] at h; obtain ⟨-, rfl⟩ := h; exact ⟨Nat.le_refl _, by simp, fun _ hz => by simp at hz⟩
theorem Soft.shape_bind {r : Nat} {f : Option (TypeId × Nat) → Sem β} (hf : ∀ s, Soft P (f s)) (hn : ∀ w, w.heap[r]? = none → ∀ x w1, (f none).run P w ≠ .ok x w1) : Soft P (shape r >>= f) := fun w x w1 h => by
 rw [Sem.run_bind, run_shape, Result.andThen_ok] at h; obtain ⟨h1, h2, h3⟩ := hf _ w x w1 h; refine ⟨h1, h2, fun he hz => ?_⟩; obtain ⟨rfl, h4⟩ := h3 he hz; refine ⟨rfl, fun w' hb => ?_⟩; rw [Sem.run_bind, run_shape, Result.andThen_ok]
 have : w'.shape? r = w1.shape? r := by
  rcases Nat.lt_or_ge r w1.heap.size with hl | hl
  ·unfold World.shape?
   rw [hb.block r hl]
  ·exfalso
   have hno : w1.heap[r]? = none := Array.getElem?_eq_none hl; have hs : w1.shape? r = none := by unfold World.shape?; rw [hno]
   rw [hs] at h; exact hn w1 hno _ _ h
 rw [this]; exact h4 w' hb
theorem getObj_none {f : Obj → Sem β} {r : Nat} {w : World} (h : w.heap[r]? = none) (x : β) (w1 : World) : (getObj r >>= f).run P w ≠ .ok x w1 := fun h' => by
 have : (getObj r >>= f) = Sem.getObj r fun o => (Sem.pure o).bind f := rfl
 rw [this] at h'; simp only [Sem.run, h] at h'; cases h'
theorem Soft.getObj' (r : Nat) : Soft P (getObj r) := fun w x w1 h => by
 have hr : (getObj r).run P w = match w.heap[r]? with
  | some (.cells ..) => .halt (.stuck "getObj: a row of cells") w
  | some o => .ok o w
  | none => .halt (.stuck "getObj: no such block") w := by
  cases hw : w.heap[r]? with
  | none => simp [getObj, Sem.run, hw]
  | some o => cases o <;> simp [getObj, Sem.run, hw]
 rw [hr] at h; cases ho : w.heap[r]? with
 | none => rw [ho] at h; cases h
 | some o =>
   have hlt : r < w.heap.size := (Array.getElem?_eq_some_iff.1 ho).1; rw [ho] at h; cases o <;> simp only [reduceCtorEq, Result.ok.injEq] at h
   all_goals
    obtain ⟨rfl, rfl⟩ := h; exact ⟨Nat.le_refl _, Nat.le_refl _, fun _ _ => ⟨rfl, fun w' hb => by simp [getObj, Sem.run, (hb.block r hlt).trans ho]⟩⟩
theorem Soft.viewAt' (r : Nat) : Soft P (viewAt r) := by
 unfold viewAt; refine Soft.shape_bind (fun s => ?_) fun w hw x w1 => ?_
 ·split
  ·exact Soft.pure' _
  ·refine Soft.bind (Soft.getObj' r) fun o => ?_
   split <;> exact Soft.pure' _
 ·exact getObj_none hw x w1
theorem Soft.numberAt' (r : Nat) : Soft P (numberAt r) := by
 unfold numberAt; refine Soft.shape_bind (fun s => ?_) fun w hw x w1 => ?_
 ·split
  ·exact Soft.pure' _
  ·refine Soft.bind (Soft.getObj' r) fun o => ?_
   split <;> exact Soft.pure' _
 ·exact getObj_none hw x w1
theorem Soft.noView' (a : Addr) : Soft P (noView a) := by
 unfold noView; refine Soft.bind (Soft.viewAt' _) fun o => ?_
 split
 ·exact Soft.unsupported' _
 ·exact Soft.pure' _
theorem Soft.byteOf' (a : Addr) : Soft P (byteOf a) := by
 unfold byteOf
 split
 ·exact Soft.pure' _
 ·refine Soft.bind Soft.program' fun p => Soft.bind (Soft.noView' a) fun _ => Soft.shape_bind (fun s => ?_) fun w hw x w1 h => by simp at h
  split
  ·simp only []
   split
   ·exact Soft.pure' _
   ·split
    ·exact Soft.pure' _
    ·exact Soft.stuck' _
  ·exact Soft.stuck' _
theorem Soft.behindNumber' (a : Addr) : Soft P (behindNumber a) := Soft.bind (Soft.numberAt' _) fun _ => Soft.pure' _
theorem Soft.asNumber' (a : Addr) (l : Bool) : Soft P (asNumber a l) := Soft.bind (Soft.newObj' _) fun _ => Soft.pure' _
theorem Soft.partAt' (a : Addr) (c b : Nat) : Soft P (partAt a c b) := by
 unfold partAt; exact Soft.bind (Soft.byteOf' a) fun _ => Soft.bind (Soft.byteOf' _) fun _ => Soft.pure' _
theorem Soft.fieldPlace' (a : Addr) (f : Field) : Soft P (fieldPlace a f) := by
 unfold fieldPlace; refine Soft.bind (Soft.sizeOf' _) fun n => ?_
 split
 ·exact Soft.partAt' _ _ _
 ·exact Soft.pure' _
end
section
variable {α β : Type} {P : Program}
theorem Soft.ite' {c : Prop} [Decidable c] {x y : Sem α} (hx : Soft P x) (hy : Soft P y) : Soft P (if c then x else y) := by
 by_cases h : c
 ·rw [if_pos h]; exact hx
 ·rw [if_neg h]; exact hy
theorem Soft.loadAt' (t : TypeId) (v : Value) : Soft P (Instr.loadAt t v) := Soft.bind (Soft.sureAddr' v) fun a => Soft.loadVar' t a
theorem Soft.fieldAt' (s : TypeId) (v : Value) (f : Nat) : Soft P (Instr.fieldAt s v f) := by
 unfold Instr.fieldAt; refine Soft.bind (Soft.underlying' s) fun d => ?_
 split
 ·split
  ·exact Soft.bind (Soft.sureAddr' v) fun a => Soft.bind (Soft.fieldPlace' a _) fun _ => Soft.pure' _
  ·exact Soft.stuck' _
 ·exact Soft.stuck' _
theorem Soft.field' (s : TypeId) (v : Value) (f : Nat) : Soft P (Instr.field s v f) := by
 unfold Instr.field; refine Soft.bind (Soft.underlying' s) fun d => ?_
 split
 ·split
  ·exact Soft.bind (Soft.asAgg' v) fun a => Soft.part' _ _ _
  ·exact Soft.stuck' _
 ·exact Soft.stuck' _
theorem Soft.extract' (v : Value) (i : Nat) : Soft P (Instr.extract v i) := by
 unfold Instr.extract
 split
 ·split
  ·exact Soft.pure' _
  ·exact Soft.stuck' _
 ·exact Soft.stuck' _
theorem Soft.index' (t : TypeId) (x i : Value) : Soft P (Instr.index t x i) := by
 unfold Instr.index; refine Soft.bind (Soft.asIntOf' i) fun (k, i) => Soft.bind (Soft.underlying' t) fun d => ?_
 split
 ·exact Soft.ite' (Soft.bind (Soft.sizeOf' _) fun _ => Soft.part' _ _ _) (Soft.boundsPanic' _ _ _ _)
 ·split
  ·exact Soft.pure' _
  ·exact Soft.boundsPanic' _ _ _ _
 ·exact Soft.stuck' _
theorem Soft.indexAt' (t : TypeId) (x i : Value) : Soft P (Instr.indexAt t x i) := by
 unfold Instr.indexAt; refine Soft.bind (Soft.asIntOf' i) fun (k, i) => Soft.bind (Soft.underlying' t) fun d => ?_
 simp only []
 have key : ∀ x : Option Addr × Nat × TypeId, Soft P (match x with
  | (base, len, elem) => do
    let __do_lift ← underlying t
    have tiny : Bool := decide (len ≤ 1) && match __do_lift with
     | TypeDesc.array len elem => true
     | x => false
    match base with
     | some a =>
       if 0 ≤ i ∧ i < ↑len then do
        let __do_lift ← sizeOf elem
        pure (Value.pointer (some (a.add (i.toNat * __do_lift))))
       else
        if tiny = true then
         unsupported
          (Unsupported.noEntry "op/indexAddr.an index out of range at an array of length 0 or 1 (ledger 616)")
        else boundsPanic k i (↑len) BoundsCode.index
     | none => boundsPanic k i 0 BoundsCode.index : Sem Value) := fun (base, len, elem) => by
  simp only []; refine Soft.bind (Soft.underlying' t) fun d => ?_
  cases base with
  | some a => exact Soft.ite' (Soft.bind (Soft.sizeOf' _) fun _ => Soft.pure' _) (Soft.ite' (Soft.unsupported' _) (Soft.boundsPanic' _ _ _ _))
  | none => exact Soft.boundsPanic' _ _ _ _
 split
 ·exact Soft.bind (Soft.sureAddr' _) fun _ => Soft.bind (Soft.pure' _) fun x => key x
 ·exact Soft.bind (Soft.pure' _) fun x => key x
 ·exact Soft.bind (Soft.stuck' _) fun x => key x
theorem Soft.asAddr' (v : Value) : Soft P (asAddr v) := by
 unfold asAddr
 split
 ·exact Soft.pure' _
 ·exact Soft.runtimePanic' _
 ·exact Soft.stuck' _
theorem Soft.slice' (t : TypeId) (x : Value) (lo hi mx : Option Value) : Soft P (Instr.slice t x lo hi mx) := by
 unfold Instr.slice; refine Soft.bind (Soft.underlying' t) fun d => ?_
 split
 ·simp only []
  split
  ·exact Soft.bind (Soft.stuck' _) fun _ => Soft.bind (Soft.sliceBounds' _ _ _ _ _ _) fun (a, b, c) => Soft.pure' _
  ·exact Soft.bind (Soft.sliceBounds' _ _ _ _ _ _) fun (a, b, c) => Soft.pure' _
 ·exact Soft.bind (Soft.sliceBounds' _ _ _ _ _ _) fun (a, b, c) => Soft.bind (Soft.sizeOf' _) fun _ => Soft.pure' _
 ·refine Soft.bind (Soft.asAddr' _) fun a => Soft.bind (Soft.underlying' _) fun d => ?_
  split
  ·exact Soft.bind (Soft.sliceBounds' _ _ _ _ _ _) fun (a, b, c) => Soft.bind (Soft.sizeOf' _) fun _ => Soft.pure' _
  ·exact Soft.stuck' _
 ·exact Soft.stuck' _
theorem Soft.sliceAt' (t : TypeId) (x : Value) (lo hi mx : Option Value) : Soft P (Instr.sliceAt t x lo hi mx) := by
 unfold Instr.sliceAt; refine Soft.bind (Soft.underlying' t) fun d => ?_
 split
 ·exact Soft.bind (Soft.sureAddr' _) fun a => Soft.bind (Soft.sliceBounds' _ _ _ _ _ _) fun (a, b, c) => Soft.bind (Soft.sizeOf' _) fun _ => Soft.pure' _
 ·exact Soft.slice' _ _ _ _ _
theorem Soft.len' (ts : Array TypeId) (t : TypeId) (vs : Array Value) : Soft P (Builtin.len_ ts t vs) := by
 unfold Builtin.len_
 split
 ·refine Soft.bind (Soft.underlying' _) fun d => ?_
  split
  ·exact Soft.pure' _
  ·exact Soft.pure' _
  ·refine Soft.bind (Soft.underlying' _) fun d => ?_
   split
   ·exact Soft.pure' _
   ·exact Soft.stuck' _
  ·exact Soft.pure' _
  ·exact Soft.pure' _
  ·exact Soft.pure' _
  ·refine Soft.bind (Soft.getObj' _) fun d => ?_
   split
   ·exact Soft.pure' _
   ·exact Soft.stuck' _
  ·refine Soft.bind (Soft.getObj' _) fun d => ?_
   split
   ·exact Soft.pure' _
   ·exact Soft.stuck' _
  ·exact Soft.stuck' _
 ·exact Soft.stuck' _
theorem Soft.floatToInt' (k : FloatKind) (b : Nat) (d : IntKind) : Soft P (Conv.floatToInt k b d) := by
 unfold Conv.floatToInt; simp only []
 split
 ·exact Soft.ite' (Soft.pure' _) (Soft.bind (Soft.choose' _) fun _ => Soft.pure' _)
 ·exact Soft.bind (Soft.choose' _) fun _ => Soft.pure' _
end
section
variable {α β : Type} {P : Program}
theorem Soft.shift' (op : BinOp) (k : IntKind) (x : Int) (k' : IntKind) (y : Int) : Soft P (Op.shift op k x k' y) := by
 unfold Op.shift; refine Soft.ite' (Soft.runtimePanic' _) ?_; simp only []
 split <;> first | exact Soft.pure' _ | exact Soft.stuck' _
theorem Soft.intCmp' (op : BinOp) (x y : Int) : Soft P (Op.intCmp op x y) := by
 unfold Op.intCmp
 split <;> first | exact Soft.pure' _ | exact Soft.stuck' _
theorem Soft.intDiv' (op : BinOp) (k : IntKind) (x y : Int) : Soft P (Op.intDiv op k x y) := by
 unfold Op.intDiv; refine Soft.ite' (Soft.runtimePanic' _) ?_
 split <;> first | exact Soft.pure' _ | exact Soft.stuck' _
theorem Soft.stringOp' (op : BinOp) (x y : ByteArray) : Soft P (Op.stringOp op x y) := by
 unfold Op.stringOp; simp only []
 split <;> first | exact Soft.pure' _ | exact Soft.stuck' _ | exact Soft.ite' (Soft.unsupported' _) (Soft.pure' _)
theorem Soft.floatCmp' (op : BinOp) (k : FloatKind) (x y : Nat) : Soft P (Op.floatCmp op k x y) := by
 unfold Op.floatCmp; simp only []
 split <;> first | exact Soft.pure' _ | exact Soft.stuck' _
theorem Soft.floatArith' (op : BinOp) (k : FloatKind) (x y : Nat) : Soft P (Op.floatArith op k x y) := by
 unfold Op.floatArith
 have key : ∀ r : Option Nat, Soft P (match r with
  | some r => pure (Value.float k r)
  | none => do
    let __do_lift ← choose (Question.nanBits k x y)
    pure (Value.float k __do_lift) : Sem Value) := fun r => by
  cases r with
  | some r => exact Soft.pure' _
  | none => exact Soft.bind (Soft.choose' _) fun _ => Soft.pure' _
 simp only []
 split <;> first | exact Soft.bind (Soft.pure' _) key | exact Soft.bind (Soft.stuck' _) key
theorem Soft.twoPlaces' (a b : Addr) : Soft P (Op.twoPlaces a b) := by
 unfold Op.twoPlaces; refine Soft.bind Soft.program' fun p => ?_
 simp only []
 split
 ·exact Soft.bind (Soft.unsupported' _) fun _ => Soft.bind (Soft.byteOf' a) fun _ => Soft.bind (Soft.byteOf' b) fun _ => Soft.pure' _
 ·exact Soft.bind (Soft.byteOf' a) fun _ => Soft.bind (Soft.byteOf' b) fun _ => Soft.pure' _
theorem Soft.addrSub' (k : IntKind) (a b : Addr) : Soft P (Op.addrSub k a b) := Soft.bind (Soft.twoPlaces' a b) fun (x, y) => Soft.pure' _
theorem Soft.addrCmp' (op : BinOp) (a b : Addr) : Soft P (Op.addrCmp op a b) := by
 unfold Op.addrCmp; refine Soft.bind (Soft.twoPlaces' a b) fun (x, y) => ?_
 cases op <;> first | exact Soft.pure' _ | exact Soft.unsupported' _
theorem Soft.addrMod' (k : IntKind) (a : Addr) (n : Int) : Soft P (Op.addrMod k a n) := by
 unfold Op.addrMod; refine Soft.shape_bind (fun s => ?_) fun w hw x w1 h => by simp at h
 split
 ·refine Soft.bind (Soft.typeInfo' _) fun i => ?_
  simp only []
  split
  ·exact Soft.bind (Soft.unsupported' _) fun _ => Soft.bind (Soft.byteOf' a) fun _ => Soft.pure' _
  ·exact Soft.bind (Soft.byteOf' a) fun _ => Soft.pure' _
 ·exact Soft.unsupported' _
theorem Soft.unsafeAdd' (a : Array TypeId) (t : TypeId) (x y : Value) : Soft P (Builtin.unsafeAdd_ a t #[x, y]) := by
 unfold Builtin.unsafeAdd_; have asInt' : ∀ v, Soft P (asInt v) := fun v => Soft.bind (Soft.asIntOf' v) fun _ => Soft.pure' _
 have last : ∀ (a : Addr) (n : Int), Soft P (do
  let some (e, cells) ← shape a.block | unsupported (.unsafePointer "Add")
  let p ← program
  match cellAtBytes p p.depth e (cells / p.cellsOf e) a.off n with
  | some off => pure (.pointer (some { a with off }))
  | none => unsupported (.unsafePointer "Add") : Sem Value) := fun a n => by
  refine Soft.shape_bind (fun s => ?_) fun w hw x w1 h => by simp at h
  split
  ·refine Soft.bind Soft.program' fun p => ?_
   split
   ·exact Soft.pure' _
   ·exact Soft.unsupported' _
  ·exact Soft.unsupported' _
 cases x
 case pointer ptr =>
  refine Soft.bind (asInt' _) fun n => ?_
  simp only []
  split
  ·split
   ·refine Soft.bind (Soft.viewAt' _) fun o => ?_
    split
    ·exact Soft.bind (Soft.unsupported' _) fun _ => Soft.pure' _
    ·exact Soft.pure' _
   ·exact Soft.unsupported' _
  ·split
   ·refine Soft.bind (Soft.unsupported' _) fun _ => ?_
    split
    ·exact last _ _
    ·exact Soft.unsupported' _
   ·split
    ·exact last _ _
    ·exact Soft.unsupported' _
 all_goals exact Soft.stuck' _
theorem Soft.movedNumber' (t : TypeId) (x y : Value) : Soft P (movedNumber t x y) := by
 unfold movedNumber; refine Soft.bind (Soft.underlying' _) fun d => ?_
 have rest : Soft P (do
  let .pointer (some n) := x | Builtin.unsafeAdd_ #[] t #[x, y]
  let (a, lost) ← behindNumber n
  match ← Builtin.unsafeAdd_ #[] t #[.pointer (some a), y] with
  | .pointer (some b) => asNumber b lost
  | v => pure v : Sem Value) := by
  split
  ·refine Soft.bind (Soft.behindNumber' _) fun (a, l) => Soft.bind (Soft.unsafeAdd' _ _ _ _) fun v => ?_
   split
   ·exact Soft.asNumber' _ _
   ·exact Soft.pure' _
  ·exact Soft.unsafeAdd' _ _ _ _
 simp only []
 split
 ·exact Soft.bind (Soft.unsupported' _) fun _ => rest
 ·exact rest
theorem Soft.movedPointer' (t : TypeId) (x y : Value) : Soft P (movedPointer t x y) := by
 unfold movedPointer; simp only []
 split
 ·refine Soft.bind (Soft.numberAt' _) fun o => ?_
  split
  ·exact Soft.bind (Soft.unsupported' _) fun _ => Soft.unsafeAdd' _ _ _ _
  ·exact Soft.unsafeAdd' _ _ _ _
 ·exact Soft.unsafeAdd' _ _ _ _
end
section
variable {α β : Type} {P : Program}
theorem Soft.floatToFloat' (k : FloatKind) (b : Nat) (d : FloatKind) : Soft P (Conv.floatToFloat k b d) := by
 unfold Conv.floatToFloat; refine Soft.ite' (Soft.pure' _) ?_; cases k.decode b
 ·exact Soft.ite' (Soft.bind (Soft.choose' _) fun _ => Soft.pure' _) (Soft.pure' _)
 ·exact Soft.pure' _
 ·exact Soft.bind (Soft.choose' _) fun _ => Soft.pure' _
theorem Soft.cArith (op : BinOp) (k : FloatKind) (x y : Nat) : Soft P (Op.Complex.arith op k x y) := by
 unfold Op.Complex.arith; refine Soft.bind (Soft.floatArith' _ _ _ _) fun v => ?_
 cases v <;> first | exact Soft.pure' _ | exact Soft.stuck' _
theorem Soft.cCmp (op : BinOp) (k : FloatKind) (x y : Nat) : Soft P (Op.Complex.cmp op k x y) := Soft.bind (Soft.floatCmp' _ _ _ _) fun _ => Soft.asBool' _
theorem Soft.cConv (k : FloatKind) (x : Nat) (d : FloatKind) : Soft P (Op.Complex.conv k x d) := by
 unfold Op.Complex.conv; refine Soft.ite' (Soft.pure' _) (Soft.bind (Soft.floatToFloat' _ _ _) fun v => ?_); cases v <;> first | exact Soft.pure' _ | exact Soft.stuck' _
theorem Soft.cProduct (a b c d : Nat) : Soft P (Op.Complex.product a b c d) := by
 unfold Op.Complex.product
 repeat' first | exact Soft.pure' _ | exact Soft.cArith _ _ _ _ | refine Soft.bind ?_ fun _ => ?_
theorem Soft.cCorrected (s a b c d : Nat) : Soft P (Op.Complex.corrected s a b c d) := by
 unfold Op.Complex.corrected
 repeat' first | exact Soft.pure' _ | exact Soft.cArith _ _ _ _ | refine Soft.bind ?_ fun _ => ?_
theorem Soft.cQuotient (a b c d : Nat) : Soft P (Op.Complex.quotient a b c d) := by
 unfold Op.Complex.quotient; refine Soft.bind (Soft.cCmp _ _ _ _) fun g => ?_
 have tail : ∀ e f : Nat, Soft P (do
  let zero := (← Op.Complex.cmp .eql .f64 c 0) && (← Op.Complex.cmp .eql .f64 d 0)
  if !(Op.Complex.isNaN e && Op.Complex.isNaN f) then pure (e, f)
  else if zero && (!Op.Complex.isNaN a || !Op.Complex.isNaN b) then
   pure (← Op.Complex.mul (Op.Complex.copysign Op.Complex.inf c) a, ← Op.Complex.mul (Op.Complex.copysign Op.Complex.inf c) b)
  else if (Op.Complex.isInf a || Op.Complex.isInf b) && Op.Complex.isFinite c && Op.Complex.isFinite d then
   Op.Complex.corrected Op.Complex.inf (Op.Complex.inf2one a) (Op.Complex.inf2one b) c d
  else if (Op.Complex.isInf c || Op.Complex.isInf d) && Op.Complex.isFinite a && Op.Complex.isFinite b then
   Op.Complex.corrected 0 a b (Op.Complex.inf2one c) (Op.Complex.inf2one d)
  else pure (e, f) : Sem (Nat × Nat)) := fun e f => by
  repeat' first | exact Soft.pure' _ | exact Soft.cArith _ _ _ _ | exact Soft.cCmp _ _ _ _ | exact Soft.cCorrected _ _ _ _ _ | refine Soft.ite' ?_ ?_ | refine Soft.bind ?_ fun _ => ?_
 simp only []
 split
 ·repeat' first | exact Soft.pure' _ | exact Soft.cArith _ _ _ _ | exact tail _ _ | refine Soft.bind ?_ fun _ => ?_
 ·repeat' first | exact Soft.pure' _ | exact Soft.cArith _ _ _ _ | exact tail _ _ | refine Soft.bind ?_ fun _ => ?_
theorem Soft.complexOp' (op : BinOp) (k : FloatKind) (a b c d : Nat) : Soft P (Op.complexOp op k a b c d) := by
 have two : Soft P (do
  let (a, b, c, d) := (← Op.Complex.conv k a .f64, ← Op.Complex.conv k b .f64, ← Op.Complex.conv k c .f64, ← Op.Complex.conv k d .f64)
  let (e, f) ← if op == .mul then Op.Complex.product a b c d else Op.Complex.quotient a b c d
  pure (.complex k (← Op.Complex.conv .f64 e k) (← Op.Complex.conv .f64 f k)) : Sem Value) := by
  repeat' first | exact Soft.pure' _ | exact Soft.cConv _ _ _ | exact Soft.cProduct _ _ _ _ | exact Soft.cQuotient _ _ _ _ | refine Soft.ite' ?_ ?_ | refine Soft.bind ?_ fun _ => ?_
 cases op <;> first
  | exact Soft.stuck' _
  | (unfold Op.complexOp; exact two)
  | (unfold Op.complexOp; exact Soft.bind (Soft.cArith _ _ _ _) fun _ => Soft.bind (Soft.cArith _ _ _ _) fun _ => Soft.pure' _)
  | (unfold Op.complexOp; exact Soft.bind (Soft.cCmp _ _ _ _) fun _ => Soft.bind (Soft.cCmp _ _ _ _) fun _ => Soft.pure' _)
theorem Soft.binOp' (op : BinOp) (h1 : op ≠ .eql) (h2 : op ≠ .neq) (t : TypeId) (x y : Value) : Soft P (binOp op t x y) := by
 unfold binOp
 repeat' first
  | exact Soft.pure' _
  | exact Soft.stuck' _
  | exact Soft.unsupported' _
  | exact Soft.shift' _ _ _ _ _
  | exact Soft.intArith' _ _ _ _
  | exact Soft.intDiv' _ _ _ _
  | exact Soft.intBits' _ _ _ _
  | exact Soft.intCmp' _ _ _
  | exact Soft.floatArith' _ _ _ _
  | exact Soft.floatCmp' _ _ _ _
  | exact Soft.complexOp' _ _ _ _ _ _
  | exact Soft.stringOp' _ _ _
  | exact Soft.movedPointer' _ _ _
  | exact Soft.movedNumber' _ _ _
  | exact Soft.addrSub' _ _ _
  | exact Soft.addrCmp' _ _ _
  | exact Soft.addrMod' _ _ _
  | exact Soft.underlying' _
  | exact Soft.behindNumber' _
  | exact absurd rfl h1
  | exact absurd rfl h2
  | split
  | refine Soft.bind ?_ fun _ => ?_
end
section
variable {P : Program}
def plainT (P : Program) (t : TypeId) : Bool := match P.underlying t with
 | some .bool | some (.int _) | some .string => true
 | _ => false
def softB (P : Program) (o : Oper) : Bool := match o.op with
 | .move _ | .assign _ | .pick _ _ _ | .load _ _ | .unOp _ _ _ | .field _ _ _ | .index _ _ _ | .extract _ _ | .indexAddr _ _ _ | .slice _ _ _ _ _ | .fieldAddr _ _ _ | .build _ _ | .makeFunc _ _ _ | .makeInterface _ _ => true
 | .lookup t _ _ _ => match P.underlying t with
   | some (.map k _) => plainT P k
   | _ => false
 | .binOp op t _ _ _ => match op with
   | .eql | .neq => plainT P t && !P.eqGuardType P.depth t
   | _ => true
 | .convert a b _ => match P.underlying a, P.underlying b with
   | some (.int _), some (.int _) => true
   | _, _ => false
 | .call c => match c.callee with
   | .builtin .len => true
   | _ => false
 | _ => false
theorem softP_underlying {β : Type} {t : TypeId} {d : TypeDesc} {f : TypeDesc → Sem β} (h : P.underlying t = some d) (hf : Soft P (f d)) : Soft P (underlying t >>= f) := fun w x w1 hr => by
 rw [Sem.run_bind, run_underlying h, Result.andThen_ok] at hr; obtain ⟨h1, h2, h3⟩ := hf w x w1 hr; exact ⟨h1, h2, fun e z => ⟨(h3 e z).1, fun w' hb => by rw [Sem.run_bind, run_underlying h, Result.andThen_ok]; exact (h3 e z).2 w' hb⟩⟩
theorem Soft.equalPlain (d : Nat) (t : TypeId) (h : plainT P t = true) (x y : Value) : Soft P (Op.equalIn (d + 1) t x y) := by
 unfold plainT at h; unfold Op.equalIn; cases hu : P.underlying t with
 | none => rw [hu] at h; cases h
 | some u =>
   rw [hu] at h; cases u <;> simp only [Bool.false_eq_true] at h
   all_goals refine softP_underlying hu ?_
   all_goals repeat' first
    | contradiction
    | exact Soft.pure' _
    | exact Soft.stuck' _
    | exact Soft.unsupported' _
    | exact Soft.behindNumber' _
    | exact Soft.program'
    | exact Soft.byteOf' _
    | exact Soft.typeInfo' _
    | split
    | refine Soft.bind ?_ fun _ => ?_
theorem Soft.eqGuard' (op : BinOp) (t : TypeId) (h : plainT P t = true) (hd : P.eqGuardType P.depth t = false) (x y : Operand) (a b : Value) : Soft P (eqGuard op t x y a b) := by
 have hg : ∀ a b, Soft P (Op.eqGuardIn Op.maxDepth t a b) := fun a b => by
  unfold plainT at h; unfold Op.maxDepth Op.eqGuardIn; cases hu : P.underlying t with
  | none => rw [hu] at h; cases h
  | some u =>
    rw [hu] at h; cases u <;> simp only [Bool.false_eq_true] at h
    all_goals refine softP_underlying hu ?_
    all_goals split <;> first
     | contradiction
     | exact Soft.pure' _
 have hp : ∀ (f : Program → Sem Unit), Soft P (f P) → Soft P (program >>= f) := fun f hf w x w1 hr => by
  rw [Sem.run_bind, run_program, Result.andThen_ok] at hr; obtain ⟨h1, h2, h3⟩ := hf w x w1 hr; exact ⟨h1, h2, fun e z => ⟨(h3 e z).1, fun w' hb => by rw [Sem.run_bind, run_program, Result.andThen_ok]; exact (h3 e z).2 w' hb⟩⟩
 unfold eqGuard
 have key : Soft P (match a, b with
  | .nilIface, .nilIface =>
    if (x matches .const _) || (y matches .const _) then return
    else do if ← Op.eqGuardIn Op.maxDepth t a b then unsupported (.noEntry "binop/eql: two nil values of an interface type with methods, neither of them the literal nil")
  | .agg _, .agg _ => do
    if !(← program).eqGuardType (← program).depth t then return
    if ← Op.eqGuardIn Op.maxDepth t a b then unsupported (.noEntry "binop/eql: two nil values of an interface type with methods, in a part of a struct or an array")
  | _, _ => pure () : Sem Unit) := by
  split
  ·refine Soft.ite' (Soft.pure' _) (Soft.bind (hg _ _) fun b => Soft.ite' (Soft.unsupported' _) (Soft.pure' _))
  ·refine hp _ (hp _ ?_)
   rw [hd]; exact Soft.pure' _
  ·exact Soft.pure' _
 cases op <;> first
  | exact Soft.pure' _
  | exact key
theorem Soft.binOpEq (op : BinOp) (t : TypeId) (h : plainT P t = true) (x y : Value) : Soft P (binOp op t x y) := by
 by_cases h1 : op = .eql
 ·subst h1
  unfold binOp
  repeat' first
   | contradiction
   | exact Soft.pure' _
   | exact Soft.stuck' _
   | exact Soft.unsupported' _
   | exact Soft.intCmp' _ _ _
   | exact Soft.floatCmp' _ _ _ _
   | exact Soft.complexOp' _ _ _ _ _ _
   | exact Soft.stringOp' _ _ _
   | exact Soft.equalPlain 9999 t h _ _
   | split
   | refine Soft.bind ?_ fun _ => ?_
 by_cases h2 : op = .neq
 ·subst h2
  unfold binOp
  repeat' first
   | contradiction
   | exact Soft.pure' _
   | exact Soft.stuck' _
   | exact Soft.unsupported' _
   | exact Soft.intCmp' _ _ _
   | exact Soft.floatCmp' _ _ _ _
   | exact Soft.complexOp' _ _ _ _ _ _
   | exact Soft.stringOp' _ _ _
   | exact Soft.equalPlain 9999 t h _ _
   | split
   | refine Soft.bind ?_ fun _ => ?_
 ·exact Soft.binOp' op h1 h2 t x y
theorem Soft.convert' (a b : TypeId) (k l : IntKind) (ha : P.underlying a = some (.int k)) (hb : P.underlying b = some (.int l)) (x : Value) : Soft P (convert a b x) := by
 unfold convert; refine softP_underlying ha (softP_underlying hb ?_)
 split <;> first
  | contradiction
  | exact Soft.pure' _
  | exact Soft.unsupported' _
  | exact Soft.floatToInt' _ _ _
theorem Soft.zeroValue' (t : TypeId) : Soft P (zeroValue t) := by
 unfold zeroValue; refine Soft.bind (Soft.typeInfo' t) fun i => ?_
 split
 ·exact Soft.pure' _
 ·exact Soft.unsupported' _
theorem Soft.mapL {α β : Type} {f : α → Sem β} (hf : ∀ a, Soft P (f a)) : ∀ l : List α, Soft P (l.mapM f)
 | [] => by rw [List.mapM_nil]; exact Soft.pure' _
 | a :: l => by rw [List.mapM_cons]; exact Soft.bind (hf a) fun b => Soft.bind (Soft.mapL hf l) fun bs => Soft.pure' _
theorem Soft.mapA {α β : Type} {f : α → Sem β} (hf : ∀ a, Soft P (f a)) (l : Array α) : Soft P (l.mapM f) := by
 rw [Array.mapM_eq_mapM_toList]; exact Soft.map' _ (Soft.mapL hf _)
theorem Soft.build' (t : TypeId) (ps : Array (Nat × Value)) : Soft P (Instr.build t ps) := by
 unfold Instr.build; refine Soft.bind (Soft.zeroValue' t) fun z => ?_
 simp only []; refine Soft.bind (Soft.underlying' t) fun d => ?_
 split
 ·refine Soft.bind (Soft.mapA (fun f => Soft.bind (Soft.sizeOf' _) fun _ => Soft.pure' _) _) fun pl => ?_
  split
  ·exact Soft.pure' _
  ·exact Soft.stuck' _
 ·refine Soft.bind (Soft.sizeOf' _) fun s => ?_
  split
  ·exact Soft.pure' _
  ·exact Soft.stuck' _
 ·exact Soft.stuck' _
theorem Soft.makeInterface' (t : TypeId) (x : Value) : Soft P (Instr.makeInterface t x) := by
 unfold Instr.makeInterface; refine Soft.bind (Soft.underlying' t) fun d => ?_
 split
 ·exact Soft.stuck' _
 ·exact Soft.pure' _
theorem Soft.findAsking' (t : TypeId) (h : plainT P t = true) (k : Value) : ∀ (l : List MapEntry) (i : Nat), Soft P (Instr.findAsking t k l i)
 | [], i => by unfold Instr.findAsking; exact Soft.pure' _
 | e :: es, i => by
   unfold Instr.findAsking; refine Soft.bind (Soft.equalPlain 9999 t h _ _) fun b => ?_
   split
   ·exact Soft.pure' _
   ·exact Soft.findAsking' t h k es _
theorem Soft.checkKey' (b : Bool) (n : Nat) (t : TypeId) (h : plainT P t = true) (v : Value) : Soft P (Instr.checkKey b (n + 1) t v) := by
 unfold plainT at h; unfold Instr.checkKey; cases hu : P.underlying t with
 | none => rw [hu] at h; cases h
 | some u =>
   rw [hu] at h; cases u <;> simp only [Bool.false_eq_true] at h
   all_goals refine softP_underlying hu ?_
   all_goals split <;> first
    | contradiction
    | exact Soft.stuck' _
    | exact Soft.pure' _
theorem Soft.lookup' (t k e : TypeId) (ht : P.underlying t = some (.map k e)) (h : plainT P k = true) (x i : Value) (b : Bool) : Soft P (Instr.lookup t x i b) := by
 unfold Instr.lookup; refine softP_underlying ht ?_; simp only []
 have key : ∀ es : Array MapEntry, Soft P (do
  Instr.checkKey es.isEmpty 10000 k i
  let (v, ok) ← match ← Instr.findKey k i es.toList with
   | some (_, v) => pure (v, true)
   | none => pure (← zeroValue e, false)
  pure (if b then .tuple #[v, .bool ok] else v) : Sem Value) := fun es => by
  refine Soft.bind (Soft.checkKey' _ 9999 k h _) fun _ => Soft.bind ?_ fun r => ?_
  ·unfold Instr.findKey
   refine Soft.bind (Soft.underlying' _) fun d => ?_
   split
   ·exact Soft.pure' _
   ·exact Soft.findAsking' k h _ _ _
  ·simp only []
   split
   ·exact Soft.bind (Soft.pure' _) fun x => Soft.pure' _
   ·exact Soft.bind (Soft.zeroValue' _) fun z => Soft.bind (Soft.pure' _) fun x => Soft.pure' _
 split
 ·exact Soft.bind (Soft.pure' _) key
 ·refine Soft.bind (Soft.getObj' _) fun o => ?_
  split
  ·exact Soft.bind (Soft.pure' _) key
  ·exact Soft.bind (Soft.stuck' _) key
 ·exact Soft.bind (Soft.stuck' _) key
def SoftOp (P : Program) (s : Sem Next) : Prop := ∃ s' : Sem Value, s = (do pure (.value (← s'))) ∧ Soft P s'
theorem softOp_of {s' : Sem Value} (h : Soft P s') : SoftOp P (do pure (.value (← s'))) := ⟨s', rfl, h⟩
theorem softOp_val (v : Value) : SoftOp P (Pure.pure (Next.value v)) := ⟨Pure.pure v, rfl, Soft.pure' v⟩
theorem softB_spec {o : Oper} (h : softB P o = true) (ρ : Operand → Value) : SoftOp P (execOp ρ o) := by
 obtain ⟨dst, op, type, pos, after, guard⟩ := o; unfold softB at h; unfold execOp; cases op <;> simp only [Bool.false_eq_true] at h ⊢
 case move x => exact softOp_val _
 case assign x => exact softOp_val _
 case pick c a b =>
  refine ⟨do pure (if ← asBool (ρ c) then ρ a else ρ b), ?_, Soft.bind (Soft.asBool' _) fun _ => Soft.pure' _⟩; simp only [bind_assoc, pure_bind]
 case load t a => exact softOp_of (Soft.loadAt' _ _)
 case unOp op t x => exact softOp_of (Soft.unary' _ _)
 case field t x f => exact softOp_of (Soft.field' _ _ _)
 case index t x i => exact softOp_of (Soft.index' _ _ _)
 case extract t i => exact softOp_of (Soft.extract' _ _)
 case indexAddr t x i => exact softOp_of (Soft.indexAt' _ _ _)
 case slice t x lo hi mx => exact softOp_of (Soft.sliceAt' _ _ _ _ _)
 case fieldAddr t x f => exact softOp_of (Soft.fieldAt' _ _ _)
 case build t ps => exact softOp_of (Soft.build' _ _)
 case makeFunc f a b => exact softOp_of (Soft.pure' _)
 case makeInterface t x => exact softOp_of (Soft.makeInterface' _ _)
 case lookup t x i b =>
  cases ht : P.underlying t with
  | none => rw [ht] at h; cases h
  | some u =>
    rw [ht] at h; cases u <;> simp only [Bool.false_eq_true] at h
    exact softOp_of (Soft.lookup' t _ _ ht h _ _ _)
 case binOp op t x y t' =>
  refine softOp_of (Soft.bind ?_ fun _ => ?_)
  ·cases op <;> first
    | exact Soft.pure' _
    | (simp only [Bool.and_eq_true, Bool.not_eq_true'] at h; exact Soft.eqGuard' _ t h.1 h.2 _ _ _ _)
  ·cases op <;> first
    | (simp only [Bool.and_eq_true, Bool.not_eq_true'] at h; exact Soft.binOpEq _ t h.1 _ _)
    | exact Soft.binOp' _ (by decide) (by decide) t _ _
 case convert a b x =>
  cases ha : P.underlying a with
  | none => rw [ha] at h; cases h
  | some u =>
    cases hb : P.underlying b with
    | none => rw [ha, hb] at h; cases u <;> cases h
    | some u' =>
      rw [ha, hb] at h
      cases u <;> cases u' <;> first
       | (cases h; done)
       | exact softOp_of (Soft.convert' a b _ _ ha hb _)
 case call c =>
  obtain ⟨callee, args, tys⟩ := c; cases callee <;> simp only [Bool.false_eq_true] at h
  case builtin b =>
   cases b <;> simp only [Bool.false_eq_true] at h
   exact softOp_of (Soft.len' _ _ _)
/-! ### One order stands for all -/
variable {ops : Array Oper} {Q : Exit → Act → World → Prop}
abbrev noExit : Exit → Act → World → Prop := fun _ _ _ => False
def AnyS (P : Program) (ops : Array Oper) (n : Nat) (K : Array Bool → Act → World → Prop) (S : World → Prop) : Nat → Array Bool → Act → World → Prop
 | 0, L, a, w => K L a w
 | f + 1, L, a, w => ∀ i, i < n → i ∈ Region.ready .any ops L → wpOp P ops noExit i (fun a' w' => S w' ∧ AnyS P ops n K S f (L.setIfInBounds i true) a' w') a w
theorem AnyS.mono {n : Nat} {K : Array Bool → Act → World → Prop} {S S' : World → Prop} (hS : ∀ w, S' w → S w) : ∀ f L a w, AnyS P ops n K S' f L a w → AnyS P ops n K S f L a w
 | 0, _, _, _, h => h
 | f + 1, L, a, w, h => fun i hi hr => wpOp_mono (fun a' w' h' => ⟨hS w' h'.1, AnyS.mono hS f _ _ _ h'.2⟩) (h i hi hr)
def left (n : Nat) (L : Array Bool) : Nat := (List.range n).countP fun i => !L.getD i true
theorem left_set {n : Nat} {L : Array Bool} {i : Nat} (hi : i < n) (hl : L.getD i true = false) : left n (L.setIfInBounds i true) + 1 = left n L := by
 have hlt : i < L.size := by
  rcases Nat.lt_or_ge i L.size with h | h
  ·exact h
  ·simp [Array.getElem?_eq_none h] at hl
 have key : ∀ l : List Nat, l.Nodup → l.countP (fun j => !(L.setIfInBounds i true).getD j true) + (if i ∈ l then 1 else 0) = l.countP fun j => !L.getD j true := by
  intro l
  induction l with
  | nil => intro; simp
  | cons x l ih =>
    intro hn; rw [List.nodup_cons] at hn; have h := ih hn.2; rw [List.countP_cons, List.countP_cons]
    by_cases hx : x = i
    ·subst hx
     have h1 : (L.setIfInBounds x true).getD x true = true := by simp [hlt]
     rw [h1, hl]; have : x ∉ l := hn.1
     simp [this] at h ⊢
     omega
    ·have h1 : (L.setIfInBounds i true).getD x true = L.getD x true := getD_set_ne true (Ne.symm hx)
     rw [h1]; have : (i ∈ x :: l) = (i ∈ l) := by simp [Ne.symm hx]
     simp only [this]; omega
 have := key (List.range n) List.nodup_range; rw [if_pos (by simpa using hi)] at this; exact this
theorem left_zero {n : Nat} {L : Array Bool} (h : left n L = 0) {i : Nat} (hi : i < n) : L.getD i true = true := by
 unfold left at h; rw [List.countP_eq_zero] at h
 simpa using h i (by simpa using hi)
theorem AnyS.first {n : Nat} {K : Array Bool → Act → World → Prop} {S : World → Prop} {i : Nat} {oi : Oper} {v : Value} (hin : i < n) (hi : ops[i]? = some oi) (hsel : ∀ (j : Nat) (o : Oper) cs b, ops[j]? = some o → o.op ≠ .select cs b) :
 ∀ (fuel : Nat) (L : Array Bool) (a : Act) (w : World), left n L = fuel + 1 →
   (∀ j oj, j < n → ops[j]? = some oj → j ≠ i → L.getD j true = false → (∀ e ∈ oj.after, Region.binds .any e = true → e.on ≠ i) → oi.apart ops oj = true) →
   i ∈ Region.ready .any ops L → YieldsIf P ops S oi v a → S w →
   AnyS P ops n K S fuel (L.setIfInBounds i true) (a.put oi.dst v) w → AnyS P ops n K S (fuel + 1) L a w := by
 intro fuel
 induction fuel with
 | zero =>
   intro L a w hc _ hr hy hS H j hjn hj
   by_cases hji : j = i
   ·subst hji; exact hy.wpOp hi hS ⟨hS, H⟩
   ·exfalso
    have h1 := left_set hin (mem_ready.1 hr).1; have h2 := left_zero (n := n) (L := L.setIfInBounds i true) (by omega) hjn; rw [getD_set_ne true (Ne.symm hji), (mem_ready.1 hj).1] at h2; cases h2
 | succ fuel ih =>
   intro L a w hc hfree hr hy hS H j hjn hj
   by_cases hji : j = i
   ·subst hji; exact hy.wpOp hi hS ⟨hS, H⟩
   ·have h1 := H j hjn (ready_mono hj hji)
    obtain ⟨hjun, oj, hoj, hall⟩ := mem_ready.1 hj
    have hnot : ∀ e ∈ oj.after, Region.binds .any e = true → e.on ≠ i := fun e he hb heq => by
     have h1 := hall e he hb; have h0 := (mem_ready.1 hr).1; rw [heq] at h1; rcases Nat.lt_or_ge i L.size with h' | h'
     ·simp [h'] at h0 h1; rw [h0] at h1; cases h1
     ·simp [Array.getElem?_eq_none h'] at h1
    have h2 := wpOp_putIf hoj (hfree j oj hjn hoj hji hjun hnot) (fun cs b => hsel i oi cs b hi) (fun cs b => hsel j oj cs b hoj) (fun _ _ _ h => h.elim) hy h1
    have hfree' : ∀ k ok, k < n → ops[k]? = some ok → k ≠ i → (L.setIfInBounds j true).getD k true = false →
     (∀ e ∈ ok.after, Region.binds .any e = true → e.on ≠ i) → oi.apart ops ok = true := fun k ok hkn hk hki hun hno => by
     refine hfree k ok hkn hk hki ?_ hno
     by_cases hjk : j = k
     ·subst hjk; exact hjun
     ·rw [getD_set_ne true hjk] at hun; exact hun
    have hc' := left_set hjn hjun; refine wpOp_mono (fun a' w' h3 => ⟨h3.2.1, ih (L.setIfInBounds j true) a' w' (by omega) hfree' (ready_mono hr (Ne.symm hji)) h3.1 h3.2.1 ?_⟩) h2; rw [Array.setIfInBounds_comm _ _ hji]; exact h3.2.2
theorem upon_noExit {o : Oper} {a : Act} {K : Act → World → Prop} {r : Result Next} (h : o.upon P a K noExit r) : o.upon P a K Q r := by
 have no : ¬ LetsOut noExit := fun ⟨_, _, h⟩ => h
 cases r with
 | ok x w' =>
   cases x <;> simp only [Oper.upon] at h ⊢
   case value v => exact h
   case skip => exact h
   case defer d => exact h
   case enter f args =>
    refine h.mono fun e w'' he => ?_
    cases e with
    | returned v => exact he
    | panicked c => exact he.elim
    | outgrown => exact (no he).elim
   case row row args => exact h
 | halt x w' =>
   cases x <;> simp only [Oper.upon] at h ⊢
   exact h.elim
theorem wpOp_noExit {i : Nat} {K : Act → World → Prop} {a : Act} {w : World} (h : wpOp P ops noExit i K a w) : wpOp P ops Q i K a w := by
 have no : ¬ LetsOut noExit := fun ⟨_, _, h⟩ => h
 unfold wpOp at *
 split
 ·rename_i ho; simpa [ho] using h
 ·rename_i o ho
  simp only [ho] at h
  split
  ·rename_i hw
   simp only [hw, if_true] at h; rcases h with h | h
   ·exact .inl (upon_noExit h)
   ·exact (no h.2).elim
  ·rename_i hw
   simp only [hw] at h; exact h
theorem left_rest {n k : Nat} {L : Array Bool} (hk : ∀ i, i < k → i < n → L.getD i true = true) (ht : ∀ i, k ≤ i → i < n → L.getD i true = false) (hkn : k ≤ n) : left n L = n - k := by
 unfold left
 have e : List.range n = List.range k ++ (List.range (n - k)).map (k + ·) := by
  have := List.range_add (n := k) (m := n - k); rw [show k + (n - k) = n by omega] at this; exact this
 rw [e, List.countP_append, List.countP_map]
 have h1 : (List.range k).countP (fun i => !L.getD i true) = 0 := by
  rw [List.countP_eq_zero]; intro i hi; rw [List.mem_range] at hi; simp only [hk i hi (by omega)]; decide
 have h2 : (List.range (n - k)).countP ((fun i => !L.getD i true) ∘ (k + ·)) = n - k := by
  have := List.countP_eq_length (p := (fun i => !L.getD i true) ∘ (k + ·)) (l := List.range (n - k)); rw [List.length_range] at this; refine this.2 fun i hi => ?_
  rw [List.mem_range] at hi; simp only [Function.comp, ht (k + i) (by omega) (by omega)]; decide
 omega
theorem getD_both_true {L : Array Bool} {i : Nat} (h : L.getD i false = true) : L.getD i true = true := by
 rcases Nat.lt_or_ge i L.size with hl | hl
 ·simp [hl] at h ⊢; exact h
 ·simp [Array.getElem?_eq_none hl]
theorem rest_anyS {k n : Nat} (hB : backB ops = true) (hn : n ≤ ops.size) (hkn : k ≤ n) (hcut : n = ops.size ∨ cutB ops k n = true) {a : Act} {w : World} {S : World → Prop}
 (h : ∀ L, Good ops L → (∀ i, i < k → L.getD i true = true) → (∀ i, k ≤ i → L.getD i false = false) → AnyS P ops n (fun _ a w => Rest P ops Q n a w) S (n - k) L a w) : Rest P ops Q k a w := by
 intro L g h1 h2
 have g1 : ∀ i, i < k → L.getD i true = true := fun i hi => by
  have := h1 i hi (by omega); have hl : i < L.size := by rw [g.size]; omega
  simp [hl] at this ⊢
  exact this
 have g2 : ∀ i, k ≤ i → i < n → L.getD i true = false := fun i hi hin => by
  have := h2 i hi; have hl : i < L.size := by rw [g.size]; omega
  simp [hl] at this ⊢
  exact this
 refine wpAny_upto (k := k) (n := n) (fun L a w => AnyS P ops n (fun _ a w => Rest P ops Q n a w) S (left n L) L a w) hB hn hcut ?_ ?_ _ L a w g (count_rest g h1 h2) (fun i hi => h1 i hi (by omega)) (fun t ht => h2 t (by omega)) ?_
 ·intro L a w i o g hin ho hu hall _ _ hI
  have := left_set hin hu; rw [← this] at hI; exact wpOp_mono (fun a' w' h' => h'.2) (wpOp_noExit (hI i hin (mem_ready.2 ⟨hu, o, ho, hall⟩)))
 ·intro L a w hall hI
  have h0 : left n L = 0 := by
   unfold left; rw [List.countP_eq_zero]; intro i hi; rw [List.mem_range] at hi; have := hall i hi; simp only [getD_both_true this]; decide
  rw [h0] at hI; exact hI
 ·rw [left_rest (fun i hi _ => g1 i hi) g2 hkn]
  exact h L g g1 h2
def Chain (P : Program) (ops : Array Oper) (K : Act → World → Prop) : List (Bool × List Oper) → Act → World → Prop
 | [], a, w => K a w
 | (false, g) :: r, a, w => ∀ E : Exit → Act → World → Prop, (∀ a', Chain P ops K r a' w → E .normal a' w) → wpList P ops E g a w
 | (true, g) :: r, a, w => ∀ E : Exit → Act → World → Prop, (∀ a' w', Below w.heap.size w w' ∧ Chain P ops K r a' w' → E .normal a' w') → wpList P ops E g a w
theorem chain_nil {K : Act → World → Prop} {a : Act} {w : World} (h : K a w) : Chain P ops K [] a w := h
theorem chain_soft {K : Act → World → Prop} {a : Act} {w : World} {g : List Oper} {r : List (Bool × List Oper)} (h : ∀ E : Exit → Act → World → Prop, (∀ a', Chain P ops K r a' w → E .normal a' w) → wpList P ops E g a w) : Chain P ops K ((false, g) :: r) a w := h
theorem chain_one {K : Act → World → Prop} {a : Act} {w : World} {g : List Oper} {r : List (Bool × List Oper)} (h : ∀ E : Exit → Act → World → Prop, (∀ a' w', Below w.heap.size w w' ∧ Chain P ops K r a' w' → E .normal a' w') → wpList P ops E g a w) : Chain P ops K ((true, g) :: r) a w := h
def readyIn (ops : Array Oper) (k : Nat) (done : List Nat) (i : Nat) : Bool := (preds ops i).all fun j => decide (j < k) || done.contains j
def chainB (P : Program) (ops : Array Oper) (k : Nat) : List Nat → List (Bool × Nat) → Bool
 | _, [] => true
 | done, (false, i) :: todo =>
   (match ops[i]? with
   | some o => softB P o && todo.all fun x => (preds ops x.2).contains i || (match ops[x.2]? with
     | some ox => o.apart ops ox
     | none => false)
   | none => false) && readyIn ops k done i && chainB P ops k (i :: done) todo
 | done, (true, i) :: todo =>
   readyIn ops k done i && (todo.all fun x => (preds ops x.2).any fun j => j == i || todo.any fun y => y.2 == j) && chainB P ops k (i :: done) todo
structure At (ops : Array Oper) (k n : Nat) (done : List Nat) (todo : List (Bool × Nat)) (L : Array Bool) : Prop where
 size : L.size = ops.size
 low : ∀ i, i < k → L.getD i true = true
 high : ∀ i, n ≤ i → i < ops.size → L.getD i true = false
 did : ∀ i ∈ done, L.getD i true = true
 yet : ∀ x ∈ todo, L.getD x.2 true = false ∧ x.2 < n ∧ k ≤ x.2
 all : ∀ i, k ≤ i → i < n → i ∈ done ∨ ∃ x ∈ todo, x.2 = i
 nodup : (todo.map (·.2)).Nodup
 le : n ≤ ops.size
theorem At.count {k n : Nat} {done : List Nat} {todo : List (Bool × Nat)} {L : Array Bool} (h : At ops k n done todo L) : left n L = todo.length := by
 have e : ∀ (l : List Nat), l.Nodup → ∀ m : List Nat, m.Nodup → (∀ i, i ∈ m ↔ i ∈ l ∧ L.getD i true = false) → l.countP (fun i => !L.getD i true) = m.length := by
  intro l hl m hm hi; rw [List.countP_eq_length_filter]; have hp : (l.filter fun i => !L.getD i true).Perm m := (List.perm_ext_iff_of_nodup (hl.filter _) hm).2 fun i => by rw [hi]; simp
  exact hp.length_eq
 have := e (List.range n) List.nodup_range (todo.map (·.2)) h.nodup fun i => by
  constructor
  ·intro hi
   obtain ⟨x, hx, rfl⟩ := List.mem_map.1 hi; exact ⟨by simpa using (h.yet x hx).2.1, (h.yet x hx).1⟩
  ·rintro ⟨hi, hf⟩
   rw [List.mem_range] at hi; rcases Nat.lt_or_ge i k with hk | hk
   ·rw [h.low i hk] at hf; cases hf
   ·rcases h.all i hk hi with hd | ⟨x, hx, rfl⟩
    ·rw [h.did i hd] at hf; cases hf
    ·exact List.mem_map.2 ⟨x, hx, rfl⟩
 unfold left; rw [this, List.length_map]
theorem At.next {k n : Nat} {done : List Nat} {b : Bool} {i : Nat} {todo : List (Bool × Nat)} {L : Array Bool} (h : At ops k n done ((b, i) :: todo) L) : At ops k n (i :: done) todo (L.setIfInBounds i true) := by
 have hi := h.yet _ (List.mem_cons_self ..); have hlt : i < L.size := by rw [h.size]; have := h.le; exact Nat.lt_of_lt_of_le hi.2.1 this
 have up : ∀ j, L.getD j true = true → (L.setIfInBounds i true).getD j true = true := fun j hj => by
  by_cases e : i = j
  ·subst e; simp [hlt]
  ·rw [getD_set_ne true e]; exact hj
 have hn := h.nodup; rw [List.map_cons, List.nodup_cons] at hn; refine ⟨by simp [h.size], fun j hj => up j (h.low j hj), fun j hj hjs => ?_, fun j hj => ?_, fun x hx => ?_, fun j hk hjn => ?_, hn.2, h.le⟩
 ·rw [getD_set_ne true (by have := hi.2.1; omega)]
  exact h.high j hj hjs
 ·rcases List.mem_cons.1 hj with rfl | hj
  ·simp [hlt]
  ·exact up j (h.did j hj)
 ·have := h.yet x (List.mem_cons_of_mem _ hx)
  have hne : i ≠ x.2 := fun e => hn.1 (List.mem_map.2 ⟨x, hx, e.symm⟩)
  exact ⟨by rw [getD_set_ne true hne]; exact this.1, this.2⟩
 ·rcases h.all j hk hjn with hd | ⟨x, hx, e⟩
  ·exact .inl (List.mem_cons_of_mem _ hd)
  ·rcases List.mem_cons.1 hx with rfl | hx
   ·exact .inl (by rw [← e]; exact List.mem_cons_self ..)
   ·exact .inr ⟨x, hx, e⟩
theorem getD_false_of {L : Array Bool} {i : Nat} (hl : i < L.size) (h : L.getD i true = true) : L.getD i false = true := by
 simp [hl] at h ⊢; exact h
theorem At.ready {k n : Nat} {done : List Nat} {b : Bool} {i : Nat} {todo : List (Bool × Nat)} {L : Array Bool} (hB : backB ops = true) (h : At ops k n done ((b, i) :: todo) L) {o : Oper} (ho : ops[i]? = some o) (hr : readyIn ops k done i = true) : i ∈ Region.ready .any ops L := by
 refine mem_ready.2 ⟨(h.yet _ (List.mem_cons_self ..)).1, o, ho, fun e he hb => ?_⟩; have hlt : i < ops.size := (Array.getElem?_eq_some_iff.1 ho).1; have hon := backB_spec hB ho e he hb
 have hp : e.on ∈ preds ops i := by
  simp only [preds, ho, List.mem_map, List.mem_filter]; exact ⟨e, ⟨by simpa using he, hb⟩, rfl⟩
 have := List.all_eq_true.1 hr _ hp; simp only [Bool.or_eq_true, decide_eq_true_eq] at this; refine getD_false_of (by rw [h.size]; omega) ?_; rcases this with h1 | h1
 ·exact h.low _ h1
 ·exact h.did _ (by simpa using h1)
theorem At.only {k n : Nat} {done : List Nat} {i : Nat} {todo : List (Bool × Nat)} {L : Array Bool} (h : At ops k n done ((true, i) :: todo) L) (hc : (todo.all fun x => (preds ops x.2).any fun j => j == i || todo.any fun y => y.2 == j) = true)
 {j : Nat} (hj : j < n) (hr : j ∈ Region.ready .any ops L) : j = i := by
 obtain ⟨hu, o, ho, hall⟩ := mem_ready.1 hr; rcases Nat.lt_or_ge j k with hk | hk
 ·rw [h.low j hk] at hu; cases hu
 rcases h.all j hk hj with hd | ⟨x, hx, e⟩
 ·rw [h.did j hd] at hu; cases hu
 rcases List.mem_cons.1 hx with rfl | hx
 ·exact e.symm
 exfalso
 subst e; have := List.all_eq_true.1 hc x hx; obtain ⟨q, hq, hq2⟩ := List.any_eq_true.1 this; have hl := preds_listed ho hall q hq
 have hqf : L.getD q true = false := by
  simp only [Bool.or_eq_true, beq_iff_eq, List.any_eq_true] at hq2; rcases hq2 with rfl | ⟨y, hy, rfl⟩
  ·exact (h.yet _ (List.mem_cons_self ..)).1
  ·exact (h.yet y (List.mem_cons_of_mem _ hy)).1
 rw [getD_both_true hl] at hqf; cases hqf
def flatG : List (Bool × List Nat) → List (Bool × Nat)
 | [] => []
 | (b, g) :: r => g.map (fun i => (b, i)) ++ flatG r
def onesB : List (Bool × List Nat) → Bool
 | [] => true
 | (true, [_]) :: r => onesB r
 | (true, _) :: _ => false
 | (false, _) :: r => onesB r
def pick (l : List Oper) (gs : List (Bool × List Nat)) : List (Bool × List (Option Oper)) := gs.map fun x => (x.1, x.2.map fun i => l[i]?)
def some' (gs : List (Bool × List Oper)) : List (Bool × List (Option Oper)) := gs.map fun x => (x.1, x.2.map some)
theorem soft_mono {K : Act → World → Prop} : ∀ (g : List Oper) (a : Act) (w : World), (∀ o ∈ g, softB P o = true) → wpList P ops (only K) g a w → ∃ a' w', K a' w' ∧ w.drawn ≤ w'.drawn ∧ w.heap.size ≤ w'.heap.size
 | [], a, w, _, h => ⟨a, w, h, Nat.le_refl _, Nat.le_refl _⟩
 | o :: g, a, w, hs, h => by
   have no : ¬ LetsOut (only K) := fun ⟨_, _, h⟩ => h
   unfold wpList at h
   split at h
   ·rcases h with h | h
    ·obtain ⟨s', e, hsoft⟩ := softB_spec (hs o (List.mem_cons_self ..)) a.eval
     unfold Oper.wp at h; rw [e, Sem.run_bind] at h; cases hr : s'.run P w with
     | halt x w2 =>
       rw [hr] at h; simp only [Result.andThen] at h; cases x <;> simp only [Oper.upon] at h
       exact h.elim
     | ok v w2 =>
       rw [hr] at h; simp only [Result.andThen_ok, Sem.run_pure, Oper.upon] at h; obtain ⟨h1, h2, -⟩ := hsoft w v w2 hr; obtain ⟨a', w', hk, h3, h4⟩ := soft_mono g _ w2 (fun o ho => hs o (List.mem_cons_of_mem _ ho)) h; exact ⟨a', w', hk, by omega, by omega⟩
    ·exact (no h.2).elim
   ·obtain ⟨a', w', hk, h3, h4⟩ := soft_mono g _ w (fun o ho => hs o (List.mem_cons_of_mem _ ho)) h
    exact ⟨a', w', hk, h3, h4⟩
theorem soft_step {K : Act → World → Prop} {o : Oper} {g : List Oper} {a : Act} {w : World} (hs : ∀ x ∈ o :: g, softB P x = true) (hK : ∀ a' w', K a' w' → w' = w) (h : wpList P ops (only K) (o :: g) a w) :
 ∃ v, YieldsIf P ops (fun w' => Below w.heap.size w w') o v a ∧ wpList P ops (only K) g (a.put o.dst v) w := by
 have no : ¬ LetsOut (only K) := fun ⟨_, _, h⟩ => h
 unfold wpList at h
 split at h
 ·rename_i hw
  rcases h with h | h
  ·obtain ⟨s', e, hsoft⟩ := softB_spec (hs o (List.mem_cons_self ..)) a.eval
   unfold Oper.wp at h; rw [e, Sem.run_bind] at h; cases hr : s'.run P w with
   | halt x w2 =>
     rw [hr] at h; simp only [Result.andThen] at h; cases x <;> simp only [Oper.upon] at h
     exact h.elim
   | ok v w2 =>
     rw [hr] at h; simp only [Result.andThen_ok, Sem.run_pure, Oper.upon] at h; obtain ⟨h1, h2, h3⟩ := hsoft w v w2 hr; obtain ⟨a', w', hk, h4, h5⟩ := soft_mono g _ w2 (fun o ho => hs o (List.mem_cons_of_mem _ ho)) h; have hw' := hK _ _ hk; subst hw'; obtain ⟨rfl, h6⟩ := h3 (by omega) (by omega); refine ⟨v, .inl ⟨hw, fun w' hb => ?_⟩, h⟩; rw [e, Sem.run_bind, h6 w' hb, Result.andThen_ok, Sem.run_pure]
  ·exact (no h.2).elim
 ·rename_i hw
  exact ⟨undef, .inr ⟨by simpa using hw, rfl⟩, h⟩
theorem wpList_one {o : Oper} {i : Nat} {K : Act → World → Prop} {a : Act} {w : World} (ho : ops[i]? = some o) (h : wpList P ops (only K) [o] a w) : wpOp P ops noExit i K a w := by
 have no : ¬ LetsOut (only K) := fun ⟨_, _, h⟩ => h
 unfold wpOp; simp only [ho]; unfold wpList at h
 split
 ·rename_i hw
  rw [if_pos hw] at h; rcases h with h | h
  ·refine .inl ?_
   unfold Oper.wp at *; generalize (execOp a.eval o).run P w = r at *; have hk : wpList P ops (only K) [] = K := rfl; rw [hk] at h; cases r with
   | ok x w' =>
     cases x <;> simp only [Oper.upon] at h ⊢
     case value v => exact h
     case skip => exact h
     case defer d => exact h
     case enter f args =>
      refine h.mono fun e w'' he => ?_
      cases e with
      | returned v => exact he
      | panicked c => exact he
      | outgrown => exact (no he).elim
     case row row args => exact h
   | halt x w' =>
     cases x <;> simp only [Oper.upon] at h ⊢
     exact h
  ·exact (no h.2).elim
 ·rename_i hw
  rw [if_neg hw] at h; exact h
theorem chain_any {k n : Nat} {K : Act → World → Prop} (hB : backB ops = true) (hsel : Region.noSelect ops = true) : ∀ (gs : List (Bool × List Nat)) (os : List (Bool × List Oper)) (done : List Nat) (L : Array Bool) (a : Act) (w : World),
 pick ops.toList gs = some' os → onesB gs = true → chainB P ops k done (flatG gs) = true → At ops k n done (flatG gs) L → Chain P ops K os a w →
 AnyS P ops n (fun _ => K) (fun w' => Below w.heap.size w w') (flatG gs).length L a w := by
 intro gs
 induction gs with
 | nil =>
   intro os done L a w hp _ _ _ h; cases os with
   | nil => exact h
   | cons x os => cases hp
 | cons x gs ih =>
   intro os done L a w hp h1 hc hat h; cases os with
   | nil => cases hp
   | cons y os =>
   obtain ⟨b, g⟩ := x; obtain ⟨b', g'⟩ := y; simp only [pick, some', List.map_cons, List.cons.injEq, Prod.mk.injEq] at hp; obtain ⟨⟨rfl, hg⟩, hp⟩ := hp; cases b with
   | true =>
     cases g with
     | nil => cases h1
     | cons i g =>
     cases g with
     | cons _ _ => cases h1
     | nil =>
     cases g' with
     | nil => cases hg
     | cons o g' =>
     cases g' with
     | cons _ _ => simp at hg
     | nil =>
       simp only [List.map_cons, List.map_nil, List.cons.injEq, and_true] at hg; have ho : ops[i]? = some o := by simpa using hg
       have hf : flatG ((true, [i]) :: gs) = (true, i) :: flatG gs := rfl; rw [hf] at hc hat ⊢; simp only [chainB, Bool.and_eq_true] at hc; obtain ⟨⟨hr, ha⟩, hc⟩ := hc; have hx := h (only fun a' w' => Below w.heap.size w w' ∧ Chain P ops K os a' w') fun a' w' hch => hch
       rw [List.length_cons]; intro j hj hjr; obtain rfl := hat.only ha hj hjr; refine wpOp_mono (fun a' w' h' => ⟨h'.1, ?_⟩) (wpList_one ho hx); exact AnyS.mono (fun w'' hb => h'.1.trans (hb.mono h'.1.size)) _ _ _ _ (ih os _ _ a' w' hp h1 hc hat.next h'.2)
   | false =>
     have hx := h (only fun a' w' => w' = w ∧ Chain P ops K os a' w) fun a' hch => ⟨rfl, hch⟩
     clear h
     have key : ∀ (g : List Nat) (g' : List Oper) (done : List Nat) (L : Array Bool) (a : Act), g.map (fun i => ops.toList[i]?) = g'.map some → chainB P ops k done (flatG ((false, g) :: gs)) = true → At ops k n done (flatG ((false, g) :: gs)) L →
      wpList P ops (only fun a' w' => w' = w ∧ Chain P ops K os a' w) g' a w → AnyS P ops n (fun _ => K) (fun w' => Below w.heap.size w w') (flatG ((false, g) :: gs)).length L a w := by
      intro g
      induction g with
      | nil =>
        intro g' done L a hg hc hat hx; cases g' with
        | cons _ _ => cases hg
        | nil => exact ih os _ _ a w hp h1 hc hat hx.2
      | cons i g ihg =>
        intro g' done L a hg hc hat hx; cases g' with
        | nil => cases hg
        | cons o g' =>
        have hsoft : ∀ (g : List Nat) (g' : List Oper) (done : List Nat), g.map (fun i => ops.toList[i]?) = g'.map some → chainB P ops k done (flatG ((false, g) :: gs)) = true → ∀ x ∈ g', softB P x = true := by
         intro g
         induction g with
         | nil =>
           intro g' done hg _ x hx; cases g' with
           | nil => cases hx
           | cons _ _ => cases hg
         | cons i g ihs =>
           intro g' done hg hc x hx; cases g' with
           | nil => cases hg
           | cons o g' =>
           simp only [List.map_cons, List.cons.injEq] at hg; have ho : ops[i]? = some o := by simpa using hg.1
           have hf : flatG ((false, i :: g) :: gs) = (false, i) :: flatG ((false, g) :: gs) := rfl; rw [hf] at hc; simp only [chainB, ho, Bool.and_eq_true] at hc; rcases List.mem_cons.1 hx with rfl | hx
           ·exact hc.1.1.1
           ·exact ihs g' _ hg.2 hc.2 x hx
        have hso := hsoft _ _ _ hg hc; simp only [List.map_cons, List.cons.injEq] at hg; have ho : ops[i]? = some o := by simpa using hg.1
        have hf : flatG ((false, i :: g) :: gs) = (false, i) :: flatG ((false, g) :: gs) := rfl; rw [hf] at hc hat ⊢; have hcnt := hat.count; rw [List.length_cons] at hcnt ⊢; simp only [chainB, ho, Bool.and_eq_true] at hc; obtain ⟨⟨⟨_, hfree⟩, hr⟩, hc⟩ := hc; obtain ⟨v, hy, hrest⟩ := soft_step hso (fun _ _ h => h.1) hx; refine AnyS.first (hat.yet _ (List.mem_cons_self ..)).2.1 ho (Region.noSelect_spec hsel) _ L a w hcnt ?_ (hat.ready hB ho hr) hy (Below.refl _ _) (ihg g' _ _ _ hg.2 hc hat.next hrest); intro j oj hjn hoj hji hun hno
        have hjk : k ≤ j := by
         rcases Nat.lt_or_ge j k with h | h
         ·rw [hat.low j h] at hun; cases hun
         ·exact h
        rcases hat.all j hjk hjn with hd | ⟨x, hx, rfl⟩
        ·rw [hat.did j hd] at hun; cases hun
        rcases List.mem_cons.1 hx with rfl | hx
        ·exact absurd rfl hji
        have := List.all_eq_true.1 hfree x hx; simp only [Bool.or_eq_true, hoj] at this; rcases this with hp | hp
        ·exfalso
         simp only [preds, hoj, List.contains_iff_mem, List.mem_map, List.mem_filter] at hp; obtain ⟨e, ⟨he, hb⟩, hon⟩ := hp; exact hno e (by simpa using he) hb hon
        ·exact hp
     exact key g g' done L a hg hc hat hx
def nodupB : List Nat → Bool
 | [] => true
 | x :: l => !l.contains x && nodupB l
theorem nodupB_spec : ∀ l : List Nat, nodupB l = true → l.Nodup
 | [], _ => List.nodup_nil
 | x :: l, h => by
   simp only [nodupB, Bool.and_eq_true, Bool.not_eq_true'] at h; rw [List.nodup_cons]; exact ⟨fun hx => by have := h.1; simp [hx] at this, nodupB_spec l h.2⟩
theorem rest_chain (k n : Nat) (gs : List (Bool × List Nat)) (os : List (Bool × List Oper)) {l : List Oper} (hp : pick l gs = some' os)
 (hB : backB l.toArray = true) (hsel : Region.noSelect l.toArray = true) (h1 : onesB gs = true) (hc : chainB P l.toArray k [] (flatG gs) = true)
 (hs : (decide (k ≤ n) && decide (n ≤ l.length) && ((flatG gs).all fun x => decide (k ≤ x.2) && decide (x.2 < n)) && ((List.range n).all fun i => decide (i < k) || (flatG gs).any fun x => x.2 == i) && decide ((flatG gs).length = n - k) && nodupB ((flatG gs).map (·.2))) = true)
 (hcut : n = l.toArray.size ∨ cutB l.toArray k n = true) {a : Act} {w : World}
 (h : Chain P l.toArray (Rest P l.toArray Q n) os a w) : Rest P l.toArray Q k a w := by
 simp only [Bool.and_eq_true, decide_eq_true_eq, List.all_eq_true, List.mem_range, Bool.or_eq_true, List.any_eq_true, beq_iff_eq] at hs; obtain ⟨⟨⟨⟨⟨hkn, hnl⟩, hin⟩, hall⟩, hlen⟩, hnd⟩ := hs; replace hnd := nodupB_spec _ hnd; refine rest_anyS (S := fun w' => Below w.heap.size w w') hB (by simpa using hnl) hkn hcut fun L g hl ht => ?_
 have := chain_any hB hsel gs os [] L a w (by simpa using hp) h1 hc ⟨g.size, hl, fun i hi hs => ?_, fun i hi => by simp at hi, fun x hx => ?_, fun i hki hi => ?_, hnd, by simpa using hnl⟩ h
 ·rw [hlen] at this
  exact this
 ·have := ht i (by omega)
  have hlt : i < L.size := by rw [g.size]; exact hs
  simp [hlt] at this ⊢
  exact this
 ·have hx' := hin x hx
  have := ht x.2 hx'.1; have hlt : x.2 < L.size := by rw [g.size]; simp; omega
  refine ⟨?_, hx'.2, hx'.1⟩
  simp [hlt] at this ⊢
  exact this
 ·rcases hall i hi with h | ⟨x, hx, e⟩
  ·omega
  ·exact .inr ⟨x, hx, e⟩
end
end Go.Proofs.Ytcbijikalfodnaa.Reg
namespace Go.Proofs.Ytcbijikalfodnaa.Tms
open Go Go.RowKit
def abKind : Rws.Kind (Tm × Int) where
 T := 150
 sz := 5
 R := fun w P cs a => ∃ q c, cs = [.int .i64 a.1.k, .int .i64 a.1.n, .string a.1.s, .slice q a.1.args.length c, .int .i64 a.2] ∧ ArgsFrom w P q 0 a.1.args
 pos := by decide
 len := by rintro w P cs a ⟨q, c, rfl, -⟩; rfl
 one := by
  rintro w P cs a ⟨q, c, rfl, -⟩ v hv; simp only [List.mem_cons, List.not_mem_nil, or_false] at hv; rcases hv with rfl | rfl | rfl | rfl | rfl <;> rfl
 mono := by rintro w w' P P' cs a hP hw ⟨q, c, rfl, h⟩; exact ⟨q, c, rfl, ArgsFrom.imp hP hw _ _ _ h⟩
 lt := by rintro w P cs a ⟨q, c, rfl, h⟩; exact ⟨q, c, rfl, ArgsFrom.lt _ _ _ h⟩
theorem info_above : (Try.prog.info? 150).map (fun i => (i.zero, i.size, i.bytes)) = some (some (.agg #[.int .i64 0, .int .i64 0, .string ⟨#[]⟩, .slice none 0 0, .int .i64 0]), 5, 64) := by kernel_rfl
mutual
def parts (d : Int) : Tm → List (Tm × Int)
 | .mk k n s a => (.mk k n s a, d) :: partsL (d + 1) a
def partsL (d : Int) : List Tm → List (Tm × Int)
 | [] => []
 | t :: l => parts d t ++ partsL d l
end
def partsS : List (Tm × Int) → List (Tm × Int)
 | [] => []
 | p :: l => parts p.2 p.1 ++ partsS l
theorem partsS_app : ∀ l m, partsS (l ++ m) = partsS l ++ partsS m
 | [], m => rfl
 | p :: l, m => by simp [partsS, partsS_app l m]
theorem partsL_map (d : Int) : ∀ l : List Tm, partsL d l = partsS (l.map fun t => (t, d))
 | [] => by simp [partsL, partsS]
 | t :: l => by simp [partsL, partsS, partsL_map d l]
theorem parts_eq (t : Tm) (d : Int) : parts d t = (t, d) :: partsS (t.args.map fun x => (x, d + 1)) := by
 obtain ⟨k, n, s, a⟩ := t; rw [parts, partsL_map]; rfl
def meas (st : Bool × Int × Int) : List (Tm × Int) → Bool × Int × Int
 | [] => st
 | p :: l => meas (st.1 || !mayB p.1.k p.1.n p.1.s p.1.args.length, st.2.1 + 1, max st.2.2 p.2) l
theorem meas_app (st : Bool × Int × Int) : ∀ l m, meas st (l ++ m) = meas (meas st l) m := by
 intro l
 induction l generalizing st with
 | nil => intro m; rfl
 | cons p l ih => intro m; simp only [List.cons_append, meas]; exact ih _ m
structure Keeps (w w' : World) (M : Nat → Prop) : Prop where
 os : w'.os = w.os
 tape : w'.tape = w.tape
 output : w'.output = w.output
 size : w.heap.size ≤ w'.heap.size
 block : ∀ b, b < w.heap.size → ¬ M b → w'.heap[b]? = w.heap[b]?
theorem Keeps.refl (w : World) (M : Nat → Prop) : Keeps w w M := ⟨rfl, rfl, rfl, Nat.le_refl _, fun _ _ _ => rfl⟩
theorem Keeps.of {w w' : World} {M : Nat → Prop} (h : Below w.heap.size w w') : Keeps w w' M := ⟨h.os, h.tape, h.output, h.size, fun b hb _ => h.block b hb⟩
theorem Keeps.trans {w w' w'' : World} {M M' : Nat → Prop} (h : Keeps w w' M) (h' : Keeps w' w'' M') (hM : ∀ b, M' b → M b ∨ w.heap.size ≤ b) : Keeps w w'' M :=
 ⟨h'.os.trans h.os, h'.tape.trans h.tape, h'.output.trans h.output, Nat.le_trans h.size h'.size, fun b hb hm => (h'.block b (Nat.lt_of_lt_of_le hb h.size) fun hm' => (hM b hm').elim hm fun hge => by omega).trans (h.block b hb hm)⟩
theorem Keeps.below {w w' : World} {M : Nat → Prop} (h : Keeps w w' M) (hM : ∀ b, ¬ M b) : Below w.heap.size w w' := ⟨h.os, h.tape, h.output, h.size, fun b hb => h.block b hb (hM b)⟩
theorem Keeps.grown {w w' : World} {M : Nat → Prop} {o : Option Nat} (h : w.grownBy w' o) (hM : ∀ b, o = some b → M b ∨ w.heap.size ≤ b) : Keeps w w' M :=
 ⟨h.os, h.tape, h.output, h.size, fun b hb hm => h.block b hb fun e => (hM b e.symm).elim hm fun hge => by omega⟩
def sumA : List (Tm × Int) → Nat
 | [] => 0
 | p :: l => p.1.size + sumA l
theorem sumA_app : ∀ l m, sumA (l ++ m) = sumA l + sumA m
 | [], m => by simp [sumA]
 | p :: l, m => by simp [sumA, sumA_app l m]; omega
theorem len_sumA : ∀ l : List (Tm × Int), l.length ≤ sumA l
 | [] => by simp
 | p :: l => by have := len_sumA l; have := size_pos p.1; simp [sumA]; omega
theorem sumA_map (d : Int) : ∀ l : List Tm, sumA (l.map fun t => (t, d)) = sizeL l
 | [] => rfl
 | t :: l => by simp [sumA, sizeL, sumA_map d l]
theorem mem_sizeL {y : Tm} : ∀ {l : List Tm}, y ∈ l → y.size ≤ sizeL l
 | t :: l, h => by
   rcases List.mem_cons.1 h with rfl | h
   ·simp only [sizeL]; omega
   ·have := mem_sizeL h; simp only [sizeL]; omega
theorem sumA_rev : ∀ l, sumA l.reverse = sumA l
 | [] => rfl
 | p :: l => by simp [sumA, sumA_app, sumA_rev l]; omega
end Go.Proofs.Ytcbijikalfodnaa.Tms
namespace Go.Proofs.Ytcbijikalfodnaa.Tms
open Go Go.RowKit Go.Proofs.Ytcbijikalfodnaa.Reg Go.Proofs.Ytcbijikalfodnaa.Rws
structure Vis where
 Sig : List (Tm × Int) → World → Prop
 Mine : List (Tm × Int) → World → Nat → Prop
 keep : ∀ {D W W'}, Sig D W → W.heap.size ≤ W'.heap.size → (∀ b, b < W.heap.size → Mine D W b → W'.heap[b]? = W.heap[b]?) → Sig D W' ∧ ∀ b, Mine D W' b → Mine D W b
 low : ∀ {D W b}, Sig D W → Mine D W b → b < W.heap.size
theorem Vis.below (V : Vis) {D : List (Tm × Int)} {W W' : World} (h : V.Sig D W) (hb : Below W.heap.size W W') : V.Sig D W' ∧ ∀ b, V.Mine D W' b → V.Mine D W b := V.keep h hb.size fun b hlt _ => hb.block b hlt
def Seen (V : Vis) (D : List (Tm × Int)) (p : Tm × Int) (W : World) (e : Ending) (w' : World) : Prop :=
 e = .returned (.tuple #[]) ∧ V.Sig (D ++ [p]) w' ∧ Keeps W w' (V.Mine D W) ∧ ∀ b, V.Mine (D ++ [p]) w' b → V.Mine D W b ∨ W.heap.size ≤ b
structure WkInv (V : Vis) (w : World) (Q : Nat → Prop) (D : List (Tm × Int)) (g cap n : Nat) (l : List (Tm × Int)) (wr : World) : Prop where
 len : l.length = n
 own : Own abKind wr (w.heap.size + 1) Q (.slice (some ⟨g, 0, none⟩) n cap) l
 keeps : Keeps w wr (V.Mine [] w)
 big : w.heap.size + 1 ≤ wr.heap.size
 sig : V.Sig D wr
 mine : ∀ b, V.Mine D wr b → V.Mine [] w b ∨ w.heap.size ≤ b
 notg : ¬ V.Mine D wr g
def WkRel (V : Vis) (t : Tm) (w : World) (Q : Nat → Prop) (k : Nat) (v4 : Value) (wr : World) : Prop :=
 ∃ (D l : List (Tm × Int)) (g cap n : Nat), v4 = .slice (some ⟨g, 0, none⟩) n cap ∧ WkInv V w Q D g cap n l wr ∧ parts 1 t = D ++ partsS l.reverse ∧ sumA l ≤ k ∧ k ≤ t.size ∧ ∀ p ∈ l, 1 ≤ p.2 ∧ p.2 + p.1.size ≤ t.size + 1
theorem wk_start (V : Vis) (t : Tm) (w : World) (Q : Nat → Prop) (a : Option Addr) (c : Nat) (hQ : ∀ b, Q b → b < w.heap.size) (h : IsTm w Q (.agg #[.int .i64 t.k, .int .i64 t.n, .string t.s, .slice a t.args.length c]) t) (hs : V.Sig [] w) :
 WkRel V t w Q t.size (.slice (some ⟨w.heap.size + 1, 0, none⟩) 1 1) ((w.alloc (.cells #[.int .i64 t.k, .int .i64 t.n, .string t.s, .slice a t.args.length c] 49 (0, 0))).alloc
  (.cells #[.int .i64 t.k, .int .i64 t.n, .string t.s, .slice a t.args.length c, .int .i64 1] 150 (0, 0))) := by
 have hb0 : Below w.heap.size w (w.alloc (.cells #[.int .i64 t.k, .int .i64 t.n, .string t.s, .slice a t.args.length c] 49 (0, 0))) := (Below.refl _ _).alloc (Nat.le_refl _) _; have hz : (w.alloc (.cells #[.int .i64 t.k, .int .i64 t.n, .string t.s, .slice a t.args.length c] 49 (0, 0))).heap.size = w.heap.size + 1 := by simp
 generalize w.alloc (.cells #[.int .i64 t.k, .int .i64 t.n, .string t.s, .slice a t.args.length c] 49 (0, 0)) = w2 at *; have hb : Below w2.heap.size w2 (w2.alloc (.cells #[.int .i64 t.k, .int .i64 t.n, .string t.s, .slice a t.args.length c, .int .i64 1] 150 (0, 0))) := (Below.refl _ _).alloc (Nat.le_refl _) _; have hbel := hb0.trans (hb.mono (by omega)); have hk := V.below hs hbel; refine ⟨[], [(t, 1)], w.heap.size + 1, 1, 1, rfl, ⟨rfl, ⟨[[.int .i64 t.k, .int .i64 t.n, .string t.s, .slice a t.args.length c, .int .i64 1]], ?_, ⟨⟨a, c, rfl, ?_⟩, trivial⟩⟩, Keeps.of hbel, by simp; omega, hk.1, fun b hb => .inl (hk.2 b hb), fun hm => ?_⟩, by simp [partsS], by simp [sumA], Nat.le_refl _, fun p hp => ?_⟩
 ·rw [show w.heap.size + 1 = w2.heap.size by omega]
  exact World.ownsRow_lit w2 _ 1 (by omega) (by decide) rfl
 ·obtain ⟨a', c', e, h'⟩ := h
  simp at e
  obtain ⟨rfl, rfl⟩ := e; exact ArgsFrom.imp (fun b h => ⟨h, by have := hQ b h; simp [Value.ownBlock]; omega, by have := hQ b h; simp; omega⟩) (fun b h _ => hbel.block b (hQ b h)) _ _ _ h'
 ·have := V.low hs (hk.2 _ hm)
  omega
 ·obtain rfl : p = (t, 1) := by simpa using hp
  exact ⟨by show (1 : Int) ≤ 1; omega, by show (1 : Int) + (t.size : Int) ≤ _; omega⟩
structure WkIn (V : Vis) (w : World) (Q : Nat → Prop) (D : List (Tm × Int)) (s5 : Nat) (x : Tm) (d : Int) (xa : Option Addr) (xc : Nat) (l' : List (Tm × Int)) (q g cap n : Nat) (wr : World) : Prop where
 len : n = l'.length + (x.args.length - q)
 own : Own abKind wr (w.heap.size + 1) Q (.slice (some ⟨g, 0, none⟩) n cap) (l' ++ ((x.args.drop q).map fun t => (t, d + 1)).reverse)
 keeps : Keeps w wr (V.Mine [] w)
 sig : V.Sig D wr
 mine : ∀ b, V.Mine D wr b → V.Mine [] w b ∨ w.heap.size ≤ b
 notg : ¬ V.Mine D wr g
 box : wr.heap[s5]? = some (.cells #[.int .i64 x.k, .int .i64 x.n, .string x.s, .slice xa x.args.length xc, .int .i64 d] 150 (0, 0))
 ne : g ≠ s5
 low : w.heap.size + 1 ≤ s5 ∧ s5 < wr.heap.size
 xi : IsTm wr Q (.agg #[.int .i64 x.k, .int .i64 x.n, .string x.s, .slice xa x.args.length xc]) x
def WkInRel (V : Vis) (w : World) (Q : Nat → Prop) (D : List (Tm × Int)) (s5 : Nat) (x : Tm) (d : Int) (xa : Option Addr) (xc : Nat) (l' : List (Tm × Int)) (v4 v6 : Value) (wr : World) : Prop :=
 ∃ q g cap n, q ≤ x.args.length ∧ v6 = .int .i64 ((q : Int) - 1) ∧ v4 = .slice (some ⟨g, 0, none⟩) n cap ∧ WkIn V w Q D s5 x d xa xc l' q g cap n wr
end Go.Proofs.Ytcbijikalfodnaa.Tms
