
/-
  goal.comp and goal.body, walked over the program.
-/
import Derived.Test.YtoklbeogmcdgaaaKnd
import Derived.Test.YtoklbeogmcdgaaaGow
import Derived.Test.YtoklbeogmcdgaaaPrm
import Derived.Test.YtoklbeogmcdgaaaAl3
namespace Go.Proofs.Ytoklbeogmcdgaaa.Tms
open Go Go.RowKit Go.Proofs.Ytoklbeogmcdgaaa.Reg
set_option linter.unusedVariables false

def zeroTm : Tm := .mk 0 0 ⟨#[]⟩ []
def lftT (t : Tm) : Tm := t.args.getD 0 t
def rgtT (t : Tm) : Tm := t.args.getD 1 t
def isPair (t : Tm) : Bool := kindT t == 2 || kindT t == 3 || kindT t == 4
/-- a term as a clause's body, and whether it is one -/
def bodyN : Nat → Tm → Tm × Bool
  | 0, t => (t, true)
  | n + 1, t => if t.k = 1 then (compT (⟨#[99, 97, 108, 108]⟩ : ByteArray) [t], true) else if isPair t = true then
      (if (bodyN n (lftT t)).2 = false then (zeroTm, false) else if (bodyN n (rgtT t)).2 = false then (zeroTm, false) else (compT t.s [(bodyN n (lftT t)).1, (bodyN n (rgtT t)).1], true))
    else (t, t.k != 2)
def bodyT (t : Tm) : Tm × Bool := bodyN t.size t
theorem kindOf_two {s : ByteArray} {n : Int} (h : kindOf s n = 2 ∨ kindOf s n = 3 ∨ kindOf s n = 4) : n = 2 := by
  unfold kindOf at h
  cases hf : kindsL.find? fun x => s.toList == x.1.toList && n == x.2.1 with
  | none => rw [hf] at h; simp at h
  | some x =>
    have hm := List.mem_of_find?_eq_some hf
    have hx := List.find?_some hf
    rw [hf] at h
    simp only [Bool.and_eq_true, beq_iff_eq] at hx h
    rw [hx.2]
    simp only [kindsL, List.mem_cons, List.not_mem_nil, or_false] at hm
    rcases hm with rfl | rfl | rfl | rfl | rfl | rfl | rfl | rfl | rfl | rfl | rfl <;> simp_all
theorem pair_args {t : Tm} (h : isPair t = true) : t.k = 4 ∧ t.args = [lftT t, rgtT t] := by
  have h' : kindT t = 2 ∨ kindT t = 3 ∨ kindT t = 4 := by simpa [isPair, or_assoc] using h
  unfold kindT at h'
  by_cases k3 : t.k = 3
  · rw [if_pos k3] at h'
    have := kindOf_two h'
    omega
  rw [if_neg k3] at h'
  by_cases k4 : t.k = 4
  · rw [if_pos k4] at h'
    by_cases hz : t.args.length = 0
    · rw [if_pos hz] at h'; omega
    · rw [if_neg hz] at h'
      have := kindOf_two h'
      by_cases hc : (t.s.toList == [99, 97, 108, 108]) = true
      · rw [if_pos hc] at this; omega
      · rw [if_neg hc] at this
        have hl : t.args.length = 2 := by omega
        refine ⟨k4, ?_⟩
        unfold lftT rgtT
        match t.args, hl with
        | [x, y], _ => rfl
  · rw [if_neg k4] at h'; omega
theorem pair_size {t : Tm} (h : isPair t = true) : (lftT t).size + (rgtT t).size + 1 = t.size := by
  have := (pair_args h).2
  obtain ⟨k, n, s, a⟩ := t
  simp only [Tm.args] at this
  simp only [Tm.size]
  generalize lftT (.mk k n s a) = x at *
  generalize rgtT (.mk k n s a) = y at *
  subst this
  simp [sizeL]
theorem bodyN_eq : ∀ (n m : Nat) (t : Tm), t.size ≤ n → t.size ≤ m → bodyN n t = bodyN m t
  | 0, _, t, h, _ => by have := size_pos t; omega
  | _ + 1, 0, t, _, h => by have := size_pos t; omega
  | n + 1, m + 1, t, hn, hm => by
    unfold bodyN
    by_cases k1 : t.k = 1
    · rw [if_pos k1, if_pos k1]
    · rw [if_neg k1, if_neg k1]
      by_cases hp : isPair t = true
      · have hs := pair_size hp
        rw [if_pos hp, if_pos hp, bodyN_eq n m (lftT t) (by omega) (by omega), bodyN_eq n m (rgtT t) (by omega) (by omega)]
      · rw [if_neg hp, if_neg hp]
theorem bodyT_eq (t : Tm) : bodyT t = if t.k = 1 then (compT (⟨#[99, 97, 108, 108]⟩ : ByteArray) [t], true) else if isPair t = true then
      (if (bodyT (lftT t)).2 = false then (zeroTm, false) else if (bodyT (rgtT t)).2 = false then (zeroTm, false) else (compT t.s [(bodyT (lftT t)).1, (bodyT (rgtT t)).1], true))
    else (t, t.k != 2) := by
  have h1 : bodyT t = bodyN (t.size + 1) t := bodyN_eq _ _ _ (Nat.le_refl _) (by omega)
  rw [h1]
  rw [show bodyN (t.size + 1) t = _ from by unfold bodyN; rfl]
  by_cases hp : isPair t = true
  · have hs := pair_size hp
    have e1 : bodyT (lftT t) = bodyN t.size (lftT t) := bodyN_eq _ _ _ (Nat.le_refl _) (by omega)
    have e2 : bodyT (rgtT t) = bodyN t.size (rgtT t) := bodyN_eq _ _ _ (Nat.le_refl _) (by omega)
    rw [e1, e2]
  · rw [if_neg hp, if_neg hp]

/-- the topmost Args of what the call made may be written -/
def TopP (B : Nat) (a : Option Addr) (r : Tm) (w' : World) : Prop := r.args ≠ [] → ∃ g, a = some ⟨g, 0, none⟩ ∧ B ≤ g ∧ PlainG w' g
def BodyPost (P : Nat → Prop) (r : Tm × Bool) (w : World) (e : Ending) (w' : World) : Prop :=
  ∃ a c, e = .returned (.tuple #[.agg #[.int .i64 r.1.k, .int .i64 r.1.n, .string r.1.s, .slice a r.1.args.length c], .bool r.2]) ∧
    IsTm w' (fun b => P b ∨ w.heap.size ≤ b) (.agg #[.int .i64 r.1.k, .int .i64 r.1.n, .string r.1.s, .slice a r.1.args.length c]) r.1 ∧ TopP w.heap.size a r.1 w' ∧ Below w.heap.size w w'
/-- the result variable has been written -/
theorem body_fin {P Q : Nat → Prop} {w wr : World} {r : Tm} {a : Option Addr} {c : Nat} {cs : Array Value} (hi : IsTm wr Q (.agg #[.int .i64 r.k, .int .i64 r.n, .string r.s, .slice a r.args.length c]) r)
    (hQ : ∀ b, Q b → (P b ∧ b < w.heap.size) ∨ w.heap.size + 1 < b) (ht : TopP (w.heap.size + 2) a r wr) (hb : Below w.heap.size w wr) :
    IsTm (wr.setRow (w.heap.size + 1) cs) (fun b => P b ∨ w.heap.size ≤ b) (.agg #[.int .i64 r.k, .int .i64 r.n, .string r.s, .slice a r.args.length c]) r ∧ TopP w.heap.size a r (wr.setRow (w.heap.size + 1) cs) ∧ Below w.heap.size w (wr.setRow (w.heap.size + 1) cs) := by
  refine ⟨hi.imp (fun b h => (hQ b h).elim (fun h => .inl h.1) fun h => .inr (by omega)) fun b h _ => setRow_other _ _ _ _ (by rcases hQ b h with h | h <;> omega), fun h => ?_, below_setRow hb (by omega) _⟩
  obtain ⟨g, e, hg, cur, hc⟩ := ht h
  exact ⟨g, e, by omega, cur, (setRow_other _ _ _ _ (by omega)).trans hc⟩
theorem one_sl {w : World} {P : Nat → Prop} {x : Tm} {a : Option Addr} {c : Nat} (hx : IsTm w P (.agg #[.int .i64 x.k, .int .i64 x.n, .string x.s, .slice a x.args.length c]) x) :
    IsSl (w.alloc (.cells #[.int .i64 x.k, .int .i64 x.n, .string x.s, .slice a x.args.length c] 33 (0, 0))) (fun b => P b ∨ w.heap.size ≤ b) (.slice (some ⟨w.heap.size, 0, none⟩) 1 1) [x] := by
  have hb : Below w.heap.size w (w.alloc (.cells #[.int .i64 x.k, .int .i64 x.n, .string x.s, .slice a x.args.length c] 33 (0, 0))) := (Below.refl _ _).alloc (Nat.le_refl _) _
  have h := heap_alloc_new w (.cells #[.int .i64 x.k, .int .i64 x.n, .string x.s, .slice a x.args.length c] 33 (0, 0))
  exact sl_of_cells (cs := [.int .i64 x.k, .int .i64 x.n, .string x.s, .slice a x.args.length c]) h (CellsOf.cons ((hx.below hb).imp (fun _ h => .inl h) fun _ _ _ => rfl) trivial) rfl (.inr (Nat.le_refl _))
theorem two_sl {w : World} {P : Nat → Prop} {x y : Tm} {a a' : Option Addr} {c c' : Nat} (hx : IsTm w P (.agg #[.int .i64 x.k, .int .i64 x.n, .string x.s, .slice a x.args.length c]) x) (hy : IsTm w P (.agg #[.int .i64 y.k, .int .i64 y.n, .string y.s, .slice a' y.args.length c']) y) :
    IsSl (w.alloc (.cells #[.int .i64 x.k, .int .i64 x.n, .string x.s, .slice a x.args.length c, .int .i64 y.k, .int .i64 y.n, .string y.s, .slice a' y.args.length c'] 33 (0, 0))) (fun b => P b ∨ w.heap.size ≤ b) (.slice (some ⟨w.heap.size, 0, none⟩) 2 2) [x, y] := by
  have hb : Below w.heap.size w (w.alloc (.cells #[.int .i64 x.k, .int .i64 x.n, .string x.s, .slice a x.args.length c, .int .i64 y.k, .int .i64 y.n, .string y.s, .slice a' y.args.length c'] 33 (0, 0))) := (Below.refl _ _).alloc (Nat.le_refl _) _
  have h := heap_alloc_new w (.cells #[.int .i64 x.k, .int .i64 x.n, .string x.s, .slice a x.args.length c, .int .i64 y.k, .int .i64 y.n, .string y.s, .slice a' y.args.length c'] 33 (0, 0))
  exact sl_of_cells (cs := [.int .i64 x.k, .int .i64 x.n, .string x.s, .slice a x.args.length c, .int .i64 y.k, .int .i64 y.n, .string y.s, .slice a' y.args.length c']) h (CellsOf.cons ((hx.below hb).imp (fun _ h => .inl h) fun _ _ _ => rfl) (CellsOf.cons ((hy.below hb).imp (fun _ h => .inl h) fun _ _ _ => rfl) trivial)) rfl (.inr (Nat.le_refl _))

/-- a value that goal.own made, from block B on -/
def GowV (P : Nat → Prop) (B : Nat) (t : Tm) (v : Value) (u : World) : Prop := ∃ a c, v = .agg #[.int .i64 t.k, .int .i64 t.n, .string t.s, .slice a t.args.length c] ∧ IsTm u (fun b => P b ∨ B ≤ b) (.agg #[.int .i64 t.k, .int .i64 t.n, .string t.s, .slice a t.args.length c]) t ∧
  (t.args ≠ [] → ∃ g, a = some ⟨g, 0, none⟩ ∧ B ≤ g ∧ PlainG u g)
theorem GowV.keep {P : Nat → Prop} {B : Nat} {t : Tm} {v : Value} {u u' : World} {M : Nat → Prop} (h : GowV P B t v u) (hb : Keeps u u' M) (hM : ∀ b, M b → P b ∨ B ≤ b → False) : GowV P B t v u' := by
  obtain ⟨a, c, e, h1, h2⟩ := h
  refine ⟨a, c, e, h1.imp (fun _ h => h) fun b hp hlt => hb.block b hlt fun hm => hM b hm hp, fun h => ?_⟩
  obtain ⟨g, e1, hg, cur, hc⟩ := h2 h
  exact ⟨g, e1, hg, cur, (hb.block g (Array.getElem?_eq_some_iff.1 hc).1 fun hm => hM g hm (.inr hg)).trans hc⟩
theorem gow_stored {P : Nat → Prop} {w W0 u : World} {t : Tm} {a : Option Addr} {c : Nat} {old : Array Value} (hr : u.heap[w.heap.size + 1]? = some (.cells old 33 (0, 0)))
    (hi : IsTm u (fun b => (P b ∧ b < w.heap.size) ∨ W0.heap.size ≤ b) (.agg #[.int .i64 t.k, .int .i64 t.n, .string t.s, .slice a t.args.length c]) t) (ht : t.args ≠ [] → ∃ g, a = some ⟨g, 0, none⟩ ∧ W0.heap.size ≤ g ∧ PlainG u g) (hz : W0.heap.size ≤ u.heap.size) (hw : w.heap.size + 2 ≤ W0.heap.size) :
    Keeps u (u.setRow (w.heap.size + 1) #[.int .i64 t.k, .int .i64 t.n, .string t.s, .slice a t.args.length c]) (fun b => b = w.heap.size + 1) ∧
      (∃ a' c', (u.setRow (w.heap.size + 1) #[.int .i64 t.k, .int .i64 t.n, .string t.s, .slice a t.args.length c]).heap[w.heap.size + 1]? = some (.cells #[.int .i64 t.k, .int .i64 t.n, .string t.s, .slice a' t.args.length c'] 33 (0, 0)) ∧
        GowV (fun b => P b ∧ b < w.heap.size) W0.heap.size t (.agg #[.int .i64 t.k, .int .i64 t.n, .string t.s, .slice a' t.args.length c']) (u.setRow (w.heap.size + 1) #[.int .i64 t.k, .int .i64 t.n, .string t.s, .slice a t.args.length c]) ∧
        w.heap.size + 1 < (u.setRow (w.heap.size + 1) #[.int .i64 t.k, .int .i64 t.n, .string t.s, .slice a t.args.length c]).heap.size) := by
  have hk : Keeps u (u.setRow (w.heap.size + 1) #[.int .i64 t.k, .int .i64 t.n, .string t.s, .slice a t.args.length c]) (fun b => b = w.heap.size + 1) := ⟨rfl, rfl, rfl, by simp, fun b _ hn => setRow_other _ _ _ _ hn⟩
  exact ⟨hk, a, c, setRow_heap _ _ _ _ _ _ hr, GowV.keep ⟨a, c, rfl, hi, ht⟩ hk fun b e hp => by rcases hp with hp | hp <;> omega, by simp; omega⟩
end Go.Proofs.Ytoklbeogmcdgaaa.Tms
