
/-
  The reference's Rename and Number, walked over the program.
-/
import Derived.Test.YtibjcfbilkkmkaaRvr
import Derived.Test.YtibjcfbilkkmkaaChn
import Derived.Test.YtibjcfbilkkmkaaAvd
namespace Go.Proofs.Ytibjcfbilkkmkaa.Tms
open Go Go.RowKit Go.Proofs.Ytibjcfbilkkmkaa.Reg
set_option linter.unusedVariables false

structure RrCtx (w : World) (k n : Int) (s : ByteArray) (v : Value) (wr : World) : Prop where
  res : wr.heap[w.heap.size + 1]? = some (.cells #[.int .i64 0, .int .i64 0, .string ⟨#[]⟩, .slice none 0 0] 30 (0, 0))
  box : wr.heap[w.heap.size + 2]? = some (.cells #[.int .i64 k, .int .i64 n, .string s, v] 30 (0, 0))
  bel : Below w.heap.size w wr
  big : w.heap.size + 3 ≤ wr.heap.size
theorem RrCtx.on {w : World} {k n : Int} {s : ByteArray} {v : Value} {wr w' : World} (h : RrCtx w k n s v wr) (hb : Below (w.heap.size + 3) wr w') : RrCtx w k n s v w' :=
  ⟨(hb.block _ (by omega)).trans h.res, (hb.block _ (by omega)).trans h.box, h.bel.trans (hb.mono (by omega)), Nat.le_trans h.big hb.size⟩
theorem RrCtx.store {w : World} {k n : Int} {s : ByteArray} {v v' : Value} {wr : World} (h : RrCtx w k n s v wr) : RrCtx w k n s v' (wr.setCell ⟨w.heap.size + 2, 3, none⟩ v') := by
  have hbel : Below w.heap.size w (wr.setCell ⟨w.heap.size + 2, 3, none⟩ v') := h.bel.setCell (show w.heap.size ≤ w.heap.size + 2 by omega) _
  have ne := fun (k : Nat) (hk : k ≠ w.heap.size + 2) => Below.heap_setCell wr ⟨w.heap.size + 2, 3, none⟩ v' k hk
  refine ⟨(ne _ (by omega)).trans h.res, ?_, hbel, by simpa [World.setCell] using h.big⟩
  have := heap_setCell_same wr (w.heap.size + 2) 3 _ _ v' h.box
  simpa using this
def RrRel (w : World) (L : List Int) (k n : Int) (s : ByteArray) (ts : List Tm) (vi : Value) (wr : World) : Prop :=
  ∃ (q : Nat) (v : Value), q ≤ ts.length ∧ vi = .int .i64 q ∧ RrCtx w k n s v wr ∧ OwnSl wr (w.heap.size + 3) (fun b => w.heap.size + 3 ≤ b) v (rrL L (ts.take q))
theorem rr_start (w : World) (L : List Int) (k n : Int) (s : ByteArray) (ts : List Tm) (o : Obj) :
    RrRel w L k n s ts (.int .i64 ((0 : Nat) : Int)) (((w.alloc o).alloc (.cells #[.int .i64 0, .int .i64 0, .string ⟨#[]⟩, .slice none 0 0] 30 (0, 0))).alloc (.cells #[.int .i64 k, .int .i64 n, .string s, .slice none 0 0] 30 (0, 0))) := by
  obtain ⟨t0, t1, tsz, tbl⟩ := two w o (.cells #[.int .i64 0, .int .i64 0, .string ⟨#[]⟩, .slice none 0 0] 30 (0, 0))
  generalize (w.alloc o).alloc (.cells #[.int .i64 0, .int .i64 0, .string ⟨#[]⟩, .slice none 0 0] 30 (0, 0)) = w2 at *
  have hb : Below w2.heap.size w2 (w2.alloc (.cells #[.int .i64 k, .int .i64 n, .string s, .slice none 0 0] 30 (0, 0))) := (Below.refl _ _).alloc (Nat.le_refl _) _
  have hbel := tbl.trans (hb.mono (by omega))
  refine ⟨0, .slice none 0 0, by omega, rfl, ⟨(hb.block _ (by omega)).trans t1, ?_, hbel, by simp; omega⟩, OwnSl.nil _ _ _⟩
  rw [show w.heap.size + 2 = w2.heap.size by omega]
  exact heap_alloc_new _ _
theorem rr_end {w wr : World} {L : List Int} {k n : Int} {s : ByteArray} {ts : List Tm} {a : Option Addr} {c m : Nat} (hk : k ≠ 1) (hc : RrCtx w k n s (.slice a m c) wr) (ho : OwnSl wr (w.heap.size + 3) (fun b => w.heap.size + 3 ≤ b) (.slice a m c) (rrL L ts)) (hm : m = (rrL L ts).length) {cs : Array Value} :
    IsTm (wr.setRow (w.heap.size + 1) cs) (fun b => w.heap.size ≤ b) (.agg #[.int .i64 k, .int .i64 n, .string s, .slice a m c]) (rrT L (.mk k n s ts)) ∧ Below w.heap.size w (wr.setRow (w.heap.size + 1) cs) := by
  subst hm
  have e : rrT L (.mk k n s ts) = .mk k n s (rrL L ts) := by rw [rrT, if_neg hk]
  rw [e]
  refine ⟨IsTm.mk' (t := .mk k n s (rrL L ts)) ?_, hc.bel.trans ⟨rfl, rfl, rfl, by simp, fun k hk => setRow_other _ _ _ _ (by omega)⟩⟩
  exact ho.reads.imp (fun b h => by rcases h with h | h <;> omega) fun b h _ => setRow_other _ _ _ _ (by rcases h with h | h <;> omega)

def RrPost (u : Tm) (w : World) (e : Ending) (w' : World) : Prop := ∃ v, e = .returned v ∧ IsTm w' (fun b => w.heap.size ≤ b) v u ∧ Below w.heap.size w w'
end Go.Proofs.Ytibjcfbilkkmkaa.Tms
