
/-
  CompNames's inner function: a term whose variables have other numbers, walked over the program.
-/
import Derived.Test.YtibjcfbilkkmkaaPut
import Derived.Test.YtibjcfbilkkmkaaRrn
import Derived.Test.YtibjcfbilkkmkaaCodW
namespace Go.Proofs.Ytibjcfbilkkmkaa.Tms
open Go Go.RowKit Go.Proofs.Ytibjcfbilkkmkaa.Reg Go.Proofs.Ytibjcfbilkkmkaa.Rws Go.Proofs.Ytibjcfbilkkmkaa.Cod Go.Proofs.Ytibjcfbilkkmkaa.Maps
set_option linter.unusedVariables false

/-- a number turned into another one -/
def turnN (by_ : Int) (n : Int) : Int := n.tdiv 2 * 2 + 1 - n % 2 + 2 * by_
theorem turnN_one {y a b : Int} (ha : 0 ≤ a) (hb : 0 ≤ b) (h : turnN y a = turnN y b) : a = b := by
  unfold turnN at h
  rw [Int.tdiv_eq_ediv_of_nonneg ha, Int.tdiv_eq_ediv_of_nonneg hb] at h
  omega
theorem renL_len (φ : Int → Int) : ∀ l : List Tm, (renL φ l).length = l.length
  | [] => by simp [renL]
  | t :: l => by simp [renL, renL_len φ l]
theorem renL_take (φ : Int → Int) (ts : List Tm) (q : Nat) (h : q < ts.length) : renL φ (ts.take (q + 1)) = renL φ (ts.take q) ++ [renT φ ts[q]] := by
  rw [renL_map, renL_map, List.take_succ_eq_append_getElem h, List.map_append]
  rfl
def TnRel (w : World) (φ : Int → Int) (k n : Int) (s : ByteArray) (ts : List Tm) (vi : Value) (wr : World) : Prop :=
  ∃ (q : Nat) (v : Value), q ≤ ts.length ∧ vi = .int .i64 q ∧ RrCtx w k n s v wr ∧ OwnSl wr (w.heap.size + 3) (fun b => w.heap.size + 3 ≤ b) v (renL φ (ts.take q))
theorem tn_start (w : World) (φ : Int → Int) (k n : Int) (s : ByteArray) (ts : List Tm) (o : Obj) :
    TnRel w φ k n s ts (.int .i64 ((0 : Nat) : Int)) (((w.alloc o).alloc (.cells #[.int .i64 0, .int .i64 0, .string ⟨#[]⟩, .slice none 0 0] 30 (0, 0))).alloc (.cells #[.int .i64 k, .int .i64 n, .string s, .slice none 0 0] 30 (0, 0))) := by
  obtain ⟨t0, t1, tsz, tbl⟩ := two w o (.cells #[.int .i64 0, .int .i64 0, .string ⟨#[]⟩, .slice none 0 0] 30 (0, 0))
  generalize (w.alloc o).alloc (.cells #[.int .i64 0, .int .i64 0, .string ⟨#[]⟩, .slice none 0 0] 30 (0, 0)) = w2 at *
  have hb : Below w2.heap.size w2 (w2.alloc (.cells #[.int .i64 k, .int .i64 n, .string s, .slice none 0 0] 30 (0, 0))) := (Below.refl _ _).alloc (Nat.le_refl _) _
  have hbel := tbl.trans (hb.mono (by omega))
  refine ⟨0, .slice none 0 0, by omega, rfl, ⟨(hb.block _ (by omega)).trans t1, ?_, hbel, by simp; omega⟩, OwnSl.nil _ _ _⟩
  rw [show w.heap.size + 2 = w2.heap.size by omega]
  exact heap_alloc_new _ _
theorem tn_end {w wr : World} {φ : Int → Int} {t : Tm} {k n : Int} {s : ByteArray} {ts : List Tm} {a : Option Addr} {c m : Nat} (ht : renT φ t = .mk k n s (renL φ ts)) (hc : RrCtx w k n s (.slice a m c) wr) (ho : OwnSl wr (w.heap.size + 3) (fun b => w.heap.size + 3 ≤ b) (.slice a m c) (renL φ ts)) (hm : m = (renL φ ts).length) {cs : Array Value} :
    IsTm (wr.setRow (w.heap.size + 1) cs) (fun b => w.heap.size ≤ b) (.agg #[.int .i64 k, .int .i64 n, .string s, .slice a m c]) (renT φ t) ∧ Below w.heap.size w (wr.setRow (w.heap.size + 1) cs) := by
  subst hm
  rw [ht]
  refine ⟨IsTm.mk' (t := .mk k n s (renL φ ts)) ?_, hc.bel.trans ⟨rfl, rfl, rfl, by simp, fun k hk => setRow_other _ _ _ _ (by omega)⟩⟩
  exact ho.reads.imp (fun b h => by rcases h with h | h <;> omega) fun b h _ => setRow_other _ _ _ _ (by rcases h with h | h <;> omega)

end Go.Proofs.Ytibjcfbilkkmkaa.Tms
