
/-
  Atoms, compound terms and indicators, of the program and of the reference, walked over the program.
-/
import Derived.Test.YtokhiolimioicaaSame
import Derived.Laws.Tables
namespace Go.Proofs.Ytokhiolimioicaa.Tms
open Go Go.RowKit Go.Proofs.Ytokhiolimioicaa.Reg

abbrev atomV (s : ByteArray) : Value := .agg #[.int .i64 3, .int .i64 0, .string s, .slice none 0 0]
abbrev intV (n : Int) : Value := .agg #[.int .i64 2, .int .i64 n, .string ⟨#[]⟩, .slice none 0 0]
abbrev compV (s : ByteArray) (a : Option Addr) (n cap : Nat) : Value := .agg #[.int .i64 4, .int .i64 0, .string s, .slice a n cap]
def atomT (s : ByteArray) : Tm := .mk 3 0 s []
def intT (n : Int) : Tm := .mk 2 n ⟨#[]⟩ []
def compT (s : ByteArray) (l : List Tm) : Tm := .mk 4 0 s l
theorem atom_is (w : World) (P : Nat → Prop) (s : ByteArray) : IsTm w P (atomV s) (atomT s) := IsTm.mk' (t := atomT s) (IsSl.nil w P none 0)
theorem int_is (w : World) (P : Nat → Prop) (n : Int) : IsTm w P (intV n) (intT n) := IsTm.mk' (t := intT n) (IsSl.nil w P none 0)
theorem comp_is {w : World} {P : Nat → Prop} {s : ByteArray} {a : Option Addr} {cap : Nat} {l : List Tm} (h : IsSl w P (.slice a l.length cap) l) : IsTm w P (compV s a l.length cap) (compT s l) := IsTm.mk' (t := compT s l) h
theorem one4 (k n : Int) (s : ByteArray) (a : Option Addr) (l c : Nat) : (#[Value.int .i64 k, .int .i64 n, .string s, .slice a l c].all fun v => v.oneCell') = true := by simp [Value.oneCell']
theorem size_term : (Try.prog.info? 27).map (·.size) = some 4 := by kernel_rfl

theorem flt_atom (s : ByteArray) (w : World) : Calls Try.prog 72 #[.string s] w fun e w' => e = .returned (atomV s) ∧ Below w.heap.size w w' := by
  go_enter Try.func72, Try.ntmps72
  go_wp2
  exact bodyPost_ret (v := atomV s) (by simp [results, Try.results72, go_sem]) rfl ⟨rfl, (Below.refl _ _).alloc (Nat.le_refl _) _⟩

theorem flt_comp (s : ByteArray) (a : Option Addr) (n cap : Nat) (w : World) : Calls Try.prog 68 #[.string s, .slice a n cap] w fun e w' => e = .returned (compV s a n cap) ∧ Below w.heap.size w w' := by
  go_enter Try.func68, Try.ntmps68
  go_wp2
  exact bodyPost_ret (v := compV s a n cap) (by simp [results, Try.results68, go_sem]) rfl ⟨rfl, (Below.refl _ _).alloc (Nat.le_refl _) _⟩

def slash : ByteArray := ⟨#[47]⟩
def indT (s : ByteArray) (n : Int) : Tm := compT slash [atomT s, intT n]
/-- what a call that makes a term leaves: it lies in blocks of P or in new ones -/
def MakesTm (P : Nat → Prop) (t : Tm) (w : World) (e : Ending) (w' : World) : Prop := ∃ v, e = .returned v ∧ IsTm w' (fun b => P b ∨ w.heap.size ≤ b) v t ∧ Below w.heap.size w w'

/-- two terms in a new block -/
theorem pair_sl {w : World} {P : Nat → Prop} {b cap : Nat} {T : TypeId} {t1 t2 : Tm} {a1 a2 : Option Addr} {c1 c2 : Nat} (hb : P b)
    (h : w.heap[b]? = some (.cells #[.int .i64 t1.k, .int .i64 t1.n, .string t1.s, .slice a1 t1.args.length c1, .int .i64 t2.k, .int .i64 t2.n, .string t2.s, .slice a2 t2.args.length c2] T (0, 0)))
    (h1 : IsSl w P (.slice a1 t1.args.length c1) t1.args) (h2 : IsSl w P (.slice a2 t2.args.length c2) t2.args) : IsSl w P (.slice (some ⟨b, 0, none⟩) 2 cap) [t1, t2] := by
  refine IsSl.mk' (ts := [t1, t2]) fun i hi => ⟨b, 0, rfl, hb, ?_⟩
  have hi2 : i < 2 := hi
  have : i = 0 ∨ i = 1 := by omega
  rcases this with rfl | rfl
  · exact TmAt.mk' (cell_of_row w b _ _ _ _ h) (cell_of_row w b _ _ _ _ h) (cell_of_row w b _ _ _ _ h) (cell_of_row w b _ _ _ _ h) h1
  · exact TmAt.mk' (cell_of_row w b _ _ _ _ h) (cell_of_row w b _ _ _ _ h) (cell_of_row w b _ _ _ _ h) (cell_of_row w b _ _ _ _ h) h2

theorem flt_ind (s : ByteArray) (n : Int) (w : World) : Calls Try.prog 70 #[.string s, .int .i64 n] w (MakesTm (fun _ => False) (indT s n) w) := by
  go_enter Try.func70, Try.ntmps70
  go_wp2_with fail
  refine (flt_atom s _).mono ?_
  rintro e w2 ⟨rfl, hb2⟩
  have hz : w2.heap[w.heap.size]? = some (.cells #[.int .i64 0, .int .i64 0, .string ⟨#[]⟩, .slice none 0 0] 27 (0, 0)) := (hb2.block _ (by simp)).trans (heap_alloc_new w _)
  have hbl : Below w.heap.size w w2 := ((Below.refl _ _).alloc (Nat.le_refl _) _).trans (hb2.mono (by simp))
  have hlt : w.heap.size < w2.heap.size := by have := hb2.size; simp at this; omega
  have HZ := Lib.hid hz
  have HBL := Lib.hid hbl
  clear hz hbl hb2
  go_wp2_with fail
  refine (flt_comp _ _ _ _ _).mono ?_
  rintro e w3 ⟨rfl, hb3⟩
  have hz3 : w3.heap[w.heap.size]? = some (.cells #[.int .i64 0, .int .i64 0, .string ⟨#[]⟩, .slice none 0 0] 27 (0, 0)) := (hb3.block _ (by simp; omega)).trans ((heap_alloc_old _ _ hlt).trans HZ.out)
  have hc3 := (hb3.block w2.heap.size (by simp)).trans (heap_alloc_new w2 _)
  have hbl3 : Below w.heap.size w w3 := (HBL.out.alloc (Nat.le_of_lt hlt) _).trans (hb3.mono (by simp; omega))
  have HZ3 := Lib.hid hz3
  have HC3 := Lib.hid hc3
  have HBL3 := Lib.hid hbl3
  clear hz3 hc3 hbl3 hb3
  rename_i Q K1 hK1 K hK
  refine hK _ _ ?_
  refine wpList_store_row rfl 27 (.tmp 4) (.tmp 10) rfl w.heap.size #[.int .i64 4, .int .i64 0, .string slash, .slice (some ⟨w2.heap.size, 0, none⟩) 2 2] rfl rfl _ _ HZ3.out size_term rfl (one4 _ _ _ _ _ _) ?_
  have hne : w2.heap.size ≠ w.heap.size := by omega
  have hc4 := (setRow_other w3 w.heap.size w2.heap.size (#[.int .i64 4, .int .i64 0, .string slash, .slice (some ⟨w2.heap.size, 0, none⟩) 2 2] : Array Value) hne).trans HC3.out
  have hz4 := setRow_heap w3 w.heap.size _ (#[.int .i64 4, .int .i64 0, .string slash, .slice (some ⟨w2.heap.size, 0, none⟩) 2 2] : Array Value) _ _ HZ3.out
  have hb4 : Below w.heap.size w (w3.setRow w.heap.size (#[.int .i64 4, .int .i64 0, .string slash, .slice (some ⟨w2.heap.size, 0, none⟩) 2 2] : Array Value)) := HBL3.out.trans ⟨rfl, rfl, rfl, by simp, fun k hk => setRow_other _ _ _ _ (by omega)⟩
  generalize w3.setRow w.heap.size (#[.int .i64 4, .int .i64 0, .string slash, .slice (some ⟨w2.heap.size, 0, none⟩) 2 2] : Array Value) = w4 at *
  have HZ4 := Lib.hid hz4
  have HC4 := Lib.hid hc4
  have HBL4 := Lib.hid hb4
  clear hz4 hc4 hb4 HZ3 HC3 HBL3
  refine wpList_nil (hK1 _ _ ?_)
  go_wp2
  refine bodyPost_ret (v := compV slash (some ⟨w2.heap.size, 0, none⟩) 2 2) (results_cell_row Try.results70 _ _ w.heap.size _ _ _ _ rfl HZ4.out Try.underlying27 rfl (by kernel_rfl)) rfl ⟨_, rfl, comp_is (l := [atomT s, intT n]) (pair_sl (t1 := atomT s) (t2 := intT n) (.inr (Nat.le_of_lt hlt)) HC4.out (IsSl.nil _ _ none 0) (IsSl.nil _ _ none 0)), HBL4.out⟩

end Go.Proofs.Ytokhiolimioicaa.Tms
