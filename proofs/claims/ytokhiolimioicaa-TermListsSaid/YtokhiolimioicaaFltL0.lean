
/-
  The statements of layer 13: alive, walked over the program.
-/
import Derived.Test.YtokhiolimioicaaMend
import Derived.Test.YtokhiolimioicaaFltS
namespace Go.Proofs.Ytokhiolimioicaa.Tms
open Go Go.RowKit Go.Proofs.Ytokhiolimioicaa.Reg

/-- what lies at place i of a slice of terms, its cells -/
theorem IsSl.cells {w : World} {P : Nat → Prop} {a : Option Addr} {n cap : Nat} {l : List Tm} (h : IsSl w P (.slice a n cap) l) (hn : 0 < l.length) : ∃ b off, a = some ⟨b, off, none⟩ ∧ b < w.heap.size ∧ P b ∧ ∀ i (hi : i < l.length), TmAt w P b (off + i * 4) l[i] := by
  obtain ⟨a', c', e, h'⟩ := id h
  obtain ⟨rfl, -, -⟩ := Value.slice.inj e
  obtain ⟨b, off, rfl, hp, ht⟩ := argsFrom_at h' 0 hn
  obtain ⟨_, _, x0, -⟩ := ht.read
  refine ⟨b, off, rfl, World.block_lt_of_cell? _ _ x0, hp, fun i hi => ?_⟩
  obtain ⟨b', off', e', -, ht'⟩ := argsFrom_at h' i hi
  simp only [Option.some.injEq, Addr.mk.injEq, and_true] at e'
  obtain ⟨rfl, rfl⟩ := e'
  exact ht'

/-- these places hold these values -/
def Cells : List (Nat × Nat × Value) → World → Prop
  | [], _ => True
  | x :: l, u => (u.cell? ⟨x.1, x.2.1, none⟩ = some x.2.2) ∧ Cells l u
theorem Cells.below {w w' : World} (hb : Below w.heap.size w w') : ∀ {l : List (Nat × Nat × Value)}, Cells l w → Cells l w'
  | [], _ => trivial
  | x :: _, h => ⟨(hb.cell (p := ⟨x.1, x.2.1, none⟩) (World.block_lt_of_cell? _ _ h.1)).trans h.1, Cells.below hb h.2⟩

theorem field2 (w : World) (a b c d : Value) : (Instr.field 27 (.agg #[a, b, c, d]) 2).run Try.prog w = .ok c w := by kernel_rfl

def aliveT : Tm := compT (⟨#[116, 121, 112, 101, 95, 101, 114, 114, 111, 114]⟩ : ByteArray) [atomT (⟨#[105, 110, 116, 101, 103, 101, 114]⟩ : ByteArray), atomT (⟨#[97]⟩ : ByteArray)]
set_option maxRecDepth 100000 in
set_option maxHeartbeats 1600000 in
theorem flt_alive (w : World) : Calls Try.prog 39 #[] w (Says true w) := by
  have hA := (Below.refl w.heap.size w).alloc (Nat.le_refl _) (.cells #[.int .i64 3, .int .i64 0, .string (⟨#[97]⟩ : ByteArray), .slice none 0 0] 27 (0, 0))
  have HB := Lib.hid hA
  clear hA
  go_enter Try.func39, Try.ntmps39
  go_wp2_with fail
  refine (flt_formal 13 (⟨#[105, 110, 116, 101, 103, 101, 114]⟩ : ByteArray) (atomT (⟨#[97]⟩ : ByteArray)) _ (fun _ => False) _ (by decide) (atom_is _ _ _)).mono ?_
  rintro e2 w2 ⟨v2, rfl, hi2, hb2⟩
  have he : formalE 13 (⟨#[105, 110, 116, 101, 103, 101, 114]⟩ : ByteArray) (atomT (⟨#[97]⟩ : ByteArray)) = aliveT := rfl
  rw [he] at hi2
  obtain ⟨a2, c2, rfl⟩ := hi2.form
  obtain ⟨b, off, rfl, hlt, -, hat⟩ := hi2.args.cells (by decide)
  obtain ⟨_, _, -, -, x2, -⟩ := (hat 0 (by decide)).read
  obtain ⟨_, _, -, -, y2, -⟩ := (hat 1 (by decide)).read
  have x2' : w2.cell? ⟨b, off + 2, none⟩ = some (.string (⟨#[105, 110, 116, 101, 103, 101, 114]⟩ : ByteArray)) := x2
  have y2' : w2.cell? ⟨b, off + 4 + 2, none⟩ = some (.string (⟨#[97]⟩ : ByteArray)) := y2
  have hz1 : w.heap.size < w2.heap.size := by have := hb2.size; simp at this; omega
  have hbx : ∀ o, w2.cell? ⟨w.heap.size, o, none⟩ = (#[.int .i64 3, .int .i64 0, .string (⟨#[97]⟩ : ByteArray), .slice none 0 0] : Array Value)[o]? := fun o => cell_of_row w2 _ o _ _ _ ((hb2.block _ (by simp)).trans (heap_alloc_new _ _))
  have z0 := hbx 0
  have z1 := hbx 1
  have z2 := hbx 2
  have z3 := hbx 3
  replace HB := Lib.hid (HB.out.trans (hb2.mono (by simp)))
  have f0 : aliveT.k = 4 := rfl
  have f1 : aliveT.n = 0 := rfl
  have f2 : aliveT.s = (⟨#[116, 121, 112, 101, 95, 101, 114, 114, 111, 114]⟩ : ByteArray) := rfl
  have f3 : aliveT.args.length = 2 := rfl
  rw [f0, f1, f2, f3]
  clear hi2 hb2 hat x2 y2 hbx he f0 f1 f2 f3
  go_wp2_with fail
  refine (flt_formal 12 ⟨#[]⟩ (atomT (⟨#[97]⟩ : ByteArray)) _ (fun _ => False) _ (by decide) (atom_is _ _ _)).mono ?_
  rintro e3 w3 ⟨v3, rfl, hi3, hb3⟩
  have he : formalE 12 ⟨#[]⟩ (atomT (⟨#[97]⟩ : ByteArray)) = atomT (⟨#[105, 110, 115, 116, 97, 110, 116, 105, 97, 116, 105, 111, 110, 95, 101, 114, 114, 111, 114]⟩ : ByteArray) := rfl
  rw [he] at hi3
  obtain ⟨a3, c3, rfl⟩ := hi3.form
  have f2 : (atomT (⟨#[105, 110, 115, 116, 97, 110, 116, 105, 97, 116, 105, 111, 110, 95, 101, 114, 114, 111, 114]⟩ : ByteArray)).s = (⟨#[105, 110, 115, 116, 97, 110, 116, 105, 97, 116, 105, 111, 110, 95, 101, 114, 114, 111, 114]⟩ : ByteArray) := rfl
  rw [f2]
  have hfin := HB.out.trans (((Below.refl w2.heap.size w2).alloc (Nat.le_refl _) _).trans (hb3.mono (by simp)) |>.mono (by omega))
  have HF := Lib.hid hfin
  clear f2 he hi3 hb3 hfin
  have hfl := field2
  go_wp2
  go_ret
  exact ⟨rfl, HF.out⟩
end Go.Proofs.Ytokhiolimioicaa.Tms
