
/-
  fault.Error, Unknown, Static walked over the program.
-/
import Derived.Test.YtokhiolimioicaaFltM
namespace Go.Proofs.Ytokhiolimioicaa.Tms
open Go Go.RowKit Go.Proofs.Ytokhiolimioicaa.Reg Go.Proofs.Ytokhiolimioicaa.Maps

theorem sl_of_cells {w : World} {P : Nat → Prop} {g n cap : Nat} {cs : List Value} {T : TypeId} {fr : Nat × Nat} {ts : List Tm} (h : w.heap[g]? = some (.cells cs.toArray T fr)) (hc : CellsOf w P cs ts) (hn : ts.length = n) (hP : P g) : IsSl w P (.slice (some ⟨g, 0, none⟩) n cap) ts := by
  subst hn
  refine IsSl.mk' fun i hi => ⟨g, 0, rfl, hP, hc.at_ 0 (fun j v hj => ?_) i hi⟩
  rw [cell_of_row w g _ _ _ _ h, Nat.zero_add]
  simpa using hj
theorem CellsOf.cons {w : World} {P : Nat → Prop} {c0 c1 c2 c3 : Value} {t : Tm} {cs : List Value} {ts : List Tm} (ht : IsTm w P (.agg #[c0, c1, c2, c3]) t) (h : CellsOf w P cs ts) : CellsOf w P (c0 :: c1 :: c2 :: c3 :: cs) (t :: ts) := by
  obtain ⟨a, c, e, h'⟩ := ht
  simp only [Value.agg.injEq, Array.mk.injEq, List.cons.injEq, and_true] at e
  obtain ⟨rfl, rfl, rfl, rfl⟩ := e
  exact ⟨rfl, rfl, rfl, ⟨a, c, rfl, h'⟩, h⟩

def zeroT : Array Value := #[.int .i64 0, .int .i64 0, .string ⟨#[]⟩, .slice none 0 0]
/-- the result variable, still zero, in block r; what was there first is as it was -/
structure Rz (w : World) (r base : Nat) (u : World) : Prop where
  res : u.heap[r]? = some (.cells #[.int .i64 0, .int .i64 0, .string ⟨#[]⟩, .slice none 0 0] 27 (0, 0))
  bel : Below w.heap.size w u
  low : w.heap.size ≤ r ∧ r < base ∧ base ≤ u.heap.size
theorem Rz.on {w : World} {r base : Nat} {u u' : World} (h : Rz w r base u) (hb : Below base u u') : Rz w r base u' :=
  ⟨(hb.block _ h.low.2.1).trans h.res, h.bel.trans (hb.mono (by have := h.low; omega)), h.low.1, h.low.2.1, Nat.le_trans h.low.2.2 hb.size⟩
theorem Rz.next {w : World} {r base : Nat} {u u' : World} (h : Rz w r base u) (hb : Below u.heap.size u u') : Rz w r base u' := h.on (hb.mono h.low.2.2)
theorem Rz.first (w : World) : Rz w w.heap.size (w.heap.size + 1) (w.alloc (.cells #[.int .i64 0, .int .i64 0, .string ⟨#[]⟩, .slice none 0 0] 27 (0, 0))) :=
  ⟨heap_alloc_new _ _, (Below.refl _ _).alloc (Nat.le_refl _) _, Nat.le_refl _, Nat.lt_succ_self _, by simp⟩
theorem Rz.second (w : World) (o : Obj) : Rz w (w.heap.size + 1) (w.heap.size + 2) ((w.alloc o).alloc (.cells #[.int .i64 0, .int .i64 0, .string ⟨#[]⟩, .slice none 0 0] 27 (0, 0))) := by
  obtain ⟨-, t1, tsz, tbl⟩ := two w o (.cells #[.int .i64 0, .int .i64 0, .string ⟨#[]⟩, .slice none 0 0] 27 (0, 0))
  exact ⟨t1, tbl, by omega, by omega, by omega⟩
/-- a fresh block after it -/
theorem Rz.row {w : World} {r base : Nat} {u : World} (h : Rz w r base u) (o : Obj) : Rz w r base (u.alloc o) ∧ (u.alloc o).heap[u.heap.size]? = some o ∧ base ≤ u.heap.size :=
  ⟨h.next ((Below.refl _ _).alloc (Nat.le_refl _) _), heap_alloc_new _ _, h.low.2.2⟩

abbrev Low (P : Nat → Prop) (w : World) (base : Nat) : Nat → Prop := fun b => (P b ∧ b < w.heap.size) ∨ base ≤ b

def errorT (t : Tm) (s : ByteArray) (n : Int) : Tm := compT (⟨#[101, 114, 114, 111, 114]⟩ : ByteArray) [t, indT s n]

set_option maxHeartbeats 1600000 in
theorem flt_error (t : Tm) (s : ByteArray) (n : Int) (v : Value) (P : Nat → Prop) (w : World) (hM : t.size ≤ 1000000000) (h : IsTm w P v t) :
    Calls Try.prog 40 #[v, .string s, .int .i64 n] w (MakesTm P (errorT t s n) w) := by
  have hl := h.lt
  clear h
  obtain ⟨a, cap, rfl⟩ := hl.form
  have RZ := Lib.hid (Rz.second w (.cells #[.int .i64 t.k, .int .i64 t.n, .string t.s, .slice a t.args.length cap] 27 (0, 0)))
  have HL := Lib.hid hl
  clear hl
  go_enter Try.func40, Try.ntmps40
  go_wp2_with (first
    | (go_at_call 69
       refine (flt_own t _ (fun b => P b ∧ b < w.heap.size) _ hM (HL.out.imp (fun _ h => h) fun b h _ => RZ.out.bel.block b h.2)).mono ?_
       rintro e2 w2 ⟨v2, rfl, hi2, hb2⟩
       obtain ⟨a2, c2, rfl⟩ := hi2.form
       have H2 : Hid (IsTm w2 (Low P w (w.heap.size + 2)) (.agg #[.int .i64 t.k, .int .i64 t.n, .string t.s, .slice a2 t.args.length c2]) t) := Lib.hid (hi2.imp (fun b h => h.elim .inl fun h => .inr (Nat.le_trans RZ.out.low.2.2 h)) fun _ _ _ => rfl)
       replace RZ := Lib.hid (RZ.out.next hb2)
       clear hi2 hb2)
    | (go_at_call 70
       refine (flt_ind _ _ _).mono ?_
       rintro e3 w3 ⟨v3, rfl, hi3, hb3⟩
       obtain ⟨a3, c3, rfl⟩ := hi3.form
       have H3 : Hid (IsTm w3 (Low P w (w.heap.size + 2)) (.agg #[.int .i64 (indT s n).k, .int .i64 (indT s n).n, .string (indT s n).s, .slice a3 (indT s n).args.length c3]) (indT s n)) := Lib.hid (hi3.imp (fun b h => h.elim False.elim fun h => .inr (Nat.le_trans RZ.out.low.2.2 h)) fun _ _ _ => rfl)
       replace H2 := Lib.hid (H2.out.below hb3)
       replace RZ := Lib.hid (RZ.out.next hb3)
       clear hi3 hb3)
    | (go_at_call 68
       refine (flt_comp _ _ _ _ _).mono ?_
       rintro e4 w4 ⟨rfl, hb4⟩
       have hrow := RZ.out.row (.cells #[.int .i64 t.k, .int .i64 t.n, .string t.s, .slice a2 t.args.length c2, .int .i64 (indT s n).k, .int .i64 (indT s n).n, .string (indT s n).s, .slice a3 (indT s n).args.length c3] 27 (0, 0))
       have hb34 := ((Below.refl w3.heap.size w3).alloc (Nat.le_refl _) _).trans (hb4.mono (by simp))
       have h4 : IsSl w4 (Low P w (w.heap.size + 2)) (.slice (some ⟨w3.heap.size, 0, none⟩) 2 2) [t, indT s n] := sl_of_cells ((hb4.block _ (by simp)).trans hrow.2.1) (CellsOf.cons (H2.out.below hb34) (CellsOf.cons (H3.out.below hb34) trivial)) rfl (.inr hrow.2.2)
       have H4 := Lib.hid h4
       replace RZ := Lib.hid (hrow.1.next hb4)
       clear hrow hb34 h4 hb4)
    | (refine wpList_store_row rfl 27 (.tmp 6) (.tmp 13) rfl (w.heap.size + 1) _ rfl rfl _ _ RZ.out.res size_term rfl (one4 _ _ _ _ _ _) ?_))
  have hz := setRow_heap w4 (w.heap.size + 1) _ (#[.int .i64 4, .int .i64 0, .string (⟨#[101, 114, 114, 111, 114]⟩ : ByteArray), .slice (some ⟨w3.heap.size, 0, none⟩) 2 2] : Array Value) _ _ RZ.out.res
  refine bodyPost_ret (v := compV (⟨#[101, 114, 114, 111, 114]⟩ : ByteArray) (some ⟨w3.heap.size, 0, none⟩) 2 2) (results_cell_row Try.results40 _ _ (w.heap.size + 1) _ _ _ _ rfl hz Try.underlying27 rfl (by kernel_rfl)) rfl (makes_at (comp_is (l := [t, indT s n]) H4.out) RZ.out.bel (Nat.le_succ _) RZ.out.low.2.1)
def unknownT (s : ByteArray) (n : Int) : Tm := errorT (compT (⟨#[101, 120, 105, 115, 116, 101, 110, 99, 101, 95, 101, 114, 114, 111, 114]⟩ : ByteArray) [atomT (⟨#[112, 114, 111, 99, 101, 100, 117, 114, 101]⟩ : ByteArray), indT s n]) s n
def staticT (act s : ByteArray) (n : Int) : Tm := compT (⟨#[112, 101, 114, 109, 105, 115, 115, 105, 111, 110, 95, 101, 114, 114, 111, 114]⟩ : ByteArray) [atomT act, atomT (⟨#[115, 116, 97, 116, 105, 99, 95, 112, 114, 111, 99, 101, 100, 117, 114, 101]⟩ : ByteArray), indT s n]

end Go.Proofs.Ytokhiolimioicaa.Tms
