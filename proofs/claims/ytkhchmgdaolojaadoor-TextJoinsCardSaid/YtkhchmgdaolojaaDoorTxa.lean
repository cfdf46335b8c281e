
/-
  Layer 16: an answer of a builtin on names; is, whole, atom, wrong, nameOf, walked.
-/
import Derived.Test.YtkhchmgdaolojaaDoorFltM
import Derived.Test.YtkhchmgdaolojaaDoorRow
import Derived.Test.YtkhchmgdaolojaaDoorJnt
import Derived.Test.YtkhchmgdaolojaaDoorNuT
import Derived.Deep.Cut
import Derived.Deep.CutRange
import Derived.Deep.DeepCutAuto
import Derived.Deep.DeepMust
namespace Go.Proofs.YtkhchmgdaolojaaDoor.Tms
open Go Go.RowKit Go.Proofs.YtkhchmgdaolojaaDoor.Reg Go.Proofs.YtkhchmgdaolojaaDoor.Rws Go.Proofs.YtkhchmgdaolojaaDoor.Maps Go.Instr
set_option linter.unusedVariables false
set_option linter.unusedSimpArgs false

theorem row7 {w : World} {g : Nat} {y0 y1 y2 y3 y4 y5 y6 : Value} {T : TypeId} {fr : Nat × Nat} (h : w.heap[g]? = some (.cells #[y0, y1, y2, y3, y4, y5, y6] T fr)) :
    w.cell? ⟨g, 0, none⟩ = some y0 ∧ w.cell? ⟨g, 1, none⟩ = some y1 ∧ w.cell? ⟨g, 2, none⟩ = some y2 ∧ w.cell? ⟨g, 3, none⟩ = some y3 ∧ w.cell? ⟨g, 4, none⟩ = some y4 ∧ w.cell? ⟨g, 5, none⟩ = some y5 ∧ w.cell? ⟨g, 6, none⟩ = some y6 :=
  ⟨cell_of_row w g 0 _ _ _ h, cell_of_row w g 1 _ _ _ h, cell_of_row w g 2 _ _ _ h, cell_of_row w g 3 _ _ _ h, cell_of_row w g 4 _ _ _ h, cell_of_row w g 5 _ _ _ h, cell_of_row w g 6 _ _ _ h⟩
theorem size_did : (Tryd.prog.info? 35).map (·.size) = some 7 := by kernel_rfl
theorem below_row {B g : Nat} {w w' : World} {cs : Array Value} (h : Below B w w') (hg : B ≤ g) : Below B w (w'.setRow g cs) :=
  ⟨h.os, h.tape, h.output, by simpa using h.size, fun b hb => (setRow_other _ _ _ _ (by omega)).trans (h.block b hb)⟩
/-- what a builtin answers: an argument is made one with a term, or what is wrong -/
inductive Dd where
  | is (arg : Int) (t : Tm)
  | wr (t : Tm)
def IsDd (w : World) (P : Nat → Prop) (v : Value) : Dd → Prop
  | .is a t => ∃ q k q' k', v = .agg #[.bool true, .slice q 1 k, .slice q' 1 k', .int .i64 0, .int .i64 0, .string ⟨#[]⟩, .slice none 0 0] ∧ IntSl w P (.slice q 1 k) [a] ∧ IsSl w P (.slice q' 1 k') [t]
  | .wr t => ∃ q k, v = .agg #[.bool false, .slice none 0 0, .slice none 0 0, .int .i64 t.k, .int .i64 t.n, .string t.s, .slice q t.args.length k] ∧ IsTm w P (.agg #[.int .i64 t.k, .int .i64 t.n, .string t.s, .slice q t.args.length k]) t
theorem IntSl.imp {w w' : World} {P P' : Nat → Prop} {v : Value} {L : List Int} (h : IntSl w P v L) (hP : ∀ b, P b → P' b) (hs : w.heap.size ≤ w'.heap.size) (hw : ∀ b, P b → b < w.heap.size → w'.heap[b]? = w.heap[b]?) : IntSl w' P' v L := by
  obtain ⟨a, c, e, h1, h2, h3⟩ := h
  refine ⟨a, c, e, h1, h2, fun i hi => ?_⟩
  obtain ⟨b, o, e1, hp, hl, hc⟩ := h3 i hi
  exact ⟨b, o, e1, hP b hp, by omega, (World.cell?_of_block (a := ⟨b, o + i, none⟩) (hw b hp hl)).trans hc⟩
theorem IsDd.imp {w w' : World} {P P' : Nat → Prop} {v : Value} {d : Dd} (h : IsDd w P v d) (hP : ∀ b, P b → P' b) (hs : w.heap.size ≤ w'.heap.size) (hw : ∀ b, P b → b < w.heap.size → w'.heap[b]? = w.heap[b]?) : IsDd w' P' v d := by
  cases d with
  | is a t => obtain ⟨q, k, q', k', e, h1, h2⟩ := h; exact ⟨q, k, q', k', e, h1.imp hP hs hw, h2.imp hP hw⟩
  | wr t => obtain ⟨q, k, e, h1⟩ := h; exact ⟨q, k, e, h1.imp hP hw⟩
theorem IsDd.below {w w' : World} {P : Nat → Prop} {v : Value} {d : Dd} (h : IsDd w P v d) (hb : Below w.heap.size w w') : IsDd w' P v d := h.imp (fun _ h => h) hb.size fun b _ hl => hb.block b hl
/-- its seven cells -/
theorem IsDd.cells {w : World} {P : Nat → Prop} {v : Value} {d : Dd} (h : IsDd w P v d) : ∃ (b : Bool) (q1 q2 q3 : Option Addr) (n1 k1 n2 k2 n3 k3 : Nat) (x y : Int) (s : ByteArray), v = .agg #[.bool b, .slice q1 n1 k1, .slice q2 n2 k2, .int .i64 x, .int .i64 y, .string s, .slice q3 n3 k3] := by
  cases d with
  | is a t => obtain ⟨q, k, q', k', e, -⟩ := h; exact ⟨_, _, _, _, _, _, _, _, _, _, _, _, _, e⟩
  | wr t => obtain ⟨q, k, e, -⟩ := h; exact ⟨_, _, _, _, _, _, _, _, _, _, _, _, _, e⟩
/-- a call that answers so -/
def Tells (d : Dd) (P : Nat → Prop) (w : World) (e : Ending) (w' : World) : Prop := ∃ v, e = .returned v ∧ IsDd w' (fun b => P b ∨ w.heap.size ≤ b) v d ∧ Below w.heap.size w w'
theorem tx_atom (s : ByteArray) (w : World) : Calls Tryd.prog 40 #[.string s] w (fun e w' => e = .returned (atomV s) ∧ Below w.heap.size w w') := by
  go_enter Tryd.func40, Tryd.ntmps40
  go_wp2
  exact bodyPost_ret (v := atomV s) (by simp [results, Tryd.results40, go_sem]) rfl ⟨rfl, (Below.refl _ _).alloc (Nat.le_refl _) _⟩
theorem tx_whole (n : Int) (w : World) : Calls Tryd.prog 38 #[.int .i64 n] w (fun e w' => e = .returned (intV n) ∧ Below w.heap.size w w') := by
  go_enter Tryd.func38, Tryd.ntmps38
  go_wp2
  exact bodyPost_ret (v := intV n) (by simp [results, Tryd.results38, go_sem]) rfl ⟨rfl, (Below.refl _ _).alloc (Nat.le_refl _) _⟩
set_option maxRecDepth 100000 in
set_option maxHeartbeats 4000000 in
theorem tx_wrong (e : Int) (what : ByteArray) (t : Tm) (v : Value) (P : Nat → Prop) (w : World) (hM : t.size ≤ 1000000000) (h : IsTm w P v t) :
    Calls Tryd.prog 36 #[.int .i64 e, .string what, v] w (Tells (.wr (formalE e what t)) P w) := by
  obtain ⟨a, cap, rfl⟩ := h.form
  obtain ⟨w1, w2, w3, w4⟩ := two w (.cells #[.int .i64 t.k, .int .i64 t.n, .string t.s, .slice a t.args.length cap] 28 (0, 0)) (.cells #[.bool false, .slice none 0 0, .slice none 0 0, .int .i64 0, .int .i64 0, .string ⟨#[]⟩, .slice none 0 0] 35 (0, 0))
  obtain ⟨y0, y1, y2, y3⟩ := row4 w1
  have HR := Lib.hid w2
  have HB := Lib.hid w4
  have HZ := Lib.hid w3
  have H := Lib.hid (h.lt.below w4)
  clear h w1 w2 w3 w4
  go_enter Tryd.func36, Tryd.ntmps36
  go_wp2_with fail
  refine (flt_formal e what t _ _ _ hM H.out).mono ?_
  rintro e5 w5 ⟨v5, rfl, hi5, hb5⟩
  obtain ⟨q5, c5, rfl⟩ := hi5.form
  have HB5 := Lib.hid (HB.out.trans (hb5.mono HB.out.size))
  have HR5 := Lib.hid (row_on HR.out hb5)
  have HI5 := Lib.hid (hi5.imp (P' := fun b => (P b ∨ w.heap.size ≤ b) ∧ b ≠ w.heap.size + 1) (fun b hb => by
    rcases hb with hb | hb
    · exact ⟨.inl hb.1, by have := hb.2; omega⟩
    · have := HZ.out; exact ⟨.inr (by omega), by omega⟩) fun _ _ _ => rfl)
  clear hi5 hb5 y0 y1 y2 y3 HR HB HZ H
  generalize formalE e what t = T at *
  go_wp2_with (with_reducible show wpList _ _ _ (⟨none, .store _ (.tmp 6) _, _, _, _, _⟩ :: _) _ _
               go_must (
                 refine wpList_store_row rfl 35 (.tmp 6) (.tmp 11) rfl (w.heap.size + 1) #[.bool false, .slice none 0 0, .slice none 0 0, .int .i64 T.k, .int .i64 T.n, .string T.s, .slice q5 T.args.length c5] rfl rfl _ _ HR5.out size_did rfl (by simp [Value.oneCell']) ?_))
  have hz := setRow_heap w5 (w.heap.size + 1) _ (#[.bool false, .slice none 0 0, .slice none 0 0, .int .i64 T.k, .int .i64 T.n, .string T.s, .slice q5 T.args.length c5] : Array Value) _ _ HR5.out
  exact bodyPost_ret (v := .agg #[.bool false, .slice none 0 0, .slice none 0 0, .int .i64 T.k, .int .i64 T.n, .string T.s, .slice q5 T.args.length c5]) (results_cell_row Tryd.results36 _ _ (w.heap.size + 1) _ _ _ _ rfl hz Tryd.underlying35 rfl (by kernel_rfl)) rfl ⟨_, rfl, ⟨q5, c5, rfl, HI5.out.imp (fun b hb => hb.1) fun b hb _ => setRow_other _ _ _ _ hb.2⟩, below_row HB5.out (by omega)⟩
set_option maxRecDepth 100000 in
set_option maxHeartbeats 4000000 in
theorem tx_is (n : Int) (t : Tm) (v : Value) (P : Nat → Prop) (w : World) (h : IsTm w P v t) :
    Calls Tryd.prog 37 #[.int .i64 n, v] w (Tells (.is n t) P w) := by
  obtain ⟨a, cap, rfl⟩ := h.form
  have H := Lib.hid h
  clear h
  obtain ⟨y0, y1, y2, y3⟩ := row4 (two w (.cells #[.int .i64 t.k, .int .i64 t.n, .string t.s, .slice a t.args.length cap] 28 (0, 0)) (.cells #[.bool false, .slice none 0 0, .slice none 0 0, .int .i64 0, .int .i64 0, .string ⟨#[]⟩, .slice none 0 0] 35 (0, 0))).1
  go_enter Tryd.func37, Tryd.ntmps37
  go_wp2
  obtain ⟨k1, k2, k3, k4⟩ := two w (.cells #[.int .i64 t.k, .int .i64 t.n, .string t.s, .slice a t.args.length cap] 28 (0, 0)) (.cells #[.bool true, .slice (some ⟨w.heap.size + 1 + 1, 0, none⟩) 1 1, .slice (some ⟨w.heap.size + 1 + 1 + 1, 0, none⟩) 1 1, .int .i64 0, .int .i64 0, .string ⟨#[]⟩, .slice none 0 0] 35 (0, 0))
  generalize hW : (w.alloc (.cells #[.int .i64 t.k, .int .i64 t.n, .string t.s, .slice a t.args.length cap] 28 (0, 0))).alloc (.cells #[.bool true, .slice (some ⟨w.heap.size + 1 + 1, 0, none⟩) 1 1, .slice (some ⟨w.heap.size + 1 + 1 + 1, 0, none⟩) 1 1, .int .i64 0, .int .i64 0, .string ⟨#[]⟩, .slice none 0 0] 35 (0, 0)) = W at *
  clear hW
  obtain ⟨l1, l2, l3, l4⟩ := two W (.cells #[.int .i64 n] 3 (0, 0)) (.cells #[.int .i64 t.k, .int .i64 t.n, .string t.s, .slice a t.args.length cap] 28 (0, 0))
  rw [k3] at l1 l2 l3
  have hb := k4.trans (l4.mono k4.size)
  have hit := (H.out.lt.below hb)
  refine bodyPost_ret (v := .agg #[.bool true, .slice (some ⟨w.heap.size + 1 + 1, 0, none⟩) 1 1, .slice (some ⟨w.heap.size + 1 + 1 + 1, 0, none⟩) 1 1, .int .i64 0, .int .i64 0, .string ⟨#[]⟩, .slice none 0 0]) (results_cell_row Tryd.results37 _ _ (w.heap.size + 1) _ _ _ _ rfl (row_on k2 l4) Tryd.underlying35 rfl (by kernel_rfl)) rfl ⟨_, rfl, ⟨_, _, _, _, rfl, ?_, ?_⟩, hb⟩
  · refine ⟨_, _, rfl, Nat.le_refl _, by decide, fun i hi => ?_⟩
    obtain rfl : i = 0 := by simp at hi; omega
    refine ⟨_, _, rfl, .inr (by omega), by omega, ?_⟩
    exact cell_of_row _ _ 0 _ _ _ l1
  · exact sl_of_cells (cs := [.int .i64 t.k, .int .i64 t.n, .string t.s, .slice a t.args.length cap]) l2 (CellsOf.cons (hit.imp (P' := fun b => P b ∨ w.heap.size ≤ b) (fun b hb => .inl hb.1) fun _ _ _ => rfl) trivial) rfl (.inr (by omega))
/-- an atomic term's name -/
def nameT (t : Tm) : Option ByteArray := if t.k = 2 then some ⟨(Lib.itoa t.n).toArray⟩ else if t.k = 3 then some t.s else none
set_option maxRecDepth 100000 in
set_option maxHeartbeats 4000000 in
theorem tx_nameOf (t : Tm) (v : Value) (P : Nat → Prop) (w : World) (h : IsTm w P v t) (hf : Num.Fit t.n) (ht : Num.Tab w) :
    Calls Tryd.prog 35 #[v] w (fun e w' => e = .returned (.tuple #[.string ((nameT t).getD ⟨#[]⟩), .bool (nameT t).isSome]) ∧ Below w.heap.size w w') := by
  obtain ⟨a, cap, rfl⟩ := h.form
  clear h
  have HT := Lib.hid ht
  have HF := Lib.hid hf
  clear ht hf
  have hal := (Below.refl w.heap.size w).alloc (Nat.le_refl _) (.cells #[.int .i64 t.k, .int .i64 t.n, .string t.s, .slice a t.args.length cap] 28 (0, 0))
  have HA := Lib.hid hal
  obtain ⟨y0, y1, y2, y3⟩ := row4 (heap_alloc_new w (.cells #[.int .i64 t.k, .int .i64 t.n, .string t.s, .slice a t.args.length cap] 28 (0, 0)))
  clear hal
  unfold nameT
  by_cases h2 : t.k = 2
  · rw [if_pos h2]
    have b1 : (t.k == 2) = true := by rw [h2]; rfl
    clear h2
    go_enter Tryd.func35, Tryd.ntmps35
    go_wp2_with (go_at_call 42; refine (Num.go_Print t.n HF.out _ (HT.out.on HA.out)).mono ?_; rintro e1 w1 ⟨rfl, hb1⟩; have HB1 := Lib.hid (HA.out.trans (hb1.mono HA.out.size)); clear hb1)
    go_ret2
    exact ⟨rfl, HB1.out⟩
  rw [if_neg h2]
  have b1 : (t.k == 2) = false := by simpa using h2
  by_cases h3 : t.k = 3
  · rw [if_pos h3]
    have b2 : (t.k == 3) = true := by rw [h3]; rfl
    clear h2 h3
    go_enter Tryd.func35, Tryd.ntmps35
    go_wp2
    go_ret2
    exact ⟨rfl, HA.out⟩
  · rw [if_neg h3]
    have b2 : (t.k == 3) = false := by simpa using h3
    clear h2 h3
    go_enter Tryd.func35, Tryd.ntmps35
    go_wp2
    go_ret2
    exact ⟨rfl, HA.out⟩
end Go.Proofs.YtkhchmgdaolojaaDoor.Tms
