
/-
  Layer 16: an answer of a builtin on names; is, whole, atom, wrong, nameOf, walked.
  Layer 16: listOf, walked.
-/
import Derived.Test.YtkhchmgdaolojaaDoorFltM
import Derived.Test.YtkhchmgdaolojaaDoorRow
import Derived.Test.YtkhchmgdaolojaaDoorJnt
import Derived.Test.YtkhchmgdaolojaaDoorNuT
import Derived.Deep.Cut
import Derived.Deep.CutRange
import Derived.Deep.DeepCutAuto
import Derived.Deep.DeepMust
import Derived.Test.YtkhchmgdaolojaaDoorTml
import Derived.Test.YtkhchmgdaolojaaDoorByt
import Derived.Test.YtkhchmgdaolojaaDoorRls
import Derived.OwnWalk
import Derived.Laws.Strings2
namespace Go.Proofs.YtkhchmgdaolojaaDoor.Tms
open Go Go.RowKit Go.Proofs.YtkhchmgdaolojaaDoor.Reg Go.Proofs.YtkhchmgdaolojaaDoor.Rws Go.Proofs.YtkhchmgdaolojaaDoor.Maps Go.Instr
set_option linter.unusedVariables false
set_option linter.unusedSimpArgs false

theorem row7 {w : World} {g : Nat} {y0 y1 y2 y3 y4 y5 y6 : Value} {T : TypeId} {fr : Nat × Nat} (h : w.heap[g]? = some (.cells #[y0, y1, y2, y3, y4, y5, y6] T fr)) :
    w.cell? ⟨g, 0, none⟩ = some y0 ∧ w.cell? ⟨g, 1, none⟩ = some y1 ∧ w.cell? ⟨g, 2, none⟩ = some y2 ∧ w.cell? ⟨g, 3, none⟩ = some y3 ∧ w.cell? ⟨g, 4, none⟩ = some y4 ∧ w.cell? ⟨g, 5, none⟩ = some y5 ∧ w.cell? ⟨g, 6, none⟩ = some y6 :=
  ⟨cell_of_row w g 0 _ _ _ h, cell_of_row w g 1 _ _ _ h, cell_of_row w g 2 _ _ _ h, cell_of_row w g 3 _ _ _ h, cell_of_row w g 4 _ _ _ h, cell_of_row w g 5 _ _ _ h, cell_of_row w g 6 _ _ _ h⟩
theorem size_did : (Tryd.prog.info? 35).map (·.size) = some 7 := by kernel_rfl
theorem below_row {B g : Nat} {w w' : World} {cs : Array Value} (h : Below B w w') (hg : B ≤ g) : Below B w (w'.setRow g cs) :=
  ⟨h.os, h.tape, h.output, by simpa using h.size, fun b hb => (setRow_other _ _ _ _ (by omega)).trans (h.block b hb)⟩
/-- what a builtin answers: an argument is made one with a term, or what is wrong -/
inductive Dd where
  | is (arg : Int) (t : Tm)
  | wr (t : Tm)
def IsDd (w : World) (P : Nat → Prop) (v : Value) : Dd → Prop
  | .is a t => ∃ q k q' k', v = .agg #[.bool true, .slice q 1 k, .slice q' 1 k', .int .i64 0, .int .i64 0, .string ⟨#[]⟩, .slice none 0 0] ∧ IntSl w P (.slice q 1 k) [a] ∧ IsSl w P (.slice q' 1 k') [t]
  | .wr t => ∃ q k, v = .agg #[.bool false, .slice none 0 0, .slice none 0 0, .int .i64 t.k, .int .i64 t.n, .string t.s, .slice q t.args.length k] ∧ IsTm w P (.agg #[.int .i64 t.k, .int .i64 t.n, .string t.s, .slice q t.args.length k]) t
theorem IntSl.imp {w w' : World} {P P' : Nat → Prop} {v : Value} {L : List Int} (h : IntSl w P v L) (hP : ∀ b, P b → P' b) (hs : w.heap.size ≤ w'.heap.size) (hw : ∀ b, P b → b < w.heap.size → w'.heap[b]? = w.heap[b]?) : IntSl w' P' v L := by
  obtain ⟨a, c, e, h1, h2, h3⟩ := h
  refine ⟨a, c, e, h1, h2, fun i hi => ?_⟩
  obtain ⟨b, o, e1, hp, hl, hc⟩ := h3 i hi
  exact ⟨b, o, e1, hP b hp, by omega, (World.cell?_of_block (a := ⟨b, o + i, none⟩) (hw b hp hl)).trans hc⟩
theorem IsDd.imp {w w' : World} {P P' : Nat → Prop} {v : Value} {d : Dd} (h : IsDd w P v d) (hP : ∀ b, P b → P' b) (hs : w.heap.size ≤ w'.heap.size) (hw : ∀ b, P b → b < w.heap.size → w'.heap[b]? = w.heap[b]?) : IsDd w' P' v d := by
  cases d with
  | is a t => obtain ⟨q, k, q', k', e, h1, h2⟩ := h; exact ⟨q, k, q', k', e, h1.imp hP hs hw, h2.imp hP hw⟩
  | wr t => obtain ⟨q, k, e, h1⟩ := h; exact ⟨q, k, e, h1.imp hP hw⟩
theorem IsDd.below {w w' : World} {P : Nat → Prop} {v : Value} {d : Dd} (h : IsDd w P v d) (hb : Below w.heap.size w w') : IsDd w' P v d := h.imp (fun _ h => h) hb.size fun b _ hl => hb.block b hl
/-- its seven cells -/
theorem IsDd.cells {w : World} {P : Nat → Prop} {v : Value} {d : Dd} (h : IsDd w P v d) : ∃ (b : Bool) (q1 q2 q3 : Option Addr) (n1 k1 n2 k2 n3 k3 : Nat) (x y : Int) (s : ByteArray), v = .agg #[.bool b, .slice q1 n1 k1, .slice q2 n2 k2, .int .i64 x, .int .i64 y, .string s, .slice q3 n3 k3] := by
  cases d with
  | is a t => obtain ⟨q, k, q', k', e, -⟩ := h; exact ⟨_, _, _, _, _, _, _, _, _, _, _, _, _, e⟩
  | wr t => obtain ⟨q, k, e, -⟩ := h; exact ⟨_, _, _, _, _, _, _, _, _, _, _, _, _, e⟩
/-- a call that answers so -/
def Tells (d : Dd) (P : Nat → Prop) (w : World) (e : Ending) (w' : World) : Prop := ∃ v, e = .returned v ∧ IsDd w' (fun b => P b ∨ w.heap.size ≤ b) v d ∧ Below w.heap.size w w'
theorem tx_atom (s : ByteArray) (w : World) : Calls Tryd.prog 40 #[.string s] w (fun e w' => e = .returned (atomV s) ∧ Below w.heap.size w w') := by
  go_enter Tryd.func40, Tryd.ntmps40
  go_wp2
  exact bodyPost_ret (v := atomV s) (by simp [results, Tryd.results40, go_sem]) rfl ⟨rfl, (Below.refl _ _).alloc (Nat.le_refl _) _⟩
theorem tx_whole (n : Int) (w : World) : Calls Tryd.prog 38 #[.int .i64 n] w (fun e w' => e = .returned (intV n) ∧ Below w.heap.size w w') := by
  go_enter Tryd.func38, Tryd.ntmps38
  go_wp2
  exact bodyPost_ret (v := intV n) (by simp [results, Tryd.results38, go_sem]) rfl ⟨rfl, (Below.refl _ _).alloc (Nat.le_refl _) _⟩
set_option maxRecDepth 100000 in
set_option maxHeartbeats 4000000 in
theorem tx_wrong (e : Int) (what : ByteArray) (t : Tm) (v : Value) (P : Nat → Prop) (w : World) (hM : t.size ≤ 1000000000) (h : IsTm w P v t) :
    Calls Tryd.prog 36 #[.int .i64 e, .string what, v] w (Tells (.wr (formalE e what t)) P w) := by
  obtain ⟨a, cap, rfl⟩ := h.form
  obtain ⟨w1, w2, w3, w4⟩ := two w (.cells #[.int .i64 t.k, .int .i64 t.n, .string t.s, .slice a t.args.length cap] 28 (0, 0)) (.cells #[.bool false, .slice none 0 0, .slice none 0 0, .int .i64 0, .int .i64 0, .string ⟨#[]⟩, .slice none 0 0] 35 (0, 0))
  obtain ⟨y0, y1, y2, y3⟩ := row4 w1
  have HR := Lib.hid w2
  have HB := Lib.hid w4
  have HZ := Lib.hid w3
  have H := Lib.hid (h.lt.below w4)
  clear h w1 w2 w3 w4
  go_enter Tryd.func36, Tryd.ntmps36
  go_wp2_with fail
  refine (flt_formal e what t _ _ _ hM H.out).mono ?_
  rintro e5 w5 ⟨v5, rfl, hi5, hb5⟩
  obtain ⟨q5, c5, rfl⟩ := hi5.form
  have HB5 := Lib.hid (HB.out.trans (hb5.mono HB.out.size))
  have HR5 := Lib.hid (row_on HR.out hb5)
  have HI5 := Lib.hid (hi5.imp (P' := fun b => (P b ∨ w.heap.size ≤ b) ∧ b ≠ w.heap.size + 1) (fun b hb => by
    rcases hb with hb | hb
    · exact ⟨.inl hb.1, by have := hb.2; omega⟩
    · have := HZ.out; exact ⟨.inr (by omega), by omega⟩) fun _ _ _ => rfl)
  clear hi5 hb5 y0 y1 y2 y3 HR HB HZ H
  generalize formalE e what t = T at *
  go_wp2_with (with_reducible show wpList _ _ _ (⟨none, .store _ (.tmp 6) _, _, _, _, _⟩ :: _) _ _
               go_must (
                 refine wpList_store_row rfl 35 (.tmp 6) (.tmp 11) rfl (w.heap.size + 1) #[.bool false, .slice none 0 0, .slice none 0 0, .int .i64 T.k, .int .i64 T.n, .string T.s, .slice q5 T.args.length c5] rfl rfl _ _ HR5.out size_did rfl (by simp [Value.oneCell']) ?_))
  have hz := setRow_heap w5 (w.heap.size + 1) _ (#[.bool false, .slice none 0 0, .slice none 0 0, .int .i64 T.k, .int .i64 T.n, .string T.s, .slice q5 T.args.length c5] : Array Value) _ _ HR5.out
  exact bodyPost_ret (v := .agg #[.bool false, .slice none 0 0, .slice none 0 0, .int .i64 T.k, .int .i64 T.n, .string T.s, .slice q5 T.args.length c5]) (results_cell_row Tryd.results36 _ _ (w.heap.size + 1) _ _ _ _ rfl hz Tryd.underlying35 rfl (by kernel_rfl)) rfl ⟨_, rfl, ⟨q5, c5, rfl, HI5.out.imp (fun b hb => hb.1) fun b hb _ => setRow_other _ _ _ _ hb.2⟩, below_row HB5.out (by omega)⟩
set_option maxRecDepth 100000 in
set_option maxHeartbeats 4000000 in
theorem tx_is (n : Int) (t : Tm) (v : Value) (P : Nat → Prop) (w : World) (h : IsTm w P v t) :
    Calls Tryd.prog 37 #[.int .i64 n, v] w (Tells (.is n t) P w) := by
  obtain ⟨a, cap, rfl⟩ := h.form
  have H := Lib.hid h
  clear h
  obtain ⟨y0, y1, y2, y3⟩ := row4 (two w (.cells #[.int .i64 t.k, .int .i64 t.n, .string t.s, .slice a t.args.length cap] 28 (0, 0)) (.cells #[.bool false, .slice none 0 0, .slice none 0 0, .int .i64 0, .int .i64 0, .string ⟨#[]⟩, .slice none 0 0] 35 (0, 0))).1
  go_enter Tryd.func37, Tryd.ntmps37
  go_wp2
  obtain ⟨k1, k2, k3, k4⟩ := two w (.cells #[.int .i64 t.k, .int .i64 t.n, .string t.s, .slice a t.args.length cap] 28 (0, 0)) (.cells #[.bool true, .slice (some ⟨w.heap.size + 1 + 1, 0, none⟩) 1 1, .slice (some ⟨w.heap.size + 1 + 1 + 1, 0, none⟩) 1 1, .int .i64 0, .int .i64 0, .string ⟨#[]⟩, .slice none 0 0] 35 (0, 0))
  generalize hW : (w.alloc (.cells #[.int .i64 t.k, .int .i64 t.n, .string t.s, .slice a t.args.length cap] 28 (0, 0))).alloc (.cells #[.bool true, .slice (some ⟨w.heap.size + 1 + 1, 0, none⟩) 1 1, .slice (some ⟨w.heap.size + 1 + 1 + 1, 0, none⟩) 1 1, .int .i64 0, .int .i64 0, .string ⟨#[]⟩, .slice none 0 0] 35 (0, 0)) = W at *
  clear hW
  obtain ⟨l1, l2, l3, l4⟩ := two W (.cells #[.int .i64 n] 3 (0, 0)) (.cells #[.int .i64 t.k, .int .i64 t.n, .string t.s, .slice a t.args.length cap] 28 (0, 0))
  rw [k3] at l1 l2 l3
  have hb := k4.trans (l4.mono k4.size)
  have hit := (H.out.lt.below hb)
  refine bodyPost_ret (v := .agg #[.bool true, .slice (some ⟨w.heap.size + 1 + 1, 0, none⟩) 1 1, .slice (some ⟨w.heap.size + 1 + 1 + 1, 0, none⟩) 1 1, .int .i64 0, .int .i64 0, .string ⟨#[]⟩, .slice none 0 0]) (results_cell_row Tryd.results37 _ _ (w.heap.size + 1) _ _ _ _ rfl (row_on k2 l4) Tryd.underlying35 rfl (by kernel_rfl)) rfl ⟨_, rfl, ⟨_, _, _, _, rfl, ?_, ?_⟩, hb⟩
  · refine ⟨_, _, rfl, Nat.le_refl _, by decide, fun i hi => ?_⟩
    obtain rfl : i = 0 := by simp at hi; omega
    refine ⟨_, _, rfl, .inr (by omega), by omega, ?_⟩
    exact cell_of_row _ _ 0 _ _ _ l1
  · exact sl_of_cells (cs := [.int .i64 t.k, .int .i64 t.n, .string t.s, .slice a t.args.length cap]) l2 (CellsOf.cons (hit.imp (P' := fun b => P b ∨ w.heap.size ≤ b) (fun b hb => .inl hb.1) fun _ _ _ => rfl) trivial) rfl (.inr (by omega))
/-- an atomic term's name -/
def nameT (t : Tm) : Option ByteArray := if t.k = 2 then some ⟨(Lib.itoa t.n).toArray⟩ else if t.k = 3 then some t.s else none
set_option maxRecDepth 100000 in
set_option maxHeartbeats 4000000 in
theorem tx_nameOf (t : Tm) (v : Value) (P : Nat → Prop) (w : World) (h : IsTm w P v t) (hf : Num.Fit t.n) (ht : Num.Tab w) :
    Calls Tryd.prog 35 #[v] w (fun e w' => e = .returned (.tuple #[.string ((nameT t).getD ⟨#[]⟩), .bool (nameT t).isSome]) ∧ Below w.heap.size w w') := by
  obtain ⟨a, cap, rfl⟩ := h.form
  clear h
  have HT := Lib.hid ht
  have HF := Lib.hid hf
  clear ht hf
  have hal := (Below.refl w.heap.size w).alloc (Nat.le_refl _) (.cells #[.int .i64 t.k, .int .i64 t.n, .string t.s, .slice a t.args.length cap] 28 (0, 0))
  have HA := Lib.hid hal
  obtain ⟨y0, y1, y2, y3⟩ := row4 (heap_alloc_new w (.cells #[.int .i64 t.k, .int .i64 t.n, .string t.s, .slice a t.args.length cap] 28 (0, 0)))
  clear hal
  unfold nameT
  by_cases h2 : t.k = 2
  · rw [if_pos h2]
    have b1 : (t.k == 2) = true := by rw [h2]; rfl
    clear h2
    go_enter Tryd.func35, Tryd.ntmps35
    go_wp2_with (go_at_call 42; refine (Num.go_Print t.n HF.out _ (HT.out.on HA.out)).mono ?_; rintro e1 w1 ⟨rfl, hb1⟩; have HB1 := Lib.hid (HA.out.trans (hb1.mono HA.out.size)); clear hb1)
    go_ret2
    exact ⟨rfl, HB1.out⟩
  rw [if_neg h2]
  have b1 : (t.k == 2) = false := by simpa using h2
  by_cases h3 : t.k = 3
  · rw [if_pos h3]
    have b2 : (t.k == 3) = true := by rw [h3]; rfl
    clear h2 h3
    go_enter Tryd.func35, Tryd.ntmps35
    go_wp2
    go_ret2
    exact ⟨rfl, HA.out⟩
  · rw [if_neg h3]
    have b2 : (t.k == 3) = false := by simpa using h3
    clear h2 h3
    go_enter Tryd.func35, Tryd.ntmps35
    go_wp2
    go_ret2
    exact ⟨rfl, HA.out⟩
end Go.Proofs.YtkhchmgdaolojaaDoor.Tms
namespace Go.Proofs.YtkhchmgdaolojaaDoor.Tms
open Go Go.RowKit Go.Proofs.YtkhchmgdaolojaaDoor.Reg Go.Proofs.YtkhchmgdaolojaaDoor.Rws Go.Proofs.YtkhchmgdaolojaaDoor.Maps Go.Instr
set_option linter.unusedVariables false
set_option linter.unusedSimpArgs false

def nilT : Tm := atomT (⟨#[91, 93]⟩ : ByteArray)
/-- a byte, as a code or as a character -/
def charT (codes : Bool) (c : UInt8) : Tm := if codes then intT c.toNat else atomT ⟨#[c]⟩
def charsT (codes : Bool) (l : List UInt8) : List Tm := l.map (charT codes)
theorem chars_snoc (codes : Bool) (s : ByteArray) (i : Nat) (h : i < s.size) : charsT codes (s.data.toList.take (i + 1)) = charsT codes (s.data.toList.take i) ++ [charT codes s[i]] := by
  unfold charsT
  rw [List.take_succ_eq_append_getElem (by simpa using h), List.map_append]
  rfl
theorem chars_len (codes : Bool) (s : ByteArray) (i : Nat) (h : i ≤ s.size) : (charsT codes (s.data.toList.take i)).length = i := by
  unfold charsT; rw [List.length_map, List.length_take]; have : s.data.toList.length = s.size := rfl; omega
theorem extract_one (s : ByteArray) (i : Nat) (h : i < s.size) : s.extract i (i + 1) = ⟨#[s[i]]⟩ := by
  apply ByteArray.ext
  apply Array.ext'
  simp only [ByteArray.data_extract, Array.toList_extract, List.extract_eq_take_drop, Nat.add_sub_cancel_left]
  rw [List.drop_eq_getElem_cons (by simpa using h), List.take_succ_cons, List.take_zero]
  rfl
theorem chars_size (codes : Bool) (l : List UInt8) : sizeL (charsT codes l) = l.length := by
  induction l with
  | nil => rfl
  | cons c l ih =>
    have h1 : (charT codes c).size = 1 := by unfold charT; cases codes <;> rfl
    simp only [charsT, List.map_cons, sizeL, List.length_cons] at ih ⊢
    omega
def LoRel (codes : Bool) (s : ByteArray) (w : World) (v5 v12 : Value) (wr : World) : Prop := ∃ (i : Nat), i ≤ s.size ∧ v12 = .int .i64 i ∧ OwnSl wr (w.heap.size + 1) (fun _ => False) v5 (charsT codes (s.data.toList.take i)) ∧
  wr.heap[w.heap.size]? = some (.cells #[.int .i64 0, .int .i64 0, .string ⟨#[]⟩, .slice none 0 0] 28 (0, 0)) ∧ Below w.heap.size w wr
set_option maxRecDepth 100000 in
set_option maxHeartbeats 4000000 in
theorem tx_listOf (s : ByteArray) (codes : Bool) (w : World) (hs : s.size ≤ 100000) :
    Calls Tryd.prog 41 #[.string s, .bool codes] w (MakesTm (fun _ => False) (listT (charsT codes s.data.toList) nilT) w) := by
  obtain ⟨i0, hti, hz0, hz1, hz2⟩ := info_parts info_term
  have hrw := heap_alloc_new w (.cells #[.int .i64 0, .int .i64 0, .string ⟨#[]⟩, .slice none 0 0] 28 (0, 0))
  have hal := (Below.refl w.heap.size w).alloc (Nat.le_refl _) (.cells #[.int .i64 0, .int .i64 0, .string ⟨#[]⟩, .slice none 0 0] 28 (0, 0))
  have hsz : (w.alloc (.cells #[.int .i64 0, .int .i64 0, .string ⟨#[]⟩, .slice none 0 0] 28 (0, 0))).heap.size = w.heap.size + 1 := by simp
  have HR := Lib.hid hrw
  have HA := Lib.hid hal
  have HZ := Lib.hid hsz
  clear hrw hal hsz
  go_enter Tryd.func41, Tryd.ntmps41
  go_upto_region 1 with fail
  generalize w.alloc (.cells #[.int .i64 0, .int .i64 0, .string ⟨#[]⟩, .slice none 0 0] 28 (0, 0)) = W1 at *
  go_wp2_with (with_reducible show wpList _ _ _ (⟨some 9, _, _, _, _, _⟩ :: _) _ _
               go_must (
                 refine wpList_make_own W1 rfl (.const (.int .i64 0)) (.tmp 8) 24 rfl (w.heap.size + 1) 28 i0 _ 4 Tryd.underlying24 hti hz0 hz1 .i64 .i64 _ s.size rfl rfl rfl (by rw [hz2]; omega) (by unfold maxLen; omega) (by have := HZ.out; omega) ?_
                 intro w2 ho2 hg2
                 have hb2 : Below W1.heap.size W1 w2 := (Below.refl _ _).grown hg2 (Nat.le_refl _) (fun k e => by cases e)
                 have HST := Lib.hid (show LoRel codes s w (.slice (some ⟨W1.heap.size, 0, none⟩) 0 s.size) (.int .i64 ((0 : Nat) : Int)) w2 from ⟨0, by omega, rfl, ⟨[], ho2, trivial⟩, row_on HR.out hb2, HA.out.trans (hb2.mono HA.out.size)⟩)
                 clear ho2 hg2 hb2))
  clear HR HA HZ
  go_loopw [5, 12] (fun v5 v12 wr => LoRel codes s w v5 v12 wr) (fun _ v12 _ => s.size - (intOf v12).toNat)
  case atStart => exact HST.out
  case round =>
    clear HST
    obtain ⟨i, hi, rfl, ho, hr, hb⟩ := hrel
    obtain ⟨q, k, e1⟩ := ho.form
    rw [chars_len codes s i hi] at e1
    subst e1
    have HO := Lib.hid ho
    have HR := Lib.hid hr
    have HB := Lib.hid hb
    clear ho hr hb
    have hlt := (Array.getElem?_eq_some_iff.1 HR.out).1
    by_cases hin : i < s.size
    · have b1 : decide ((i : Int) < (s.size : Int)) = true := by simp; omega
      have b2 : decide (i < s.size) = true := by simpa using hin
      have HSN := Lib.hid (chars_snoc codes s i hin)
      have hsl : ∀ W : World, (Instr.slice 9 (.string s) (some (.int .i64 (i : Int))) (some (.int .i64 ((i : Int) + 1))) none).run Tryd.prog W = .ok (.string ⟨#[s[i]]⟩) W := fun W => by
        rw [run_slice_string (P := Tryd.prog) (w := W) 9 s .i64 .i64 (i : Int) ((i : Int) + 1) Tryd.underlying9 (by omega) (by omega) (by omega)]
        congr 2
        rw [show ((i : Int) + 1).toNat = i + 1 by omega, show (i : Int).toNat = i by omega]
        exact extract_one s i hin
      have hc : wrap64 (s[i].toNat : Int) = (s[i].toNat : Int) := Num.wrap_in (by have := s[i].toNat_lt; unfold Num.Fit; omega)
      cases codes
      · go_wp2_with fail
        refine (tx_atom _ _).mono ?_
        rintro e3 w3 ⟨rfl, hb3⟩
        have HO3 := Lib.hid (HO.out.below hb3)
        have HR3 := Lib.hid (row_on HR.out hb3)
        have HB3 := Lib.hid (HB.out.trans (hb3.mono HB.out.size))
        have hlt3 := hb3.size
        clear hb3 hsl
        go_wp2_with (with_reducible show wpList _ _ _ (⟨some 32, _, _, _, _, _⟩ :: _) _ _
                     go_must (
                       refine wpList_push_term rfl (.tmp 24) (.tmp 31) rfl (w.heap.size + 1) (fun _ => False) (.slice q i k) _ _ _ _ _ (atomT ⟨#[s[i]]⟩) _ rfl HO3.out rfl rfl (atom_is _ _ _) (by rw [chars_len _ s i hi]; omega) (by omega) ?_
                       intro va' w9 ho9 hb9 hg9 hv9
                       rw [show charsT false (s.data.toList.take i) ++ [atomT ⟨#[s[i]]⟩] = charsT false (s.data.toList.take (i + 1)) from HSN.out.symm] at ho9
                       have HRL := Lib.hid (show LoRel false s w va' (.int .i64 ((i + 1 : Nat) : Int)) w9 from ⟨i + 1, by omega, rfl, ho9, (hb9.block _ (by omega)).trans HR3.out, HB3.out.trans (hb9.mono (by omega))⟩)
                       clear ho9 hb9 hg9 hv9))
        go_roundw
        case measure => simp [intOf]; omega
        case rel => exact HRL.out
      · go_wp2_with fail
        rw [hc]
        refine (tx_whole _ _).mono ?_
        rintro e3 w3 ⟨rfl, hb3⟩
        have HO3 := Lib.hid (HO.out.below hb3)
        have HR3 := Lib.hid (row_on HR.out hb3)
        have HB3 := Lib.hid (HB.out.trans (hb3.mono HB.out.size))
        have hlt3 := hb3.size
        clear hb3 hsl
        go_wp2_with (with_reducible show wpList _ _ _ (⟨some 23, _, _, _, _, _⟩ :: _) _ _
                     go_must (
                       refine wpList_push_term rfl (.tmp 16) (.tmp 22) rfl (w.heap.size + 1) (fun _ => False) (.slice q i k) _ _ _ _ _ (intT s[i].toNat) _ rfl HO3.out rfl rfl (int_is _ _ _) (by rw [chars_len _ s i hi]; omega) (by omega) ?_
                       intro va' w9 ho9 hb9 hg9 hv9
                       rw [show charsT true (s.data.toList.take i) ++ [intT s[i].toNat] = charsT true (s.data.toList.take (i + 1)) from HSN.out.symm] at ho9
                       have HRL := Lib.hid (show LoRel true s w va' (.int .i64 ((i + 1 : Nat) : Int)) w9 from ⟨i + 1, by omega, rfl, ho9, (hb9.block _ (by omega)).trans HR3.out, HB3.out.trans (hb9.mono (by omega))⟩)
                       clear ho9 hb9 hg9 hv9))
        go_roundw
        case measure => simp [intOf]; omega
        case rel => exact HRL.out
    · have b1 : decide ((i : Int) < (s.size : Int)) = false := by simp; omega
      have b2 : decide (i < s.size) = false := by simpa using hin
      obtain rfl : i = s.size := by omega
      have hsl := HO.out.reads
      rw [show s.data.toList.take s.size = s.data.toList from List.take_of_length_le (Nat.le_refl _)] at hsl
      have HSL := Lib.hid hsl
      have hcl := chars_size codes s.data.toList
      have HCL := Lib.hid (show sizeL (charsT codes s.data.toList) + nilT.size ≤ 1000000000 by rw [hcl]; have : s.data.toList.length = s.size := rfl; simp only [nilT, atomT, Tm.size, sizeL]; omega)
      clear hsl hcl HO
      go_wp2_with fail
      refine (tx_atom _ _).mono ?_
      rintro e3 w3 ⟨rfl, hb3⟩
      have HB3 := Lib.hid hb3
      clear hb3
      go_wp2_with fail
      refine (tm_listN (charsT codes s.data.toList) nilT _ _ _ AnyB _ HCL.out (HSL.out.below HB3.out) (atom_is _ _ _)).mono ?_
      rintro e4 w4 ⟨v4, rfl, hi4, hb4⟩
      obtain ⟨q4, k4, rfl⟩ := hi4.form
      have hb34 := HB3.out.trans (hb4.mono HB3.out.size)
      have HR4 := Lib.hid (row_on HR.out hb34)
      have HB4 := Lib.hid (HB.out.trans (hb34.mono HB.out.size))
      have HI4 := Lib.hid (hi4.imp (P' := fun b => w.heap.size + 1 ≤ b) (fun b hb => by have := HB3.out.size; omega) fun _ _ _ => rfl)
      clear hi4 hb4 hb34 HB3 HSL HR HB
      generalize hU : listT (charsT codes s.data.toList) nilT = U at *
      have HU := Lib.hid hU
      clear hU
      go_wp2_with (refine wpList_store_row rfl 28 (.tmp 4) (.tmp 36) rfl w.heap.size #[.int .i64 U.k, .int .i64 U.n, .string U.s, .slice q4 U.args.length k4] rfl rfl _ _ HR4.out size_term rfl (one4 _ _ _ _ _ _) ?_)
      have hz := setRow_heap w4 w.heap.size _ (#[.int .i64 U.k, .int .i64 U.n, .string U.s, .slice q4 U.args.length k4] : Array Value) _ _ HR4.out
      exact bodyPost_ret (v := .agg #[.int .i64 U.k, .int .i64 U.n, .string U.s, .slice q4 U.args.length k4]) (results_cell_row Tryd.results41 _ _ w.heap.size _ _ _ _ rfl hz Tryd.underlying28 rfl (by kernel_rfl)) rfl ⟨_, rfl, by rw [HU.out]; exact HI4.out.imp (P := fun b => w.heap.size + 1 ≤ b) (P' := fun b => False ∨ w.heap.size ≤ b) (fun b hb => Or.inr (by have hb' : w.heap.size + 1 ≤ b := hb; omega)) (fun b hb _ => setRow_other w4 w.heap.size b _ (by have hb' : w.heap.size + 1 ≤ b := hb; omega)), below_row HB4.out (Nat.le_refl _)⟩
end Go.Proofs.YtkhchmgdaolojaaDoor.Tms
