
/-
  Layer 2: strconv.AppendUint at base 16, of small numbers; the reference's hex (printed by gen_naf.py).
-/
import Derived.Test.YtohfgfmekciekaaDoorNaE
import Derived.Test.YtohfgfmekciekaaDoorByt
import Derived.Lib.AppendIntMem
namespace Go.Proofs.YtohfgfmekciekaaDoor.Nam
open Go Go.RowKit Go.Proofs.YtohfgfmekciekaaDoor.Reg Go.Proofs.YtohfgfmekciekaaDoor.Byt
set_option linter.unusedVariables false
set_option linter.unusedSimpArgs false

/-- the library's table of bits stands in memory: the one cell that is read -/
def Tab (w : World) : Prop := w.cell? ⟨2, 15, none⟩ = some (.int .u8 4) ∧ 2 < w.heap.size
theorem Tab.on {w w' : World} (h : Tab w) (hb : Below w.heap.size w w') : Tab w' := ⟨(hb.cell (p := ⟨2, 15, none⟩) h.2).trans h.1, Nat.lt_of_lt_of_le h.2 hb.size⟩
theorem bytes_app (l m : List UInt8) : (ByteArray.mk l.toArray) ++ (ByteArray.mk m.toArray) = ByteArray.mk (l ++ m).toArray := by
  apply ByteArray.ext
  rw [ByteArray.data_append]
  simp
def Z65 : Array Value := Array.replicate 65 (.int .u8 0)
theorem zero65 (w : World) : (zeroValue 63).run Tryd.prog w = .ok (.agg Z65) w := by kernel_rfl
theorem z64 : Z65[64]? = some (.int .u8 0) := by kernel_rfl
theorem z63 : Z65[63]? = some (.int .u8 0) := by kernel_rfl
theorem zsz : Z65.size = 65 := by kernel_rfl
set_option maxRecDepth 100000 in
theorem go_tz (w : World) (ht : Tab w) : Calls Tryd.prog 42 #[.int .u64 16] w (fun e w' => e = .returned (.int .i64 4) ∧ w = w') := by
  have c2 := ht.1
  have h1 : bits .and .u64 16 (IntKind.u64.wrap (-16)) = 16 := by kernel_rfl
  have h2 : (IntKind.u64.wrap (16 * 285870213051353865) / 288230376151711744).toNat = 15 := by kernel_rfl
  have h3 : (IntKind.u64.wrap (16 * 285870213051353865) / 288230376151711744) = 15 := by kernel_rfl
  go_enter Tryd.func42, Tryd.ntmps42
  go_wp2
  go_ret
  exact ⟨rfl, rfl⟩
theorem go_p2 (w : World) : Calls Tryd.prog 41 #[.int .i64 16] w (fun e w' => e = .returned (.bool true) ∧ w = w') := by
  have h1 : bits .and .i64 16 15 = 0 := by kernel_rfl
  go_enter Tryd.func41, Tryd.ntmps41
  go_wp2
  go_ret
  exact ⟨rfl, rfl⟩
def Grows (base : Nat) (l : List UInt8) (w : World) (e : Ending) (w' : World) : Prop := ∃ v', e = .returned v' ∧ OwnB w' base v' l ∧ Below base w w'
def Grows2 (base : Nat) (l : List UInt8) (w : World) (e : Ending) (w' : World) : Prop := ∃ v' s, e = .returned (.tuple #[v', .string s]) ∧ OwnB w' base v' l ∧ Below base w w'
set_option maxRecDepth 100000 in
theorem bits_hex_0 (base : Nat) (v : Value) (l : List UInt8) (w : World) (ht : Tab w) (ho : OwnB w base v l) (hb : base ≤ w.heap.size) (hl : l.length ≤ 1000000) :
    Calls Tryd.prog 36 #[v, .int .u64 0, .int .i64 16, .bool false, .bool true] w (Grows2 base (l ++ [48]) w) := by
  have HT := Lib.hid ht
  have HO0 := Lib.hid ho
  have HB := Lib.hid hb
  have hz0 := zero65
  have hz1 := z64
  have hz2 := z63
  have hz3 := zsz
  have g1 : bits .and .u64 0 15 = 0 := by kernel_rfl
  clear ho ht
  go_enter Tryd.func36, Tryd.ntmps36
  go_wp2_with (first
    | (go_at_call 41; refine (go_p2 _).mono ?_; rintro e1 w1 ⟨rfl, rfl⟩)
    | (go_at_call 42; refine (go_tz _ (HT.out.on (box_b _ _))).mono ?_; rintro e1 w1 ⟨rfl, rfl⟩))
  refine wp_loop_rounds 2 ?_
  rw [rounds_succ]
  go_wp2_with (with_reducible show wpList _ _ _ (⟨some 98, _, _, _, _, _⟩ :: _) _ _
               refine wpList_appB rfl (.tmp 95) (.tmp 97) rfl base v l [48] ⟨w.heap.size, 64, none⟩ 1 rfl (HO0.out.below (by go_grown)) rfl (fun j hj => match j, hj with
                 | 0, _ => (cell_of_row _ w.heap.size 64 _ _ _ (heap_alloc_new w _)).trans (by kernel_rfl)) (by simp; omega) (by simp; omega) ?_
               intro v2 w2 ho2 hb2
               have HO2 := Lib.hid ho2
               have HB2 := Lib.hid (Below.trans (a := w) (by go_grown) hb2)
               clear ho2 hb2)
  go_ret2
  exact ⟨v2, _, rfl, HO2.out, HB2.out⟩
set_option maxRecDepth 100000 in
theorem bits_hex_1 (base : Nat) (v : Value) (l : List UInt8) (w : World) (ht : Tab w) (ho : OwnB w base v l) (hb : base ≤ w.heap.size) (hl : l.length ≤ 1000000) :
    Calls Tryd.prog 36 #[v, .int .u64 1, .int .i64 16, .bool false, .bool true] w (Grows2 base (l ++ [49]) w) := by
  have HT := Lib.hid ht
  have HO0 := Lib.hid ho
  have HB := Lib.hid hb
  have hz0 := zero65
  have hz1 := z64
  have hz2 := z63
  have hz3 := zsz
  have g1 : bits .and .u64 1 15 = 1 := by kernel_rfl
  clear ho ht
  go_enter Tryd.func36, Tryd.ntmps36
  go_wp2_with (first
    | (go_at_call 41; refine (go_p2 _).mono ?_; rintro e1 w1 ⟨rfl, rfl⟩)
    | (go_at_call 42; refine (go_tz _ (HT.out.on (box_b _ _))).mono ?_; rintro e1 w1 ⟨rfl, rfl⟩))
  refine wp_loop_rounds 2 ?_
  rw [rounds_succ]
  go_wp2_with (with_reducible show wpList _ _ _ (⟨some 98, _, _, _, _, _⟩ :: _) _ _
               refine wpList_appB rfl (.tmp 95) (.tmp 97) rfl base v l [49] ⟨w.heap.size, 64, none⟩ 1 rfl (HO0.out.below (by go_grown)) rfl (fun j hj => match j, hj with
                 | 0, _ => (cell_of_row _ w.heap.size 64 _ _ _ (heap_alloc_new w _)).trans (by kernel_rfl)) (by simp; omega) (by simp; omega) ?_
               intro v2 w2 ho2 hb2
               have HO2 := Lib.hid ho2
               have HB2 := Lib.hid (Below.trans (a := w) (by go_grown) hb2)
               clear ho2 hb2)
  go_ret2
  exact ⟨v2, _, rfl, HO2.out, HB2.out⟩
set_option maxRecDepth 100000 in
theorem bits_hex_2 (base : Nat) (v : Value) (l : List UInt8) (w : World) (ht : Tab w) (ho : OwnB w base v l) (hb : base ≤ w.heap.size) (hl : l.length ≤ 1000000) :
    Calls Tryd.prog 36 #[v, .int .u64 2, .int .i64 16, .bool false, .bool true] w (Grows2 base (l ++ [50]) w) := by
  have HT := Lib.hid ht
  have HO0 := Lib.hid ho
  have HB := Lib.hid hb
  have hz0 := zero65
  have hz1 := z64
  have hz2 := z63
  have hz3 := zsz
  have g1 : bits .and .u64 2 15 = 2 := by kernel_rfl
  clear ho ht
  go_enter Tryd.func36, Tryd.ntmps36
  go_wp2_with (first
    | (go_at_call 41; refine (go_p2 _).mono ?_; rintro e1 w1 ⟨rfl, rfl⟩)
    | (go_at_call 42; refine (go_tz _ (HT.out.on (box_b _ _))).mono ?_; rintro e1 w1 ⟨rfl, rfl⟩))
  refine wp_loop_rounds 2 ?_
  rw [rounds_succ]
  go_wp2_with (with_reducible show wpList _ _ _ (⟨some 98, _, _, _, _, _⟩ :: _) _ _
               refine wpList_appB rfl (.tmp 95) (.tmp 97) rfl base v l [50] ⟨w.heap.size, 64, none⟩ 1 rfl (HO0.out.below (by go_grown)) rfl (fun j hj => match j, hj with
                 | 0, _ => (cell_of_row _ w.heap.size 64 _ _ _ (heap_alloc_new w _)).trans (by kernel_rfl)) (by simp; omega) (by simp; omega) ?_
               intro v2 w2 ho2 hb2
               have HO2 := Lib.hid ho2
               have HB2 := Lib.hid (Below.trans (a := w) (by go_grown) hb2)
               clear ho2 hb2)
  go_ret2
  exact ⟨v2, _, rfl, HO2.out, HB2.out⟩
set_option maxRecDepth 100000 in
theorem bits_hex_3 (base : Nat) (v : Value) (l : List UInt8) (w : World) (ht : Tab w) (ho : OwnB w base v l) (hb : base ≤ w.heap.size) (hl : l.length ≤ 1000000) :
    Calls Tryd.prog 36 #[v, .int .u64 3, .int .i64 16, .bool false, .bool true] w (Grows2 base (l ++ [51]) w) := by
  have HT := Lib.hid ht
  have HO0 := Lib.hid ho
  have HB := Lib.hid hb
  have hz0 := zero65
  have hz1 := z64
  have hz2 := z63
  have hz3 := zsz
  have g1 : bits .and .u64 3 15 = 3 := by kernel_rfl
  clear ho ht
  go_enter Tryd.func36, Tryd.ntmps36
  go_wp2_with (first
    | (go_at_call 41; refine (go_p2 _).mono ?_; rintro e1 w1 ⟨rfl, rfl⟩)
    | (go_at_call 42; refine (go_tz _ (HT.out.on (box_b _ _))).mono ?_; rintro e1 w1 ⟨rfl, rfl⟩))
  refine wp_loop_rounds 2 ?_
  rw [rounds_succ]
  go_wp2_with (with_reducible show wpList _ _ _ (⟨some 98, _, _, _, _, _⟩ :: _) _ _
               refine wpList_appB rfl (.tmp 95) (.tmp 97) rfl base v l [51] ⟨w.heap.size, 64, none⟩ 1 rfl (HO0.out.below (by go_grown)) rfl (fun j hj => match j, hj with
                 | 0, _ => (cell_of_row _ w.heap.size 64 _ _ _ (heap_alloc_new w _)).trans (by kernel_rfl)) (by simp; omega) (by simp; omega) ?_
               intro v2 w2 ho2 hb2
               have HO2 := Lib.hid ho2
               have HB2 := Lib.hid (Below.trans (a := w) (by go_grown) hb2)
               clear ho2 hb2)
  go_ret2
  exact ⟨v2, _, rfl, HO2.out, HB2.out⟩
set_option maxRecDepth 100000 in
theorem bits_hex_4 (base : Nat) (v : Value) (l : List UInt8) (w : World) (ht : Tab w) (ho : OwnB w base v l) (hb : base ≤ w.heap.size) (hl : l.length ≤ 1000000) :
    Calls Tryd.prog 36 #[v, .int .u64 4, .int .i64 16, .bool false, .bool true] w (Grows2 base (l ++ [52]) w) := by
  have HT := Lib.hid ht
  have HO0 := Lib.hid ho
  have HB := Lib.hid hb
  have hz0 := zero65
  have hz1 := z64
  have hz2 := z63
  have hz3 := zsz
  have g1 : bits .and .u64 4 15 = 4 := by kernel_rfl
  clear ho ht
  go_enter Tryd.func36, Tryd.ntmps36
  go_wp2_with (first
    | (go_at_call 41; refine (go_p2 _).mono ?_; rintro e1 w1 ⟨rfl, rfl⟩)
    | (go_at_call 42; refine (go_tz _ (HT.out.on (box_b _ _))).mono ?_; rintro e1 w1 ⟨rfl, rfl⟩))
  refine wp_loop_rounds 2 ?_
  rw [rounds_succ]
  go_wp2_with (with_reducible show wpList _ _ _ (⟨some 98, _, _, _, _, _⟩ :: _) _ _
               refine wpList_appB rfl (.tmp 95) (.tmp 97) rfl base v l [52] ⟨w.heap.size, 64, none⟩ 1 rfl (HO0.out.below (by go_grown)) rfl (fun j hj => match j, hj with
                 | 0, _ => (cell_of_row _ w.heap.size 64 _ _ _ (heap_alloc_new w _)).trans (by kernel_rfl)) (by simp; omega) (by simp; omega) ?_
               intro v2 w2 ho2 hb2
               have HO2 := Lib.hid ho2
               have HB2 := Lib.hid (Below.trans (a := w) (by go_grown) hb2)
               clear ho2 hb2)
  go_ret2
  exact ⟨v2, _, rfl, HO2.out, HB2.out⟩
set_option maxRecDepth 100000 in
theorem bits_hex_5 (base : Nat) (v : Value) (l : List UInt8) (w : World) (ht : Tab w) (ho : OwnB w base v l) (hb : base ≤ w.heap.size) (hl : l.length ≤ 1000000) :
    Calls Tryd.prog 36 #[v, .int .u64 5, .int .i64 16, .bool false, .bool true] w (Grows2 base (l ++ [53]) w) := by
  have HT := Lib.hid ht
  have HO0 := Lib.hid ho
  have HB := Lib.hid hb
  have hz0 := zero65
  have hz1 := z64
  have hz2 := z63
  have hz3 := zsz
  have g1 : bits .and .u64 5 15 = 5 := by kernel_rfl
  clear ho ht
  go_enter Tryd.func36, Tryd.ntmps36
  go_wp2_with (first
    | (go_at_call 41; refine (go_p2 _).mono ?_; rintro e1 w1 ⟨rfl, rfl⟩)
    | (go_at_call 42; refine (go_tz _ (HT.out.on (box_b _ _))).mono ?_; rintro e1 w1 ⟨rfl, rfl⟩))
  refine wp_loop_rounds 2 ?_
  rw [rounds_succ]
  go_wp2_with (with_reducible show wpList _ _ _ (⟨some 98, _, _, _, _, _⟩ :: _) _ _
               refine wpList_appB rfl (.tmp 95) (.tmp 97) rfl base v l [53] ⟨w.heap.size, 64, none⟩ 1 rfl (HO0.out.below (by go_grown)) rfl (fun j hj => match j, hj with
                 | 0, _ => (cell_of_row _ w.heap.size 64 _ _ _ (heap_alloc_new w _)).trans (by kernel_rfl)) (by simp; omega) (by simp; omega) ?_
               intro v2 w2 ho2 hb2
               have HO2 := Lib.hid ho2
               have HB2 := Lib.hid (Below.trans (a := w) (by go_grown) hb2)
               clear ho2 hb2)
  go_ret2
  exact ⟨v2, _, rfl, HO2.out, HB2.out⟩
set_option maxRecDepth 100000 in
theorem bits_hex_6 (base : Nat) (v : Value) (l : List UInt8) (w : World) (ht : Tab w) (ho : OwnB w base v l) (hb : base ≤ w.heap.size) (hl : l.length ≤ 1000000) :
    Calls Tryd.prog 36 #[v, .int .u64 6, .int .i64 16, .bool false, .bool true] w (Grows2 base (l ++ [54]) w) := by
  have HT := Lib.hid ht
  have HO0 := Lib.hid ho
  have HB := Lib.hid hb
  have hz0 := zero65
  have hz1 := z64
  have hz2 := z63
  have hz3 := zsz
  have g1 : bits .and .u64 6 15 = 6 := by kernel_rfl
  clear ho ht
  go_enter Tryd.func36, Tryd.ntmps36
  go_wp2_with (first
    | (go_at_call 41; refine (go_p2 _).mono ?_; rintro e1 w1 ⟨rfl, rfl⟩)
    | (go_at_call 42; refine (go_tz _ (HT.out.on (box_b _ _))).mono ?_; rintro e1 w1 ⟨rfl, rfl⟩))
  refine wp_loop_rounds 2 ?_
  rw [rounds_succ]
  go_wp2_with (with_reducible show wpList _ _ _ (⟨some 98, _, _, _, _, _⟩ :: _) _ _
               refine wpList_appB rfl (.tmp 95) (.tmp 97) rfl base v l [54] ⟨w.heap.size, 64, none⟩ 1 rfl (HO0.out.below (by go_grown)) rfl (fun j hj => match j, hj with
                 | 0, _ => (cell_of_row _ w.heap.size 64 _ _ _ (heap_alloc_new w _)).trans (by kernel_rfl)) (by simp; omega) (by simp; omega) ?_
               intro v2 w2 ho2 hb2
               have HO2 := Lib.hid ho2
               have HB2 := Lib.hid (Below.trans (a := w) (by go_grown) hb2)
               clear ho2 hb2)
  go_ret2
  exact ⟨v2, _, rfl, HO2.out, HB2.out⟩
set_option maxRecDepth 100000 in
theorem bits_hex_7 (base : Nat) (v : Value) (l : List UInt8) (w : World) (ht : Tab w) (ho : OwnB w base v l) (hb : base ≤ w.heap.size) (hl : l.length ≤ 1000000) :
    Calls Tryd.prog 36 #[v, .int .u64 7, .int .i64 16, .bool false, .bool true] w (Grows2 base (l ++ [55]) w) := by
  have HT := Lib.hid ht
  have HO0 := Lib.hid ho
  have HB := Lib.hid hb
  have hz0 := zero65
  have hz1 := z64
  have hz2 := z63
  have hz3 := zsz
  have g1 : bits .and .u64 7 15 = 7 := by kernel_rfl
  clear ho ht
  go_enter Tryd.func36, Tryd.ntmps36
  go_wp2_with (first
    | (go_at_call 41; refine (go_p2 _).mono ?_; rintro e1 w1 ⟨rfl, rfl⟩)
    | (go_at_call 42; refine (go_tz _ (HT.out.on (box_b _ _))).mono ?_; rintro e1 w1 ⟨rfl, rfl⟩))
  refine wp_loop_rounds 2 ?_
  rw [rounds_succ]
  go_wp2_with (with_reducible show wpList _ _ _ (⟨some 98, _, _, _, _, _⟩ :: _) _ _
               refine wpList_appB rfl (.tmp 95) (.tmp 97) rfl base v l [55] ⟨w.heap.size, 64, none⟩ 1 rfl (HO0.out.below (by go_grown)) rfl (fun j hj => match j, hj with
                 | 0, _ => (cell_of_row _ w.heap.size 64 _ _ _ (heap_alloc_new w _)).trans (by kernel_rfl)) (by simp; omega) (by simp; omega) ?_
               intro v2 w2 ho2 hb2
               have HO2 := Lib.hid ho2
               have HB2 := Lib.hid (Below.trans (a := w) (by go_grown) hb2)
               clear ho2 hb2)
  go_ret2
  exact ⟨v2, _, rfl, HO2.out, HB2.out⟩
set_option maxRecDepth 100000 in
theorem bits_hex_8 (base : Nat) (v : Value) (l : List UInt8) (w : World) (ht : Tab w) (ho : OwnB w base v l) (hb : base ≤ w.heap.size) (hl : l.length ≤ 1000000) :
    Calls Tryd.prog 36 #[v, .int .u64 8, .int .i64 16, .bool false, .bool true] w (Grows2 base (l ++ [56]) w) := by
  have HT := Lib.hid ht
  have HO0 := Lib.hid ho
  have HB := Lib.hid hb
  have hz0 := zero65
  have hz1 := z64
  have hz2 := z63
  have hz3 := zsz
  have g1 : bits .and .u64 8 15 = 8 := by kernel_rfl
  clear ho ht
  go_enter Tryd.func36, Tryd.ntmps36
  go_wp2_with (first
    | (go_at_call 41; refine (go_p2 _).mono ?_; rintro e1 w1 ⟨rfl, rfl⟩)
    | (go_at_call 42; refine (go_tz _ (HT.out.on (box_b _ _))).mono ?_; rintro e1 w1 ⟨rfl, rfl⟩))
  refine wp_loop_rounds 2 ?_
  rw [rounds_succ]
  go_wp2_with (with_reducible show wpList _ _ _ (⟨some 98, _, _, _, _, _⟩ :: _) _ _
               refine wpList_appB rfl (.tmp 95) (.tmp 97) rfl base v l [56] ⟨w.heap.size, 64, none⟩ 1 rfl (HO0.out.below (by go_grown)) rfl (fun j hj => match j, hj with
                 | 0, _ => (cell_of_row _ w.heap.size 64 _ _ _ (heap_alloc_new w _)).trans (by kernel_rfl)) (by simp; omega) (by simp; omega) ?_
               intro v2 w2 ho2 hb2
               have HO2 := Lib.hid ho2
               have HB2 := Lib.hid (Below.trans (a := w) (by go_grown) hb2)
               clear ho2 hb2)
  go_ret2
  exact ⟨v2, _, rfl, HO2.out, HB2.out⟩
set_option maxRecDepth 100000 in
theorem bits_hex_11 (base : Nat) (v : Value) (l : List UInt8) (w : World) (ht : Tab w) (ho : OwnB w base v l) (hb : base ≤ w.heap.size) (hl : l.length ≤ 1000000) :
    Calls Tryd.prog 36 #[v, .int .u64 11, .int .i64 16, .bool false, .bool true] w (Grows2 base (l ++ [98]) w) := by
  have HT := Lib.hid ht
  have HO0 := Lib.hid ho
  have HB := Lib.hid hb
  have hz0 := zero65
  have hz1 := z64
  have hz2 := z63
  have hz3 := zsz
  have g1 : bits .and .u64 11 15 = 11 := by kernel_rfl
  clear ho ht
  go_enter Tryd.func36, Tryd.ntmps36
  go_wp2_with (first
    | (go_at_call 41; refine (go_p2 _).mono ?_; rintro e1 w1 ⟨rfl, rfl⟩)
    | (go_at_call 42; refine (go_tz _ (HT.out.on (box_b _ _))).mono ?_; rintro e1 w1 ⟨rfl, rfl⟩))
  refine wp_loop_rounds 2 ?_
  rw [rounds_succ]
  go_wp2_with (with_reducible show wpList _ _ _ (⟨some 98, _, _, _, _, _⟩ :: _) _ _
               refine wpList_appB rfl (.tmp 95) (.tmp 97) rfl base v l [98] ⟨w.heap.size, 64, none⟩ 1 rfl (HO0.out.below (by go_grown)) rfl (fun j hj => match j, hj with
                 | 0, _ => (cell_of_row _ w.heap.size 64 _ _ _ (heap_alloc_new w _)).trans (by kernel_rfl)) (by simp; omega) (by simp; omega) ?_
               intro v2 w2 ho2 hb2
               have HO2 := Lib.hid ho2
               have HB2 := Lib.hid (Below.trans (a := w) (by go_grown) hb2)
               clear ho2 hb2)
  go_ret2
  exact ⟨v2, _, rfl, HO2.out, HB2.out⟩
set_option maxRecDepth 100000 in
theorem bits_hex_12 (base : Nat) (v : Value) (l : List UInt8) (w : World) (ht : Tab w) (ho : OwnB w base v l) (hb : base ≤ w.heap.size) (hl : l.length ≤ 1000000) :
    Calls Tryd.prog 36 #[v, .int .u64 12, .int .i64 16, .bool false, .bool true] w (Grows2 base (l ++ [99]) w) := by
  have HT := Lib.hid ht
  have HO0 := Lib.hid ho
  have HB := Lib.hid hb
  have hz0 := zero65
  have hz1 := z64
  have hz2 := z63
  have hz3 := zsz
  have g1 : bits .and .u64 12 15 = 12 := by kernel_rfl
  clear ho ht
  go_enter Tryd.func36, Tryd.ntmps36
  go_wp2_with (first
    | (go_at_call 41; refine (go_p2 _).mono ?_; rintro e1 w1 ⟨rfl, rfl⟩)
    | (go_at_call 42; refine (go_tz _ (HT.out.on (box_b _ _))).mono ?_; rintro e1 w1 ⟨rfl, rfl⟩))
  refine wp_loop_rounds 2 ?_
  rw [rounds_succ]
  go_wp2_with (with_reducible show wpList _ _ _ (⟨some 98, _, _, _, _, _⟩ :: _) _ _
               refine wpList_appB rfl (.tmp 95) (.tmp 97) rfl base v l [99] ⟨w.heap.size, 64, none⟩ 1 rfl (HO0.out.below (by go_grown)) rfl (fun j hj => match j, hj with
                 | 0, _ => (cell_of_row _ w.heap.size 64 _ _ _ (heap_alloc_new w _)).trans (by kernel_rfl)) (by simp; omega) (by simp; omega) ?_
               intro v2 w2 ho2 hb2
               have HO2 := Lib.hid ho2
               have HB2 := Lib.hid (Below.trans (a := w) (by go_grown) hb2)
               clear ho2 hb2)
  go_ret2
  exact ⟨v2, _, rfl, HO2.out, HB2.out⟩
set_option maxRecDepth 100000 in
theorem bits_hex_13 (base : Nat) (v : Value) (l : List UInt8) (w : World) (ht : Tab w) (ho : OwnB w base v l) (hb : base ≤ w.heap.size) (hl : l.length ≤ 1000000) :
    Calls Tryd.prog 36 #[v, .int .u64 13, .int .i64 16, .bool false, .bool true] w (Grows2 base (l ++ [100]) w) := by
  have HT := Lib.hid ht
  have HO0 := Lib.hid ho
  have HB := Lib.hid hb
  have hz0 := zero65
  have hz1 := z64
  have hz2 := z63
  have hz3 := zsz
  have g1 : bits .and .u64 13 15 = 13 := by kernel_rfl
  clear ho ht
  go_enter Tryd.func36, Tryd.ntmps36
  go_wp2_with (first
    | (go_at_call 41; refine (go_p2 _).mono ?_; rintro e1 w1 ⟨rfl, rfl⟩)
    | (go_at_call 42; refine (go_tz _ (HT.out.on (box_b _ _))).mono ?_; rintro e1 w1 ⟨rfl, rfl⟩))
  refine wp_loop_rounds 2 ?_
  rw [rounds_succ]
  go_wp2_with (with_reducible show wpList _ _ _ (⟨some 98, _, _, _, _, _⟩ :: _) _ _
               refine wpList_appB rfl (.tmp 95) (.tmp 97) rfl base v l [100] ⟨w.heap.size, 64, none⟩ 1 rfl (HO0.out.below (by go_grown)) rfl (fun j hj => match j, hj with
                 | 0, _ => (cell_of_row _ w.heap.size 64 _ _ _ (heap_alloc_new w _)).trans (by kernel_rfl)) (by simp; omega) (by simp; omega) ?_
               intro v2 w2 ho2 hb2
               have HO2 := Lib.hid ho2
               have HB2 := Lib.hid (Below.trans (a := w) (by go_grown) hb2)
               clear ho2 hb2)
  go_ret2
  exact ⟨v2, _, rfl, HO2.out, HB2.out⟩
set_option maxRecDepth 100000 in
theorem bits_hex_14 (base : Nat) (v : Value) (l : List UInt8) (w : World) (ht : Tab w) (ho : OwnB w base v l) (hb : base ≤ w.heap.size) (hl : l.length ≤ 1000000) :
    Calls Tryd.prog 36 #[v, .int .u64 14, .int .i64 16, .bool false, .bool true] w (Grows2 base (l ++ [101]) w) := by
  have HT := Lib.hid ht
  have HO0 := Lib.hid ho
  have HB := Lib.hid hb
  have hz0 := zero65
  have hz1 := z64
  have hz2 := z63
  have hz3 := zsz
  have g1 : bits .and .u64 14 15 = 14 := by kernel_rfl
  clear ho ht
  go_enter Tryd.func36, Tryd.ntmps36
  go_wp2_with (first
    | (go_at_call 41; refine (go_p2 _).mono ?_; rintro e1 w1 ⟨rfl, rfl⟩)
    | (go_at_call 42; refine (go_tz _ (HT.out.on (box_b _ _))).mono ?_; rintro e1 w1 ⟨rfl, rfl⟩))
  refine wp_loop_rounds 2 ?_
  rw [rounds_succ]
  go_wp2_with (with_reducible show wpList _ _ _ (⟨some 98, _, _, _, _, _⟩ :: _) _ _
               refine wpList_appB rfl (.tmp 95) (.tmp 97) rfl base v l [101] ⟨w.heap.size, 64, none⟩ 1 rfl (HO0.out.below (by go_grown)) rfl (fun j hj => match j, hj with
                 | 0, _ => (cell_of_row _ w.heap.size 64 _ _ _ (heap_alloc_new w _)).trans (by kernel_rfl)) (by simp; omega) (by simp; omega) ?_
               intro v2 w2 ho2 hb2
               have HO2 := Lib.hid ho2
               have HB2 := Lib.hid (Below.trans (a := w) (by go_grown) hb2)
               clear ho2 hb2)
  go_ret2
  exact ⟨v2, _, rfl, HO2.out, HB2.out⟩
set_option maxRecDepth 100000 in
theorem bits_hex_15 (base : Nat) (v : Value) (l : List UInt8) (w : World) (ht : Tab w) (ho : OwnB w base v l) (hb : base ≤ w.heap.size) (hl : l.length ≤ 1000000) :
    Calls Tryd.prog 36 #[v, .int .u64 15, .int .i64 16, .bool false, .bool true] w (Grows2 base (l ++ [102]) w) := by
  have HT := Lib.hid ht
  have HO0 := Lib.hid ho
  have HB := Lib.hid hb
  have hz0 := zero65
  have hz1 := z64
  have hz2 := z63
  have hz3 := zsz
  have g1 : bits .and .u64 15 15 = 15 := by kernel_rfl
  clear ho ht
  go_enter Tryd.func36, Tryd.ntmps36
  go_wp2_with (first
    | (go_at_call 41; refine (go_p2 _).mono ?_; rintro e1 w1 ⟨rfl, rfl⟩)
    | (go_at_call 42; refine (go_tz _ (HT.out.on (box_b _ _))).mono ?_; rintro e1 w1 ⟨rfl, rfl⟩))
  refine wp_loop_rounds 2 ?_
  rw [rounds_succ]
  go_wp2_with (with_reducible show wpList _ _ _ (⟨some 98, _, _, _, _, _⟩ :: _) _ _
               refine wpList_appB rfl (.tmp 95) (.tmp 97) rfl base v l [102] ⟨w.heap.size, 64, none⟩ 1 rfl (HO0.out.below (by go_grown)) rfl (fun j hj => match j, hj with
                 | 0, _ => (cell_of_row _ w.heap.size 64 _ _ _ (heap_alloc_new w _)).trans (by kernel_rfl)) (by simp; omega) (by simp; omega) ?_
               intro v2 w2 ho2 hb2
               have HO2 := Lib.hid ho2
               have HB2 := Lib.hid (Below.trans (a := w) (by go_grown) hb2)
               clear ho2 hb2)
  go_ret2
  exact ⟨v2, _, rfl, HO2.out, HB2.out⟩
set_option maxRecDepth 100000 in
theorem bits_hex_16 (base : Nat) (v : Value) (l : List UInt8) (w : World) (ht : Tab w) (ho : OwnB w base v l) (hb : base ≤ w.heap.size) (hl : l.length ≤ 1000000) :
    Calls Tryd.prog 36 #[v, .int .u64 16, .int .i64 16, .bool false, .bool true] w (Grows2 base (l ++ [49, 48]) w) := by
  have HT := Lib.hid ht
  have HO0 := Lib.hid ho
  have HB := Lib.hid hb
  have hz0 := zero65
  have hz1 := z64
  have hz2 := z63
  have hz3 := zsz
  have g1 : bits .and .u64 16 15 = 0 := by kernel_rfl
  clear ho ht
  go_enter Tryd.func36, Tryd.ntmps36
  go_wp2_with (first
    | (go_at_call 41; refine (go_p2 _).mono ?_; rintro e1 w1 ⟨rfl, rfl⟩)
    | (go_at_call 42; refine (go_tz _ (HT.out.on (box_b _ _))).mono ?_; rintro e1 w1 ⟨rfl, rfl⟩))
  refine wp_loop_rounds 2 ?_
  rw [rounds_succ]
  go_wp2_with (with_reducible show wpList _ _ _ (⟨some 98, _, _, _, _, _⟩ :: _) _ _
               refine wpList_appB rfl (.tmp 95) (.tmp 97) rfl base v l [49, 48] ⟨w.heap.size, 63, none⟩ 2 rfl (HO0.out.below (by go_grown)) rfl (fun j hj => match j, hj with
                 | 0, _ => (cell_of_row _ w.heap.size 63 _ _ _ (heap_alloc_new w _)).trans (by kernel_rfl)
                 | 1, _ => (cell_of_row _ w.heap.size 64 _ _ _ (heap_alloc_new w _)).trans (by kernel_rfl)) (by simp; omega) (by simp; omega) ?_
               intro v2 w2 ho2 hb2
               have HO2 := Lib.hid ho2
               have HB2 := Lib.hid (Below.trans (a := w) (by go_grown) hb2)
               clear ho2 hb2)
  rw [rounds_succ]
  go_wp2_with (with_reducible show wpList _ _ _ (⟨some 98, _, _, _, _, _⟩ :: _) _ _
               refine wpList_appB rfl (.tmp 95) (.tmp 97) rfl base v l [49, 48] ⟨w.heap.size, 63, none⟩ 2 rfl (HO0.out.below (by go_grown)) rfl (fun j hj => match j, hj with
                 | 0, _ => (cell_of_row _ w.heap.size 63 _ _ _ (heap_alloc_new w _)).trans (by kernel_rfl)
                 | 1, _ => (cell_of_row _ w.heap.size 64 _ _ _ (heap_alloc_new w _)).trans (by kernel_rfl)) (by simp; omega) (by simp; omega) ?_
               intro v2 w2 ho2 hb2
               have HO2 := Lib.hid ho2
               have HB2 := Lib.hid (Below.trans (a := w) (by go_grown) hb2)
               clear ho2 hb2)
  go_ret2
  exact ⟨v2, _, rfl, HO2.out, HB2.out⟩
set_option maxRecDepth 100000 in
theorem bits_hex_17 (base : Nat) (v : Value) (l : List UInt8) (w : World) (ht : Tab w) (ho : OwnB w base v l) (hb : base ≤ w.heap.size) (hl : l.length ≤ 1000000) :
    Calls Tryd.prog 36 #[v, .int .u64 17, .int .i64 16, .bool false, .bool true] w (Grows2 base (l ++ [49, 49]) w) := by
  have HT := Lib.hid ht
  have HO0 := Lib.hid ho
  have HB := Lib.hid hb
  have hz0 := zero65
  have hz1 := z64
  have hz2 := z63
  have hz3 := zsz
  have g1 : bits .and .u64 17 15 = 1 := by kernel_rfl
  clear ho ht
  go_enter Tryd.func36, Tryd.ntmps36
  go_wp2_with (first
    | (go_at_call 41; refine (go_p2 _).mono ?_; rintro e1 w1 ⟨rfl, rfl⟩)
    | (go_at_call 42; refine (go_tz _ (HT.out.on (box_b _ _))).mono ?_; rintro e1 w1 ⟨rfl, rfl⟩))
  refine wp_loop_rounds 2 ?_
  rw [rounds_succ]
  go_wp2_with (with_reducible show wpList _ _ _ (⟨some 98, _, _, _, _, _⟩ :: _) _ _
               refine wpList_appB rfl (.tmp 95) (.tmp 97) rfl base v l [49, 49] ⟨w.heap.size, 63, none⟩ 2 rfl (HO0.out.below (by go_grown)) rfl (fun j hj => match j, hj with
                 | 0, _ => (cell_of_row _ w.heap.size 63 _ _ _ (heap_alloc_new w _)).trans (by kernel_rfl)
                 | 1, _ => (cell_of_row _ w.heap.size 64 _ _ _ (heap_alloc_new w _)).trans (by kernel_rfl)) (by simp; omega) (by simp; omega) ?_
               intro v2 w2 ho2 hb2
               have HO2 := Lib.hid ho2
               have HB2 := Lib.hid (Below.trans (a := w) (by go_grown) hb2)
               clear ho2 hb2)
  rw [rounds_succ]
  go_wp2_with (with_reducible show wpList _ _ _ (⟨some 98, _, _, _, _, _⟩ :: _) _ _
               refine wpList_appB rfl (.tmp 95) (.tmp 97) rfl base v l [49, 49] ⟨w.heap.size, 63, none⟩ 2 rfl (HO0.out.below (by go_grown)) rfl (fun j hj => match j, hj with
                 | 0, _ => (cell_of_row _ w.heap.size 63 _ _ _ (heap_alloc_new w _)).trans (by kernel_rfl)
                 | 1, _ => (cell_of_row _ w.heap.size 64 _ _ _ (heap_alloc_new w _)).trans (by kernel_rfl)) (by simp; omega) (by simp; omega) ?_
               intro v2 w2 ho2 hb2
               have HO2 := Lib.hid ho2
               have HB2 := Lib.hid (Below.trans (a := w) (by go_grown) hb2)
               clear ho2 hb2)
  go_ret2
  exact ⟨v2, _, rfl, HO2.out, HB2.out⟩
set_option maxRecDepth 100000 in
theorem bits_hex_18 (base : Nat) (v : Value) (l : List UInt8) (w : World) (ht : Tab w) (ho : OwnB w base v l) (hb : base ≤ w.heap.size) (hl : l.length ≤ 1000000) :
    Calls Tryd.prog 36 #[v, .int .u64 18, .int .i64 16, .bool false, .bool true] w (Grows2 base (l ++ [49, 50]) w) := by
  have HT := Lib.hid ht
  have HO0 := Lib.hid ho
  have HB := Lib.hid hb
  have hz0 := zero65
  have hz1 := z64
  have hz2 := z63
  have hz3 := zsz
  have g1 : bits .and .u64 18 15 = 2 := by kernel_rfl
  clear ho ht
  go_enter Tryd.func36, Tryd.ntmps36
  go_wp2_with (first
    | (go_at_call 41; refine (go_p2 _).mono ?_; rintro e1 w1 ⟨rfl, rfl⟩)
    | (go_at_call 42; refine (go_tz _ (HT.out.on (box_b _ _))).mono ?_; rintro e1 w1 ⟨rfl, rfl⟩))
  refine wp_loop_rounds 2 ?_
  rw [rounds_succ]
  go_wp2_with (with_reducible show wpList _ _ _ (⟨some 98, _, _, _, _, _⟩ :: _) _ _
               refine wpList_appB rfl (.tmp 95) (.tmp 97) rfl base v l [49, 50] ⟨w.heap.size, 63, none⟩ 2 rfl (HO0.out.below (by go_grown)) rfl (fun j hj => match j, hj with
                 | 0, _ => (cell_of_row _ w.heap.size 63 _ _ _ (heap_alloc_new w _)).trans (by kernel_rfl)
                 | 1, _ => (cell_of_row _ w.heap.size 64 _ _ _ (heap_alloc_new w _)).trans (by kernel_rfl)) (by simp; omega) (by simp; omega) ?_
               intro v2 w2 ho2 hb2
               have HO2 := Lib.hid ho2
               have HB2 := Lib.hid (Below.trans (a := w) (by go_grown) hb2)
               clear ho2 hb2)
  rw [rounds_succ]
  go_wp2_with (with_reducible show wpList _ _ _ (⟨some 98, _, _, _, _, _⟩ :: _) _ _
               refine wpList_appB rfl (.tmp 95) (.tmp 97) rfl base v l [49, 50] ⟨w.heap.size, 63, none⟩ 2 rfl (HO0.out.below (by go_grown)) rfl (fun j hj => match j, hj with
                 | 0, _ => (cell_of_row _ w.heap.size 63 _ _ _ (heap_alloc_new w _)).trans (by kernel_rfl)
                 | 1, _ => (cell_of_row _ w.heap.size 64 _ _ _ (heap_alloc_new w _)).trans (by kernel_rfl)) (by simp; omega) (by simp; omega) ?_
               intro v2 w2 ho2 hb2
               have HO2 := Lib.hid ho2
               have HB2 := Lib.hid (Below.trans (a := w) (by go_grown) hb2)
               clear ho2 hb2)
  go_ret2
  exact ⟨v2, _, rfl, HO2.out, HB2.out⟩
set_option maxRecDepth 100000 in
theorem bits_hex_19 (base : Nat) (v : Value) (l : List UInt8) (w : World) (ht : Tab w) (ho : OwnB w base v l) (hb : base ≤ w.heap.size) (hl : l.length ≤ 1000000) :
    Calls Tryd.prog 36 #[v, .int .u64 19, .int .i64 16, .bool false, .bool true] w (Grows2 base (l ++ [49, 51]) w) := by
  have HT := Lib.hid ht
  have HO0 := Lib.hid ho
  have HB := Lib.hid hb
  have hz0 := zero65
  have hz1 := z64
  have hz2 := z63
  have hz3 := zsz
  have g1 : bits .and .u64 19 15 = 3 := by kernel_rfl
  clear ho ht
  go_enter Tryd.func36, Tryd.ntmps36
  go_wp2_with (first
    | (go_at_call 41; refine (go_p2 _).mono ?_; rintro e1 w1 ⟨rfl, rfl⟩)
    | (go_at_call 42; refine (go_tz _ (HT.out.on (box_b _ _))).mono ?_; rintro e1 w1 ⟨rfl, rfl⟩))
  refine wp_loop_rounds 2 ?_
  rw [rounds_succ]
  go_wp2_with (with_reducible show wpList _ _ _ (⟨some 98, _, _, _, _, _⟩ :: _) _ _
               refine wpList_appB rfl (.tmp 95) (.tmp 97) rfl base v l [49, 51] ⟨w.heap.size, 63, none⟩ 2 rfl (HO0.out.below (by go_grown)) rfl (fun j hj => match j, hj with
                 | 0, _ => (cell_of_row _ w.heap.size 63 _ _ _ (heap_alloc_new w _)).trans (by kernel_rfl)
                 | 1, _ => (cell_of_row _ w.heap.size 64 _ _ _ (heap_alloc_new w _)).trans (by kernel_rfl)) (by simp; omega) (by simp; omega) ?_
               intro v2 w2 ho2 hb2
               have HO2 := Lib.hid ho2
               have HB2 := Lib.hid (Below.trans (a := w) (by go_grown) hb2)
               clear ho2 hb2)
  rw [rounds_succ]
  go_wp2_with (with_reducible show wpList _ _ _ (⟨some 98, _, _, _, _, _⟩ :: _) _ _
               refine wpList_appB rfl (.tmp 95) (.tmp 97) rfl base v l [49, 51] ⟨w.heap.size, 63, none⟩ 2 rfl (HO0.out.below (by go_grown)) rfl (fun j hj => match j, hj with
                 | 0, _ => (cell_of_row _ w.heap.size 63 _ _ _ (heap_alloc_new w _)).trans (by kernel_rfl)
                 | 1, _ => (cell_of_row _ w.heap.size 64 _ _ _ (heap_alloc_new w _)).trans (by kernel_rfl)) (by simp; omega) (by simp; omega) ?_
               intro v2 w2 ho2 hb2
               have HO2 := Lib.hid ho2
               have HB2 := Lib.hid (Below.trans (a := w) (by go_grown) hb2)
               clear ho2 hb2)
  go_ret2
  exact ⟨v2, _, rfl, HO2.out, HB2.out⟩
set_option maxRecDepth 100000 in
theorem bits_hex_20 (base : Nat) (v : Value) (l : List UInt8) (w : World) (ht : Tab w) (ho : OwnB w base v l) (hb : base ≤ w.heap.size) (hl : l.length ≤ 1000000) :
    Calls Tryd.prog 36 #[v, .int .u64 20, .int .i64 16, .bool false, .bool true] w (Grows2 base (l ++ [49, 52]) w) := by
  have HT := Lib.hid ht
  have HO0 := Lib.hid ho
  have HB := Lib.hid hb
  have hz0 := zero65
  have hz1 := z64
  have hz2 := z63
  have hz3 := zsz
  have g1 : bits .and .u64 20 15 = 4 := by kernel_rfl
  clear ho ht
  go_enter Tryd.func36, Tryd.ntmps36
  go_wp2_with (first
    | (go_at_call 41; refine (go_p2 _).mono ?_; rintro e1 w1 ⟨rfl, rfl⟩)
    | (go_at_call 42; refine (go_tz _ (HT.out.on (box_b _ _))).mono ?_; rintro e1 w1 ⟨rfl, rfl⟩))
  refine wp_loop_rounds 2 ?_
  rw [rounds_succ]
  go_wp2_with (with_reducible show wpList _ _ _ (⟨some 98, _, _, _, _, _⟩ :: _) _ _
               refine wpList_appB rfl (.tmp 95) (.tmp 97) rfl base v l [49, 52] ⟨w.heap.size, 63, none⟩ 2 rfl (HO0.out.below (by go_grown)) rfl (fun j hj => match j, hj with
                 | 0, _ => (cell_of_row _ w.heap.size 63 _ _ _ (heap_alloc_new w _)).trans (by kernel_rfl)
                 | 1, _ => (cell_of_row _ w.heap.size 64 _ _ _ (heap_alloc_new w _)).trans (by kernel_rfl)) (by simp; omega) (by simp; omega) ?_
               intro v2 w2 ho2 hb2
               have HO2 := Lib.hid ho2
               have HB2 := Lib.hid (Below.trans (a := w) (by go_grown) hb2)
               clear ho2 hb2)
  rw [rounds_succ]
  go_wp2_with (with_reducible show wpList _ _ _ (⟨some 98, _, _, _, _, _⟩ :: _) _ _
               refine wpList_appB rfl (.tmp 95) (.tmp 97) rfl base v l [49, 52] ⟨w.heap.size, 63, none⟩ 2 rfl (HO0.out.below (by go_grown)) rfl (fun j hj => match j, hj with
                 | 0, _ => (cell_of_row _ w.heap.size 63 _ _ _ (heap_alloc_new w _)).trans (by kernel_rfl)
                 | 1, _ => (cell_of_row _ w.heap.size 64 _ _ _ (heap_alloc_new w _)).trans (by kernel_rfl)) (by simp; omega) (by simp; omega) ?_
               intro v2 w2 ho2 hb2
               have HO2 := Lib.hid ho2
               have HB2 := Lib.hid (Below.trans (a := w) (by go_grown) hb2)
               clear ho2 hb2)
  go_ret2
  exact ⟨v2, _, rfl, HO2.out, HB2.out⟩
set_option maxRecDepth 100000 in
theorem bits_hex_21 (base : Nat) (v : Value) (l : List UInt8) (w : World) (ht : Tab w) (ho : OwnB w base v l) (hb : base ≤ w.heap.size) (hl : l.length ≤ 1000000) :
    Calls Tryd.prog 36 #[v, .int .u64 21, .int .i64 16, .bool false, .bool true] w (Grows2 base (l ++ [49, 53]) w) := by
  have HT := Lib.hid ht
  have HO0 := Lib.hid ho
  have HB := Lib.hid hb
  have hz0 := zero65
  have hz1 := z64
  have hz2 := z63
  have hz3 := zsz
  have g1 : bits .and .u64 21 15 = 5 := by kernel_rfl
  clear ho ht
  go_enter Tryd.func36, Tryd.ntmps36
  go_wp2_with (first
    | (go_at_call 41; refine (go_p2 _).mono ?_; rintro e1 w1 ⟨rfl, rfl⟩)
    | (go_at_call 42; refine (go_tz _ (HT.out.on (box_b _ _))).mono ?_; rintro e1 w1 ⟨rfl, rfl⟩))
  refine wp_loop_rounds 2 ?_
  rw [rounds_succ]
  go_wp2_with (with_reducible show wpList _ _ _ (⟨some 98, _, _, _, _, _⟩ :: _) _ _
               refine wpList_appB rfl (.tmp 95) (.tmp 97) rfl base v l [49, 53] ⟨w.heap.size, 63, none⟩ 2 rfl (HO0.out.below (by go_grown)) rfl (fun j hj => match j, hj with
                 | 0, _ => (cell_of_row _ w.heap.size 63 _ _ _ (heap_alloc_new w _)).trans (by kernel_rfl)
                 | 1, _ => (cell_of_row _ w.heap.size 64 _ _ _ (heap_alloc_new w _)).trans (by kernel_rfl)) (by simp; omega) (by simp; omega) ?_
               intro v2 w2 ho2 hb2
               have HO2 := Lib.hid ho2
               have HB2 := Lib.hid (Below.trans (a := w) (by go_grown) hb2)
               clear ho2 hb2)
  rw [rounds_succ]
  go_wp2_with (with_reducible show wpList _ _ _ (⟨some 98, _, _, _, _, _⟩ :: _) _ _
               refine wpList_appB rfl (.tmp 95) (.tmp 97) rfl base v l [49, 53] ⟨w.heap.size, 63, none⟩ 2 rfl (HO0.out.below (by go_grown)) rfl (fun j hj => match j, hj with
                 | 0, _ => (cell_of_row _ w.heap.size 63 _ _ _ (heap_alloc_new w _)).trans (by kernel_rfl)
                 | 1, _ => (cell_of_row _ w.heap.size 64 _ _ _ (heap_alloc_new w _)).trans (by kernel_rfl)) (by simp; omega) (by simp; omega) ?_
               intro v2 w2 ho2 hb2
               have HO2 := Lib.hid ho2
               have HB2 := Lib.hid (Below.trans (a := w) (by go_grown) hb2)
               clear ho2 hb2)
  go_ret2
  exact ⟨v2, _, rfl, HO2.out, HB2.out⟩
set_option maxRecDepth 100000 in
theorem bits_hex_22 (base : Nat) (v : Value) (l : List UInt8) (w : World) (ht : Tab w) (ho : OwnB w base v l) (hb : base ≤ w.heap.size) (hl : l.length ≤ 1000000) :
    Calls Tryd.prog 36 #[v, .int .u64 22, .int .i64 16, .bool false, .bool true] w (Grows2 base (l ++ [49, 54]) w) := by
  have HT := Lib.hid ht
  have HO0 := Lib.hid ho
  have HB := Lib.hid hb
  have hz0 := zero65
  have hz1 := z64
  have hz2 := z63
  have hz3 := zsz
  have g1 : bits .and .u64 22 15 = 6 := by kernel_rfl
  clear ho ht
  go_enter Tryd.func36, Tryd.ntmps36
  go_wp2_with (first
    | (go_at_call 41; refine (go_p2 _).mono ?_; rintro e1 w1 ⟨rfl, rfl⟩)
    | (go_at_call 42; refine (go_tz _ (HT.out.on (box_b _ _))).mono ?_; rintro e1 w1 ⟨rfl, rfl⟩))
  refine wp_loop_rounds 2 ?_
  rw [rounds_succ]
  go_wp2_with (with_reducible show wpList _ _ _ (⟨some 98, _, _, _, _, _⟩ :: _) _ _
               refine wpList_appB rfl (.tmp 95) (.tmp 97) rfl base v l [49, 54] ⟨w.heap.size, 63, none⟩ 2 rfl (HO0.out.below (by go_grown)) rfl (fun j hj => match j, hj with
                 | 0, _ => (cell_of_row _ w.heap.size 63 _ _ _ (heap_alloc_new w _)).trans (by kernel_rfl)
                 | 1, _ => (cell_of_row _ w.heap.size 64 _ _ _ (heap_alloc_new w _)).trans (by kernel_rfl)) (by simp; omega) (by simp; omega) ?_
               intro v2 w2 ho2 hb2
               have HO2 := Lib.hid ho2
               have HB2 := Lib.hid (Below.trans (a := w) (by go_grown) hb2)
               clear ho2 hb2)
  rw [rounds_succ]
  go_wp2_with (with_reducible show wpList _ _ _ (⟨some 98, _, _, _, _, _⟩ :: _) _ _
               refine wpList_appB rfl (.tmp 95) (.tmp 97) rfl base v l [49, 54] ⟨w.heap.size, 63, none⟩ 2 rfl (HO0.out.below (by go_grown)) rfl (fun j hj => match j, hj with
                 | 0, _ => (cell_of_row _ w.heap.size 63 _ _ _ (heap_alloc_new w _)).trans (by kernel_rfl)
                 | 1, _ => (cell_of_row _ w.heap.size 64 _ _ _ (heap_alloc_new w _)).trans (by kernel_rfl)) (by simp; omega) (by simp; omega) ?_
               intro v2 w2 ho2 hb2
               have HO2 := Lib.hid ho2
               have HB2 := Lib.hid (Below.trans (a := w) (by go_grown) hb2)
               clear ho2 hb2)
  go_ret2
  exact ⟨v2, _, rfl, HO2.out, HB2.out⟩
set_option maxRecDepth 100000 in
theorem bits_hex_23 (base : Nat) (v : Value) (l : List UInt8) (w : World) (ht : Tab w) (ho : OwnB w base v l) (hb : base ≤ w.heap.size) (hl : l.length ≤ 1000000) :
    Calls Tryd.prog 36 #[v, .int .u64 23, .int .i64 16, .bool false, .bool true] w (Grows2 base (l ++ [49, 55]) w) := by
  have HT := Lib.hid ht
  have HO0 := Lib.hid ho
  have HB := Lib.hid hb
  have hz0 := zero65
  have hz1 := z64
  have hz2 := z63
  have hz3 := zsz
  have g1 : bits .and .u64 23 15 = 7 := by kernel_rfl
  clear ho ht
  go_enter Tryd.func36, Tryd.ntmps36
  go_wp2_with (first
    | (go_at_call 41; refine (go_p2 _).mono ?_; rintro e1 w1 ⟨rfl, rfl⟩)
    | (go_at_call 42; refine (go_tz _ (HT.out.on (box_b _ _))).mono ?_; rintro e1 w1 ⟨rfl, rfl⟩))
  refine wp_loop_rounds 2 ?_
  rw [rounds_succ]
  go_wp2_with (with_reducible show wpList _ _ _ (⟨some 98, _, _, _, _, _⟩ :: _) _ _
               refine wpList_appB rfl (.tmp 95) (.tmp 97) rfl base v l [49, 55] ⟨w.heap.size, 63, none⟩ 2 rfl (HO0.out.below (by go_grown)) rfl (fun j hj => match j, hj with
                 | 0, _ => (cell_of_row _ w.heap.size 63 _ _ _ (heap_alloc_new w _)).trans (by kernel_rfl)
                 | 1, _ => (cell_of_row _ w.heap.size 64 _ _ _ (heap_alloc_new w _)).trans (by kernel_rfl)) (by simp; omega) (by simp; omega) ?_
               intro v2 w2 ho2 hb2
               have HO2 := Lib.hid ho2
               have HB2 := Lib.hid (Below.trans (a := w) (by go_grown) hb2)
               clear ho2 hb2)
  rw [rounds_succ]
  go_wp2_with (with_reducible show wpList _ _ _ (⟨some 98, _, _, _, _, _⟩ :: _) _ _
               refine wpList_appB rfl (.tmp 95) (.tmp 97) rfl base v l [49, 55] ⟨w.heap.size, 63, none⟩ 2 rfl (HO0.out.below (by go_grown)) rfl (fun j hj => match j, hj with
                 | 0, _ => (cell_of_row _ w.heap.size 63 _ _ _ (heap_alloc_new w _)).trans (by kernel_rfl)
                 | 1, _ => (cell_of_row _ w.heap.size 64 _ _ _ (heap_alloc_new w _)).trans (by kernel_rfl)) (by simp; omega) (by simp; omega) ?_
               intro v2 w2 ho2 hb2
               have HO2 := Lib.hid ho2
               have HB2 := Lib.hid (Below.trans (a := w) (by go_grown) hb2)
               clear ho2 hb2)
  go_ret2
  exact ⟨v2, _, rfl, HO2.out, HB2.out⟩
set_option maxRecDepth 100000 in
theorem bits_hex_24 (base : Nat) (v : Value) (l : List UInt8) (w : World) (ht : Tab w) (ho : OwnB w base v l) (hb : base ≤ w.heap.size) (hl : l.length ≤ 1000000) :
    Calls Tryd.prog 36 #[v, .int .u64 24, .int .i64 16, .bool false, .bool true] w (Grows2 base (l ++ [49, 56]) w) := by
  have HT := Lib.hid ht
  have HO0 := Lib.hid ho
  have HB := Lib.hid hb
  have hz0 := zero65
  have hz1 := z64
  have hz2 := z63
  have hz3 := zsz
  have g1 : bits .and .u64 24 15 = 8 := by kernel_rfl
  clear ho ht
  go_enter Tryd.func36, Tryd.ntmps36
  go_wp2_with (first
    | (go_at_call 41; refine (go_p2 _).mono ?_; rintro e1 w1 ⟨rfl, rfl⟩)
    | (go_at_call 42; refine (go_tz _ (HT.out.on (box_b _ _))).mono ?_; rintro e1 w1 ⟨rfl, rfl⟩))
  refine wp_loop_rounds 2 ?_
  rw [rounds_succ]
  go_wp2_with (with_reducible show wpList _ _ _ (⟨some 98, _, _, _, _, _⟩ :: _) _ _
               refine wpList_appB rfl (.tmp 95) (.tmp 97) rfl base v l [49, 56] ⟨w.heap.size, 63, none⟩ 2 rfl (HO0.out.below (by go_grown)) rfl (fun j hj => match j, hj with
                 | 0, _ => (cell_of_row _ w.heap.size 63 _ _ _ (heap_alloc_new w _)).trans (by kernel_rfl)
                 | 1, _ => (cell_of_row _ w.heap.size 64 _ _ _ (heap_alloc_new w _)).trans (by kernel_rfl)) (by simp; omega) (by simp; omega) ?_
               intro v2 w2 ho2 hb2
               have HO2 := Lib.hid ho2
               have HB2 := Lib.hid (Below.trans (a := w) (by go_grown) hb2)
               clear ho2 hb2)
  rw [rounds_succ]
  go_wp2_with (with_reducible show wpList _ _ _ (⟨some 98, _, _, _, _, _⟩ :: _) _ _
               refine wpList_appB rfl (.tmp 95) (.tmp 97) rfl base v l [49, 56] ⟨w.heap.size, 63, none⟩ 2 rfl (HO0.out.below (by go_grown)) rfl (fun j hj => match j, hj with
                 | 0, _ => (cell_of_row _ w.heap.size 63 _ _ _ (heap_alloc_new w _)).trans (by kernel_rfl)
                 | 1, _ => (cell_of_row _ w.heap.size 64 _ _ _ (heap_alloc_new w _)).trans (by kernel_rfl)) (by simp; omega) (by simp; omega) ?_
               intro v2 w2 ho2 hb2
               have HO2 := Lib.hid ho2
               have HB2 := Lib.hid (Below.trans (a := w) (by go_grown) hb2)
               clear ho2 hb2)
  go_ret2
  exact ⟨v2, _, rfl, HO2.out, HB2.out⟩
set_option maxRecDepth 100000 in
theorem bits_hex_25 (base : Nat) (v : Value) (l : List UInt8) (w : World) (ht : Tab w) (ho : OwnB w base v l) (hb : base ≤ w.heap.size) (hl : l.length ≤ 1000000) :
    Calls Tryd.prog 36 #[v, .int .u64 25, .int .i64 16, .bool false, .bool true] w (Grows2 base (l ++ [49, 57]) w) := by
  have HT := Lib.hid ht
  have HO0 := Lib.hid ho
  have HB := Lib.hid hb
  have hz0 := zero65
  have hz1 := z64
  have hz2 := z63
  have hz3 := zsz
  have g1 : bits .and .u64 25 15 = 9 := by kernel_rfl
  clear ho ht
  go_enter Tryd.func36, Tryd.ntmps36
  go_wp2_with (first
    | (go_at_call 41; refine (go_p2 _).mono ?_; rintro e1 w1 ⟨rfl, rfl⟩)
    | (go_at_call 42; refine (go_tz _ (HT.out.on (box_b _ _))).mono ?_; rintro e1 w1 ⟨rfl, rfl⟩))
  refine wp_loop_rounds 2 ?_
  rw [rounds_succ]
  go_wp2_with (with_reducible show wpList _ _ _ (⟨some 98, _, _, _, _, _⟩ :: _) _ _
               refine wpList_appB rfl (.tmp 95) (.tmp 97) rfl base v l [49, 57] ⟨w.heap.size, 63, none⟩ 2 rfl (HO0.out.below (by go_grown)) rfl (fun j hj => match j, hj with
                 | 0, _ => (cell_of_row _ w.heap.size 63 _ _ _ (heap_alloc_new w _)).trans (by kernel_rfl)
                 | 1, _ => (cell_of_row _ w.heap.size 64 _ _ _ (heap_alloc_new w _)).trans (by kernel_rfl)) (by simp; omega) (by simp; omega) ?_
               intro v2 w2 ho2 hb2
               have HO2 := Lib.hid ho2
               have HB2 := Lib.hid (Below.trans (a := w) (by go_grown) hb2)
               clear ho2 hb2)
  rw [rounds_succ]
  go_wp2_with (with_reducible show wpList _ _ _ (⟨some 98, _, _, _, _, _⟩ :: _) _ _
               refine wpList_appB rfl (.tmp 95) (.tmp 97) rfl base v l [49, 57] ⟨w.heap.size, 63, none⟩ 2 rfl (HO0.out.below (by go_grown)) rfl (fun j hj => match j, hj with
                 | 0, _ => (cell_of_row _ w.heap.size 63 _ _ _ (heap_alloc_new w _)).trans (by kernel_rfl)
                 | 1, _ => (cell_of_row _ w.heap.size 64 _ _ _ (heap_alloc_new w _)).trans (by kernel_rfl)) (by simp; omega) (by simp; omega) ?_
               intro v2 w2 ho2 hb2
               have HO2 := Lib.hid ho2
               have HB2 := Lib.hid (Below.trans (a := w) (by go_grown) hb2)
               clear ho2 hb2)
  go_ret2
  exact ⟨v2, _, rfl, HO2.out, HB2.out⟩
set_option maxRecDepth 100000 in
theorem bits_hex_26 (base : Nat) (v : Value) (l : List UInt8) (w : World) (ht : Tab w) (ho : OwnB w base v l) (hb : base ≤ w.heap.size) (hl : l.length ≤ 1000000) :
    Calls Tryd.prog 36 #[v, .int .u64 26, .int .i64 16, .bool false, .bool true] w (Grows2 base (l ++ [49, 97]) w) := by
  have HT := Lib.hid ht
  have HO0 := Lib.hid ho
  have HB := Lib.hid hb
  have hz0 := zero65
  have hz1 := z64
  have hz2 := z63
  have hz3 := zsz
  have g1 : bits .and .u64 26 15 = 10 := by kernel_rfl
  clear ho ht
  go_enter Tryd.func36, Tryd.ntmps36
  go_wp2_with (first
    | (go_at_call 41; refine (go_p2 _).mono ?_; rintro e1 w1 ⟨rfl, rfl⟩)
    | (go_at_call 42; refine (go_tz _ (HT.out.on (box_b _ _))).mono ?_; rintro e1 w1 ⟨rfl, rfl⟩))
  refine wp_loop_rounds 2 ?_
  rw [rounds_succ]
  go_wp2_with (with_reducible show wpList _ _ _ (⟨some 98, _, _, _, _, _⟩ :: _) _ _
               refine wpList_appB rfl (.tmp 95) (.tmp 97) rfl base v l [49, 97] ⟨w.heap.size, 63, none⟩ 2 rfl (HO0.out.below (by go_grown)) rfl (fun j hj => match j, hj with
                 | 0, _ => (cell_of_row _ w.heap.size 63 _ _ _ (heap_alloc_new w _)).trans (by kernel_rfl)
                 | 1, _ => (cell_of_row _ w.heap.size 64 _ _ _ (heap_alloc_new w _)).trans (by kernel_rfl)) (by simp; omega) (by simp; omega) ?_
               intro v2 w2 ho2 hb2
               have HO2 := Lib.hid ho2
               have HB2 := Lib.hid (Below.trans (a := w) (by go_grown) hb2)
               clear ho2 hb2)
  rw [rounds_succ]
  go_wp2_with (with_reducible show wpList _ _ _ (⟨some 98, _, _, _, _, _⟩ :: _) _ _
               refine wpList_appB rfl (.tmp 95) (.tmp 97) rfl base v l [49, 97] ⟨w.heap.size, 63, none⟩ 2 rfl (HO0.out.below (by go_grown)) rfl (fun j hj => match j, hj with
                 | 0, _ => (cell_of_row _ w.heap.size 63 _ _ _ (heap_alloc_new w _)).trans (by kernel_rfl)
                 | 1, _ => (cell_of_row _ w.heap.size 64 _ _ _ (heap_alloc_new w _)).trans (by kernel_rfl)) (by simp; omega) (by simp; omega) ?_
               intro v2 w2 ho2 hb2
               have HO2 := Lib.hid ho2
               have HB2 := Lib.hid (Below.trans (a := w) (by go_grown) hb2)
               clear ho2 hb2)
  go_ret2
  exact ⟨v2, _, rfl, HO2.out, HB2.out⟩
set_option maxRecDepth 100000 in
theorem bits_hex_27 (base : Nat) (v : Value) (l : List UInt8) (w : World) (ht : Tab w) (ho : OwnB w base v l) (hb : base ≤ w.heap.size) (hl : l.length ≤ 1000000) :
    Calls Tryd.prog 36 #[v, .int .u64 27, .int .i64 16, .bool false, .bool true] w (Grows2 base (l ++ [49, 98]) w) := by
  have HT := Lib.hid ht
  have HO0 := Lib.hid ho
  have HB := Lib.hid hb
  have hz0 := zero65
  have hz1 := z64
  have hz2 := z63
  have hz3 := zsz
  have g1 : bits .and .u64 27 15 = 11 := by kernel_rfl
  clear ho ht
  go_enter Tryd.func36, Tryd.ntmps36
  go_wp2_with (first
    | (go_at_call 41; refine (go_p2 _).mono ?_; rintro e1 w1 ⟨rfl, rfl⟩)
    | (go_at_call 42; refine (go_tz _ (HT.out.on (box_b _ _))).mono ?_; rintro e1 w1 ⟨rfl, rfl⟩))
  refine wp_loop_rounds 2 ?_
  rw [rounds_succ]
  go_wp2_with (with_reducible show wpList _ _ _ (⟨some 98, _, _, _, _, _⟩ :: _) _ _
               refine wpList_appB rfl (.tmp 95) (.tmp 97) rfl base v l [49, 98] ⟨w.heap.size, 63, none⟩ 2 rfl (HO0.out.below (by go_grown)) rfl (fun j hj => match j, hj with
                 | 0, _ => (cell_of_row _ w.heap.size 63 _ _ _ (heap_alloc_new w _)).trans (by kernel_rfl)
                 | 1, _ => (cell_of_row _ w.heap.size 64 _ _ _ (heap_alloc_new w _)).trans (by kernel_rfl)) (by simp; omega) (by simp; omega) ?_
               intro v2 w2 ho2 hb2
               have HO2 := Lib.hid ho2
               have HB2 := Lib.hid (Below.trans (a := w) (by go_grown) hb2)
               clear ho2 hb2)
  rw [rounds_succ]
  go_wp2_with (with_reducible show wpList _ _ _ (⟨some 98, _, _, _, _, _⟩ :: _) _ _
               refine wpList_appB rfl (.tmp 95) (.tmp 97) rfl base v l [49, 98] ⟨w.heap.size, 63, none⟩ 2 rfl (HO0.out.below (by go_grown)) rfl (fun j hj => match j, hj with
                 | 0, _ => (cell_of_row _ w.heap.size 63 _ _ _ (heap_alloc_new w _)).trans (by kernel_rfl)
                 | 1, _ => (cell_of_row _ w.heap.size 64 _ _ _ (heap_alloc_new w _)).trans (by kernel_rfl)) (by simp; omega) (by simp; omega) ?_
               intro v2 w2 ho2 hb2
               have HO2 := Lib.hid ho2
               have HB2 := Lib.hid (Below.trans (a := w) (by go_grown) hb2)
               clear ho2 hb2)
  go_ret2
  exact ⟨v2, _, rfl, HO2.out, HB2.out⟩
set_option maxRecDepth 100000 in
theorem bits_hex_28 (base : Nat) (v : Value) (l : List UInt8) (w : World) (ht : Tab w) (ho : OwnB w base v l) (hb : base ≤ w.heap.size) (hl : l.length ≤ 1000000) :
    Calls Tryd.prog 36 #[v, .int .u64 28, .int .i64 16, .bool false, .bool true] w (Grows2 base (l ++ [49, 99]) w) := by
  have HT := Lib.hid ht
  have HO0 := Lib.hid ho
  have HB := Lib.hid hb
  have hz0 := zero65
  have hz1 := z64
  have hz2 := z63
  have hz3 := zsz
  have g1 : bits .and .u64 28 15 = 12 := by kernel_rfl
  clear ho ht
  go_enter Tryd.func36, Tryd.ntmps36
  go_wp2_with (first
    | (go_at_call 41; refine (go_p2 _).mono ?_; rintro e1 w1 ⟨rfl, rfl⟩)
    | (go_at_call 42; refine (go_tz _ (HT.out.on (box_b _ _))).mono ?_; rintro e1 w1 ⟨rfl, rfl⟩))
  refine wp_loop_rounds 2 ?_
  rw [rounds_succ]
  go_wp2_with (with_reducible show wpList _ _ _ (⟨some 98, _, _, _, _, _⟩ :: _) _ _
               refine wpList_appB rfl (.tmp 95) (.tmp 97) rfl base v l [49, 99] ⟨w.heap.size, 63, none⟩ 2 rfl (HO0.out.below (by go_grown)) rfl (fun j hj => match j, hj with
                 | 0, _ => (cell_of_row _ w.heap.size 63 _ _ _ (heap_alloc_new w _)).trans (by kernel_rfl)
                 | 1, _ => (cell_of_row _ w.heap.size 64 _ _ _ (heap_alloc_new w _)).trans (by kernel_rfl)) (by simp; omega) (by simp; omega) ?_
               intro v2 w2 ho2 hb2
               have HO2 := Lib.hid ho2
               have HB2 := Lib.hid (Below.trans (a := w) (by go_grown) hb2)
               clear ho2 hb2)
  rw [rounds_succ]
  go_wp2_with (with_reducible show wpList _ _ _ (⟨some 98, _, _, _, _, _⟩ :: _) _ _
               refine wpList_appB rfl (.tmp 95) (.tmp 97) rfl base v l [49, 99] ⟨w.heap.size, 63, none⟩ 2 rfl (HO0.out.below (by go_grown)) rfl (fun j hj => match j, hj with
                 | 0, _ => (cell_of_row _ w.heap.size 63 _ _ _ (heap_alloc_new w _)).trans (by kernel_rfl)
                 | 1, _ => (cell_of_row _ w.heap.size 64 _ _ _ (heap_alloc_new w _)).trans (by kernel_rfl)) (by simp; omega) (by simp; omega) ?_
               intro v2 w2 ho2 hb2
               have HO2 := Lib.hid ho2
               have HB2 := Lib.hid (Below.trans (a := w) (by go_grown) hb2)
               clear ho2 hb2)
  go_ret2
  exact ⟨v2, _, rfl, HO2.out, HB2.out⟩
set_option maxRecDepth 100000 in
theorem bits_hex_29 (base : Nat) (v : Value) (l : List UInt8) (w : World) (ht : Tab w) (ho : OwnB w base v l) (hb : base ≤ w.heap.size) (hl : l.length ≤ 1000000) :
    Calls Tryd.prog 36 #[v, .int .u64 29, .int .i64 16, .bool false, .bool true] w (Grows2 base (l ++ [49, 100]) w) := by
  have HT := Lib.hid ht
  have HO0 := Lib.hid ho
  have HB := Lib.hid hb
  have hz0 := zero65
  have hz1 := z64
  have hz2 := z63
  have hz3 := zsz
  have g1 : bits .and .u64 29 15 = 13 := by kernel_rfl
  clear ho ht
  go_enter Tryd.func36, Tryd.ntmps36
  go_wp2_with (first
    | (go_at_call 41; refine (go_p2 _).mono ?_; rintro e1 w1 ⟨rfl, rfl⟩)
    | (go_at_call 42; refine (go_tz _ (HT.out.on (box_b _ _))).mono ?_; rintro e1 w1 ⟨rfl, rfl⟩))
  refine wp_loop_rounds 2 ?_
  rw [rounds_succ]
  go_wp2_with (with_reducible show wpList _ _ _ (⟨some 98, _, _, _, _, _⟩ :: _) _ _
               refine wpList_appB rfl (.tmp 95) (.tmp 97) rfl base v l [49, 100] ⟨w.heap.size, 63, none⟩ 2 rfl (HO0.out.below (by go_grown)) rfl (fun j hj => match j, hj with
                 | 0, _ => (cell_of_row _ w.heap.size 63 _ _ _ (heap_alloc_new w _)).trans (by kernel_rfl)
                 | 1, _ => (cell_of_row _ w.heap.size 64 _ _ _ (heap_alloc_new w _)).trans (by kernel_rfl)) (by simp; omega) (by simp; omega) ?_
               intro v2 w2 ho2 hb2
               have HO2 := Lib.hid ho2
               have HB2 := Lib.hid (Below.trans (a := w) (by go_grown) hb2)
               clear ho2 hb2)
  rw [rounds_succ]
  go_wp2_with (with_reducible show wpList _ _ _ (⟨some 98, _, _, _, _, _⟩ :: _) _ _
               refine wpList_appB rfl (.tmp 95) (.tmp 97) rfl base v l [49, 100] ⟨w.heap.size, 63, none⟩ 2 rfl (HO0.out.below (by go_grown)) rfl (fun j hj => match j, hj with
                 | 0, _ => (cell_of_row _ w.heap.size 63 _ _ _ (heap_alloc_new w _)).trans (by kernel_rfl)
                 | 1, _ => (cell_of_row _ w.heap.size 64 _ _ _ (heap_alloc_new w _)).trans (by kernel_rfl)) (by simp; omega) (by simp; omega) ?_
               intro v2 w2 ho2 hb2
               have HO2 := Lib.hid ho2
               have HB2 := Lib.hid (Below.trans (a := w) (by go_grown) hb2)
               clear ho2 hb2)
  go_ret2
  exact ⟨v2, _, rfl, HO2.out, HB2.out⟩
set_option maxRecDepth 100000 in
theorem bits_hex_30 (base : Nat) (v : Value) (l : List UInt8) (w : World) (ht : Tab w) (ho : OwnB w base v l) (hb : base ≤ w.heap.size) (hl : l.length ≤ 1000000) :
    Calls Tryd.prog 36 #[v, .int .u64 30, .int .i64 16, .bool false, .bool true] w (Grows2 base (l ++ [49, 101]) w) := by
  have HT := Lib.hid ht
  have HO0 := Lib.hid ho
  have HB := Lib.hid hb
  have hz0 := zero65
  have hz1 := z64
  have hz2 := z63
  have hz3 := zsz
  have g1 : bits .and .u64 30 15 = 14 := by kernel_rfl
  clear ho ht
  go_enter Tryd.func36, Tryd.ntmps36
  go_wp2_with (first
    | (go_at_call 41; refine (go_p2 _).mono ?_; rintro e1 w1 ⟨rfl, rfl⟩)
    | (go_at_call 42; refine (go_tz _ (HT.out.on (box_b _ _))).mono ?_; rintro e1 w1 ⟨rfl, rfl⟩))
  refine wp_loop_rounds 2 ?_
  rw [rounds_succ]
  go_wp2_with (with_reducible show wpList _ _ _ (⟨some 98, _, _, _, _, _⟩ :: _) _ _
               refine wpList_appB rfl (.tmp 95) (.tmp 97) rfl base v l [49, 101] ⟨w.heap.size, 63, none⟩ 2 rfl (HO0.out.below (by go_grown)) rfl (fun j hj => match j, hj with
                 | 0, _ => (cell_of_row _ w.heap.size 63 _ _ _ (heap_alloc_new w _)).trans (by kernel_rfl)
                 | 1, _ => (cell_of_row _ w.heap.size 64 _ _ _ (heap_alloc_new w _)).trans (by kernel_rfl)) (by simp; omega) (by simp; omega) ?_
               intro v2 w2 ho2 hb2
               have HO2 := Lib.hid ho2
               have HB2 := Lib.hid (Below.trans (a := w) (by go_grown) hb2)
               clear ho2 hb2)
  rw [rounds_succ]
  go_wp2_with (with_reducible show wpList _ _ _ (⟨some 98, _, _, _, _, _⟩ :: _) _ _
               refine wpList_appB rfl (.tmp 95) (.tmp 97) rfl base v l [49, 101] ⟨w.heap.size, 63, none⟩ 2 rfl (HO0.out.below (by go_grown)) rfl (fun j hj => match j, hj with
                 | 0, _ => (cell_of_row _ w.heap.size 63 _ _ _ (heap_alloc_new w _)).trans (by kernel_rfl)
                 | 1, _ => (cell_of_row _ w.heap.size 64 _ _ _ (heap_alloc_new w _)).trans (by kernel_rfl)) (by simp; omega) (by simp; omega) ?_
               intro v2 w2 ho2 hb2
               have HO2 := Lib.hid ho2
               have HB2 := Lib.hid (Below.trans (a := w) (by go_grown) hb2)
               clear ho2 hb2)
  go_ret2
  exact ⟨v2, _, rfl, HO2.out, HB2.out⟩
set_option maxRecDepth 100000 in
theorem bits_hex_31 (base : Nat) (v : Value) (l : List UInt8) (w : World) (ht : Tab w) (ho : OwnB w base v l) (hb : base ≤ w.heap.size) (hl : l.length ≤ 1000000) :
    Calls Tryd.prog 36 #[v, .int .u64 31, .int .i64 16, .bool false, .bool true] w (Grows2 base (l ++ [49, 102]) w) := by
  have HT := Lib.hid ht
  have HO0 := Lib.hid ho
  have HB := Lib.hid hb
  have hz0 := zero65
  have hz1 := z64
  have hz2 := z63
  have hz3 := zsz
  have g1 : bits .and .u64 31 15 = 15 := by kernel_rfl
  clear ho ht
  go_enter Tryd.func36, Tryd.ntmps36
  go_wp2_with (first
    | (go_at_call 41; refine (go_p2 _).mono ?_; rintro e1 w1 ⟨rfl, rfl⟩)
    | (go_at_call 42; refine (go_tz _ (HT.out.on (box_b _ _))).mono ?_; rintro e1 w1 ⟨rfl, rfl⟩))
  refine wp_loop_rounds 2 ?_
  rw [rounds_succ]
  go_wp2_with (with_reducible show wpList _ _ _ (⟨some 98, _, _, _, _, _⟩ :: _) _ _
               refine wpList_appB rfl (.tmp 95) (.tmp 97) rfl base v l [49, 102] ⟨w.heap.size, 63, none⟩ 2 rfl (HO0.out.below (by go_grown)) rfl (fun j hj => match j, hj with
                 | 0, _ => (cell_of_row _ w.heap.size 63 _ _ _ (heap_alloc_new w _)).trans (by kernel_rfl)
                 | 1, _ => (cell_of_row _ w.heap.size 64 _ _ _ (heap_alloc_new w _)).trans (by kernel_rfl)) (by simp; omega) (by simp; omega) ?_
               intro v2 w2 ho2 hb2
               have HO2 := Lib.hid ho2
               have HB2 := Lib.hid (Below.trans (a := w) (by go_grown) hb2)
               clear ho2 hb2)
  rw [rounds_succ]
  go_wp2_with (with_reducible show wpList _ _ _ (⟨some 98, _, _, _, _, _⟩ :: _) _ _
               refine wpList_appB rfl (.tmp 95) (.tmp 97) rfl base v l [49, 102] ⟨w.heap.size, 63, none⟩ 2 rfl (HO0.out.below (by go_grown)) rfl (fun j hj => match j, hj with
                 | 0, _ => (cell_of_row _ w.heap.size 63 _ _ _ (heap_alloc_new w _)).trans (by kernel_rfl)
                 | 1, _ => (cell_of_row _ w.heap.size 64 _ _ _ (heap_alloc_new w _)).trans (by kernel_rfl)) (by simp; omega) (by simp; omega) ?_
               intro v2 w2 ho2 hb2
               have HO2 := Lib.hid ho2
               have HB2 := Lib.hid (Below.trans (a := w) (by go_grown) hb2)
               clear ho2 hb2)
  go_ret2
  exact ⟨v2, _, rfl, HO2.out, HB2.out⟩
set_option maxRecDepth 100000 in
theorem bits_hex_127 (base : Nat) (v : Value) (l : List UInt8) (w : World) (ht : Tab w) (ho : OwnB w base v l) (hb : base ≤ w.heap.size) (hl : l.length ≤ 1000000) :
    Calls Tryd.prog 36 #[v, .int .u64 127, .int .i64 16, .bool false, .bool true] w (Grows2 base (l ++ [55, 102]) w) := by
  have HT := Lib.hid ht
  have HO0 := Lib.hid ho
  have HB := Lib.hid hb
  have hz0 := zero65
  have hz1 := z64
  have hz2 := z63
  have hz3 := zsz
  have g1 : bits .and .u64 127 15 = 15 := by kernel_rfl
  clear ho ht
  go_enter Tryd.func36, Tryd.ntmps36
  go_wp2_with (first
    | (go_at_call 41; refine (go_p2 _).mono ?_; rintro e1 w1 ⟨rfl, rfl⟩)
    | (go_at_call 42; refine (go_tz _ (HT.out.on (box_b _ _))).mono ?_; rintro e1 w1 ⟨rfl, rfl⟩))
  refine wp_loop_rounds 2 ?_
  rw [rounds_succ]
  go_wp2_with (with_reducible show wpList _ _ _ (⟨some 98, _, _, _, _, _⟩ :: _) _ _
               refine wpList_appB rfl (.tmp 95) (.tmp 97) rfl base v l [55, 102] ⟨w.heap.size, 63, none⟩ 2 rfl (HO0.out.below (by go_grown)) rfl (fun j hj => match j, hj with
                 | 0, _ => (cell_of_row _ w.heap.size 63 _ _ _ (heap_alloc_new w _)).trans (by kernel_rfl)
                 | 1, _ => (cell_of_row _ w.heap.size 64 _ _ _ (heap_alloc_new w _)).trans (by kernel_rfl)) (by simp; omega) (by simp; omega) ?_
               intro v2 w2 ho2 hb2
               have HO2 := Lib.hid ho2
               have HB2 := Lib.hid (Below.trans (a := w) (by go_grown) hb2)
               clear ho2 hb2)
  rw [rounds_succ]
  go_wp2_with (with_reducible show wpList _ _ _ (⟨some 98, _, _, _, _, _⟩ :: _) _ _
               refine wpList_appB rfl (.tmp 95) (.tmp 97) rfl base v l [55, 102] ⟨w.heap.size, 63, none⟩ 2 rfl (HO0.out.below (by go_grown)) rfl (fun j hj => match j, hj with
                 | 0, _ => (cell_of_row _ w.heap.size 63 _ _ _ (heap_alloc_new w _)).trans (by kernel_rfl)
                 | 1, _ => (cell_of_row _ w.heap.size 64 _ _ _ (heap_alloc_new w _)).trans (by kernel_rfl)) (by simp; omega) (by simp; omega) ?_
               intro v2 w2 ho2 hb2
               have HO2 := Lib.hid ho2
               have HB2 := Lib.hid (Below.trans (a := w) (by go_grown) hb2)
               clear ho2 hb2)
  go_ret2
  exact ⟨v2, _, rfl, HO2.out, HB2.out⟩
set_option maxRecDepth 100000 in
theorem app_in (n : Int) (l : List UInt8) (base : Nat) (v : Value) (w : World) (hc : Calls Tryd.prog 36 #[v, .int .u64 n, .int .i64 16, .bool false, .bool true] w (Grows2 base l w)) :
    Calls Tryd.prog 30 #[v, .int .u64 n, .int .i64 16] w (Grows base l w) := by
  have HC := Lib.hid hc
  clear hc
  go_enter Tryd.func30, Tryd.ntmps30
  go_wp2_with (go_at_call 36; refine HC.out.mono ?_; rintro e1 w1 ⟨v1, s1, rfl, ho, hb⟩; have HO := Lib.hid ho; have HB := Lib.hid hb; clear ho hb)
  go_ret
  exact ⟨v1, rfl, HO.out, HB.out⟩
theorem app_out (n : Int) (l : List UInt8) (base : Nat) (v : Value) (w : World) (hc : Calls Tryd.prog 36 #[v, .int .u64 n, .int .i64 16, .bool false, .bool true] w (Grows2 base l w)) :
    Calls Tryd.prog 23 #[v, .int .u64 n, .int .i64 16] w (Grows base l w) := by
  have HC := Lib.hid (app_in n l base v w hc)
  clear hc
  go_enter Tryd.func23, Tryd.ntmps23
  go_wp2_with (go_at_call 30; refine HC.out.mono ?_; rintro e1 w1 ⟨v1, rfl, ho, hb⟩; have HO := Lib.hid ho; have HB := Lib.hid hb; clear ho hb)
  go_ret
  exact ⟨v1, rfl, HO.out, HB.out⟩
theorem app_hex (n : Nat) (hn : (n < 32 ∧ n ≠ 9 ∧ n ≠ 10) ∨ n = 127) (base : Nat) (v : Value) (l : List UInt8) (w : World) (ht : Tab w) (ho : OwnB w base v l) (hb : base ≤ w.heap.size) (hl : l.length ≤ 1000000) :
    Calls Tryd.prog 23 #[v, .int .u64 n, .int .i64 16] w (Grows base (l ++ hexL n) w) := by
  refine app_out n _ base v w ?_
  rcases (by omega : n = 0 ∨ n = 1 ∨ n = 2 ∨ n = 3 ∨ n = 4 ∨ n = 5 ∨ n = 6 ∨ n = 7 ∨ n = 8 ∨ n = 11 ∨ n = 12 ∨ n = 13 ∨ n = 14 ∨ n = 15 ∨ n = 16 ∨ n = 17 ∨ n = 18 ∨ n = 19 ∨ n = 20 ∨ n = 21 ∨ n = 22 ∨ n = 23 ∨ n = 24 ∨ n = 25 ∨ n = 26 ∨ n = 27 ∨ n = 28 ∨ n = 29 ∨ n = 30 ∨ n = 31 ∨ n = 127) with rfl | rfl | rfl | rfl | rfl | rfl | rfl | rfl | rfl | rfl | rfl | rfl | rfl | rfl | rfl | rfl | rfl | rfl | rfl | rfl | rfl | rfl | rfl | rfl | rfl | rfl | rfl | rfl | rfl | rfl | rfl
  · exact bits_hex_0 base v l w ht ho hb hl
  · exact bits_hex_1 base v l w ht ho hb hl
  · exact bits_hex_2 base v l w ht ho hb hl
  · exact bits_hex_3 base v l w ht ho hb hl
  · exact bits_hex_4 base v l w ht ho hb hl
  · exact bits_hex_5 base v l w ht ho hb hl
  · exact bits_hex_6 base v l w ht ho hb hl
  · exact bits_hex_7 base v l w ht ho hb hl
  · exact bits_hex_8 base v l w ht ho hb hl
  · exact bits_hex_11 base v l w ht ho hb hl
  · exact bits_hex_12 base v l w ht ho hb hl
  · exact bits_hex_13 base v l w ht ho hb hl
  · exact bits_hex_14 base v l w ht ho hb hl
  · exact bits_hex_15 base v l w ht ho hb hl
  · exact bits_hex_16 base v l w ht ho hb hl
  · exact bits_hex_17 base v l w ht ho hb hl
  · exact bits_hex_18 base v l w ht ho hb hl
  · exact bits_hex_19 base v l w ht ho hb hl
  · exact bits_hex_20 base v l w ht ho hb hl
  · exact bits_hex_21 base v l w ht ho hb hl
  · exact bits_hex_22 base v l w ht ho hb hl
  · exact bits_hex_23 base v l w ht ho hb hl
  · exact bits_hex_24 base v l w ht ho hb hl
  · exact bits_hex_25 base v l w ht ho hb hl
  · exact bits_hex_26 base v l w ht ho hb hl
  · exact bits_hex_27 base v l w ht ho hb hl
  · exact bits_hex_28 base v l w ht ho hb hl
  · exact bits_hex_29 base v l w ht ho hb hl
  · exact bits_hex_30 base v l w ht ho hb hl
  · exact bits_hex_31 base v l w ht ho hb hl
  · exact bits_hex_127 base v l w ht ho hb hl
set_option maxRecDepth 100000 in
theorem ref_hex_0 (w : World) : Calls Tryd.prog 24 #[.int .i64 ((0 : Nat) : Int)] w (fun e w' => e = .returned (.string ⟨(hexL 0).toArray⟩) ∧ w = w') := by
  go_enter Tryd.func24, Tryd.ntmps24
  go_wp2
  go_ret
  exact ⟨rfl, rfl⟩
set_option maxRecDepth 100000 in
theorem ref_hex_1 (w : World) : Calls Tryd.prog 24 #[.int .i64 ((1 : Nat) : Int)] w (fun e w' => e = .returned (.string ⟨(hexL 1).toArray⟩) ∧ w = w') := by
  go_enter Tryd.func24, Tryd.ntmps24
  go_wp2
  go_ret
  exact ⟨rfl, rfl⟩
set_option maxRecDepth 100000 in
theorem ref_hex_2 (w : World) : Calls Tryd.prog 24 #[.int .i64 ((2 : Nat) : Int)] w (fun e w' => e = .returned (.string ⟨(hexL 2).toArray⟩) ∧ w = w') := by
  go_enter Tryd.func24, Tryd.ntmps24
  go_wp2
  go_ret
  exact ⟨rfl, rfl⟩
set_option maxRecDepth 100000 in
theorem ref_hex_3 (w : World) : Calls Tryd.prog 24 #[.int .i64 ((3 : Nat) : Int)] w (fun e w' => e = .returned (.string ⟨(hexL 3).toArray⟩) ∧ w = w') := by
  go_enter Tryd.func24, Tryd.ntmps24
  go_wp2
  go_ret
  exact ⟨rfl, rfl⟩
set_option maxRecDepth 100000 in
theorem ref_hex_4 (w : World) : Calls Tryd.prog 24 #[.int .i64 ((4 : Nat) : Int)] w (fun e w' => e = .returned (.string ⟨(hexL 4).toArray⟩) ∧ w = w') := by
  go_enter Tryd.func24, Tryd.ntmps24
  go_wp2
  go_ret
  exact ⟨rfl, rfl⟩
set_option maxRecDepth 100000 in
theorem ref_hex_5 (w : World) : Calls Tryd.prog 24 #[.int .i64 ((5 : Nat) : Int)] w (fun e w' => e = .returned (.string ⟨(hexL 5).toArray⟩) ∧ w = w') := by
  go_enter Tryd.func24, Tryd.ntmps24
  go_wp2
  go_ret
  exact ⟨rfl, rfl⟩
set_option maxRecDepth 100000 in
theorem ref_hex_6 (w : World) : Calls Tryd.prog 24 #[.int .i64 ((6 : Nat) : Int)] w (fun e w' => e = .returned (.string ⟨(hexL 6).toArray⟩) ∧ w = w') := by
  go_enter Tryd.func24, Tryd.ntmps24
  go_wp2
  go_ret
  exact ⟨rfl, rfl⟩
set_option maxRecDepth 100000 in
theorem ref_hex_7 (w : World) : Calls Tryd.prog 24 #[.int .i64 ((7 : Nat) : Int)] w (fun e w' => e = .returned (.string ⟨(hexL 7).toArray⟩) ∧ w = w') := by
  go_enter Tryd.func24, Tryd.ntmps24
  go_wp2
  go_ret
  exact ⟨rfl, rfl⟩
set_option maxRecDepth 100000 in
theorem ref_hex_8 (w : World) : Calls Tryd.prog 24 #[.int .i64 ((8 : Nat) : Int)] w (fun e w' => e = .returned (.string ⟨(hexL 8).toArray⟩) ∧ w = w') := by
  go_enter Tryd.func24, Tryd.ntmps24
  go_wp2
  go_ret
  exact ⟨rfl, rfl⟩
set_option maxRecDepth 100000 in
theorem ref_hex_9 (w : World) : Calls Tryd.prog 24 #[.int .i64 ((9 : Nat) : Int)] w (fun e w' => e = .returned (.string ⟨(hexL 9).toArray⟩) ∧ w = w') := by
  go_enter Tryd.func24, Tryd.ntmps24
  go_wp2
  go_ret
  exact ⟨rfl, rfl⟩
set_option maxRecDepth 100000 in
theorem ref_hex_10 (w : World) : Calls Tryd.prog 24 #[.int .i64 ((10 : Nat) : Int)] w (fun e w' => e = .returned (.string ⟨(hexL 10).toArray⟩) ∧ w = w') := by
  go_enter Tryd.func24, Tryd.ntmps24
  go_wp2
  go_ret
  exact ⟨rfl, rfl⟩
set_option maxRecDepth 100000 in
theorem ref_hex_11 (w : World) : Calls Tryd.prog 24 #[.int .i64 ((11 : Nat) : Int)] w (fun e w' => e = .returned (.string ⟨(hexL 11).toArray⟩) ∧ w = w') := by
  go_enter Tryd.func24, Tryd.ntmps24
  go_wp2
  go_ret
  exact ⟨rfl, rfl⟩
set_option maxRecDepth 100000 in
theorem ref_hex_12 (w : World) : Calls Tryd.prog 24 #[.int .i64 ((12 : Nat) : Int)] w (fun e w' => e = .returned (.string ⟨(hexL 12).toArray⟩) ∧ w = w') := by
  go_enter Tryd.func24, Tryd.ntmps24
  go_wp2
  go_ret
  exact ⟨rfl, rfl⟩
set_option maxRecDepth 100000 in
theorem ref_hex_13 (w : World) : Calls Tryd.prog 24 #[.int .i64 ((13 : Nat) : Int)] w (fun e w' => e = .returned (.string ⟨(hexL 13).toArray⟩) ∧ w = w') := by
  go_enter Tryd.func24, Tryd.ntmps24
  go_wp2
  go_ret
  exact ⟨rfl, rfl⟩
set_option maxRecDepth 100000 in
theorem ref_hex_14 (w : World) : Calls Tryd.prog 24 #[.int .i64 ((14 : Nat) : Int)] w (fun e w' => e = .returned (.string ⟨(hexL 14).toArray⟩) ∧ w = w') := by
  go_enter Tryd.func24, Tryd.ntmps24
  go_wp2
  go_ret
  exact ⟨rfl, rfl⟩
set_option maxRecDepth 100000 in
theorem ref_hex_15 (w : World) : Calls Tryd.prog 24 #[.int .i64 ((15 : Nat) : Int)] w (fun e w' => e = .returned (.string ⟨(hexL 15).toArray⟩) ∧ w = w') := by
  go_enter Tryd.func24, Tryd.ntmps24
  go_wp2
  go_ret
  exact ⟨rfl, rfl⟩
theorem ref_hex_low (n : Nat) (h : n < 16) (w : World) : Calls Tryd.prog 24 #[.int .i64 n] w (fun e w' => e = .returned (.string ⟨(hexL n).toArray⟩) ∧ w = w') := by
  rcases (by omega : n = 0 ∨ n = 1 ∨ n = 2 ∨ n = 3 ∨ n = 4 ∨ n = 5 ∨ n = 6 ∨ n = 7 ∨ n = 8 ∨ n = 9 ∨ n = 10 ∨ n = 11 ∨ n = 12 ∨ n = 13 ∨ n = 14 ∨ n = 15) with rfl | rfl | rfl | rfl | rfl | rfl | rfl | rfl | rfl | rfl | rfl | rfl | rfl | rfl | rfl | rfl
  · exact ref_hex_0 w
  · exact ref_hex_1 w
  · exact ref_hex_2 w
  · exact ref_hex_3 w
  · exact ref_hex_4 w
  · exact ref_hex_5 w
  · exact ref_hex_6 w
  · exact ref_hex_7 w
  · exact ref_hex_8 w
  · exact ref_hex_9 w
  · exact ref_hex_10 w
  · exact ref_hex_11 w
  · exact ref_hex_12 w
  · exact ref_hex_13 w
  · exact ref_hex_14 w
  · exact ref_hex_15 w
set_option maxRecDepth 100000 in
theorem ref_hex (n : Nat) (h : n < 256) (w : World) : Calls Tryd.prog 24 #[.int .i64 n] w (fun e w' => e = .returned (.string ⟨(hexL n).toArray⟩) ∧ w = w') := by
  by_cases h1 : n < 16
  · exact ref_hex_low n h1 w
  have H1 := Lib.hid (ref_hex_low (n / 16) (by omega))
  have H2 := Lib.hid (ref_hex_low (n % 16) (by omega))
  have hl1 : (hexL (n / 16)).length ≤ 2 := by unfold hexL; split <;> simp
  have hl2 : (hexL (n % 16)).length ≤ 2 := by unfold hexL; split <;> simp
  have HE : Hid (hexL n = hexL (n / 16) ++ hexL (n % 16)) := Lib.hid (by unfold hexL; rw [if_neg h1, if_pos (by omega), if_pos (by omega)]; rfl)
  go_enter Tryd.func24, Tryd.ntmps24
  go_wp2_with fail
  refine (H1.out _).mono ?_
  rintro e1 w1 ⟨rfl, rfl⟩
  go_wp2_with fail
  refine (H2.out _).mono ?_
  rintro e2 w2 ⟨rfl, rfl⟩
  go_wp2
  go_ret
  exact ⟨by rw [HE.out, ← bytes_app]; rfl, rfl⟩
end Go.Proofs.YtohfgfmekciekaaDoor.Nam
