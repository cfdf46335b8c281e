
/-
  Layer 2 (plain): sorts of bytes, plain atoms, how an atom is written, what is within quotes.
  Layer 2: a byte's sort, the program's and the reference's, walked over the program (printed by gen_naa.py).
  Layer 2's reference: in and Sort, walked over the program (printed by gen_nab.py).
-/
import Derived.Test.YtkhchmgdaolojaaDoorReg
import Derived.Test.YtkhchmgdaolojaaDoorBas
import Derived.Test.YtkhchmgdaolojaaDoorProg
import Derived.IntWalk
import Derived.Lib.Hide
import Derived.Deep.QuietTactic
import Derived.BigQuiet
namespace Go.Proofs.YtkhchmgdaolojaaDoor.Nam
set_option linter.unusedVariables false
set_option linter.unusedSimpArgs false

def sortN (n : Nat) : Nat :=
  if (9 ≤ n ∧ n ≤ 13) ∨ n = 32 then 1
  else if 97 ≤ n ∧ n ≤ 122 then 2
  else if (65 ≤ n ∧ n ≤ 90) ∨ n = 95 then 3
  else if 48 ≤ n ∧ n ≤ 57 then 4
  else if [43, 45, 42, 47, 92, 94, 60, 62, 61, 126, 58, 46, 63, 64, 35, 38, 36].contains n then 5
  else if [33, 59].contains n then 6
  else if [40, 41, 91, 93, 123, 125, 44, 124, 37].contains n then 7
  else if [39, 34, 96].contains n then 8 else 0
def sort (c : UInt8) : Nat := sortN c.toNat
/-- what a byte counts; 16: nothing -/
def digN (n : Nat) : Nat := if 48 ≤ n ∧ n ≤ 57 then n - 48 else if 97 ≤ n ∧ n ≤ 102 then n - 97 + 10 else if 65 ≤ n ∧ n ≤ 70 then n - 65 + 10 else 16
def dig (c : UInt8) : Nat := digN c.toNat
end Go.Proofs.YtkhchmgdaolojaaDoor.Nam
namespace Go.Proofs.YtkhchmgdaolojaaDoor.Nam
open Go Go.RowKit Go.Proofs.YtkhchmgdaolojaaDoor.Reg
set_option linter.unusedVariables false
set_option linter.unusedSimpArgs false

theorem ret_int {k : IntKind} {a b : Int} (h : a = b) : Ending.returned (.int k a) = .returned (.int k b) := by rw [h]
theorem ret_bool {a b : Bool} (h : a = b) : Ending.returned (.bool a) = .returned (.bool b) := by rw [h]
theorem sort_r0 : ∀ n : Nat, 0 ≤ n → n ≤ 8 → sortN n = 0 := by
  have h : ∀ i, i < 9 → sortN (i + 0) = 0 := by decide
  intro n h0 h1
  have := h (n - 0) (by omega)
  rwa [show n - 0 + 0 = n by omega] at this
theorem sort_r9 : ∀ n : Nat, 9 ≤ n → n ≤ 13 → sortN n = 1 := by
  have h : ∀ i, i < 5 → sortN (i + 9) = 1 := by decide
  intro n h0 h1
  have := h (n - 9) (by omega)
  rwa [show n - 9 + 9 = n by omega] at this
theorem sort_r14 : ∀ n : Nat, 14 ≤ n → n ≤ 31 → sortN n = 0 := by
  have h : ∀ i, i < 18 → sortN (i + 14) = 0 := by decide
  intro n h0 h1
  have := h (n - 14) (by omega)
  rwa [show n - 14 + 14 = n by omega] at this
theorem sort_r48 : ∀ n : Nat, 48 ≤ n → n ≤ 57 → sortN n = 4 := by
  have h : ∀ i, i < 10 → sortN (i + 48) = 4 := by decide
  intro n h0 h1
  have := h (n - 48) (by omega)
  rwa [show n - 48 + 48 = n by omega] at this
theorem sort_r65 : ∀ n : Nat, 65 ≤ n → n ≤ 90 → sortN n = 3 := by
  have h : ∀ i, i < 26 → sortN (i + 65) = 3 := by decide
  intro n h0 h1
  have := h (n - 65) (by omega)
  rwa [show n - 65 + 65 = n by omega] at this
theorem sort_r97 : ∀ n : Nat, 97 ≤ n → n ≤ 122 → sortN n = 2 := by
  have h : ∀ i, i < 26 → sortN (i + 97) = 2 := by decide
  intro n h0 h1
  have := h (n - 97) (by omega)
  rwa [show n - 97 + 97 = n by omega] at this
theorem sort_r127 : ∀ n : Nat, 127 ≤ n → n ≤ 255 → sortN n = 0 := by
  have h : ∀ i, i < 129 → sortN (i + 127) = 0 := by decide
  intro n h0 h1
  have := h (n - 127) (by omega)
  rwa [show n - 127 + 127 = n by omega] at this
end Go.Proofs.YtkhchmgdaolojaaDoor.Nam
namespace Go.Proofs.YtkhchmgdaolojaaDoor.Nam
open Go Go.RowKit Go.Proofs.YtkhchmgdaolojaaDoor.Reg
set_option linter.unusedVariables false
set_option linter.unusedSimpArgs false

/-- is a byte in a text? -/
def inB (n : Nat) (l : List UInt8) : Bool := l.any fun d => d.toNat == n
theorem take_snoc (s : ByteArray) (k : Nat) (h : k < s.size) : s.data.toList.take (k + 1) = s.data.toList.take k ++ [s[k]] := by
  rw [List.take_succ_eq_append_getElem (by simpa using h)]; rfl
structure InRel (n : Nat) (s : ByteArray) (w : World) (i : Value) (wr : World) : Prop where
  same : w = wr
  at_ : ∃ k : Nat, k ≤ s.size ∧ i = .int .i64 k ∧ Hid (inB n (s.data.toList.take k) = false)
theorem ref_in (n : Nat) (s : ByteArray) (hs : s.size ≤ maxLen) (w : World) : Calls Tryd.prog 79 #[.int .u8 n, .string s] w (fun e w' => e = .returned (.bool (inB n s.data.toList)) ∧ w = w') := by
  unfold maxLen at hs
  have HST : Hid (InRel n s w (.int .i64 0) w) := Lib.hid ⟨rfl, 0, Nat.zero_le _, rfl, Lib.hid rfl⟩
  go_enter Tryd.func79, Tryd.ntmps79
  go_wp2
  go_loopw [5] (fun i wr => InRel n s w i wr) (fun i _ => s.size - (intOf i).toNat)
  case atStart => exact HST.out
  case round =>
    obtain ⟨rfl, k, hk, rfl, HN⟩ := hrel
    clear HST
    by_cases hlt : k < s.size
    · have HSN := Lib.hid (take_snoc s k hlt)
      by_cases he : s[k].toNat = n
      · have hb : ((s[k].toNat : Int) == (n : Int)) = true := by simp; omega
        have HR : Hid (inB n s.data.toList = true) := Lib.hid (by
          unfold inB; rw [List.any_eq_true]
          exact ⟨s[k], by have : s[k] = s.data.toList[k]'(by simpa using hlt) := rfl
                          rw [this]; exact List.getElem_mem _, by simpa using he⟩)
        clear he
        go_wp2
        go_ret
        exact ⟨ret_bool HR.out.symm, rfl⟩
      · have hb : ((s[k].toNat : Int) == (n : Int)) = false := by simp; omega
        have HR : Hid (inB n (s.data.toList.take (k + 1)) = false) := Lib.hid (by rw [HSN.out]; unfold inB at *; rw [List.any_append, HN.out]; simpa using he)
        clear he
        go_wp2
        go_roundw
        case rel => exact ⟨rfl, k + 1, by omega, by go_num, HR⟩
        case measure => simp [intOf]; omega
    · obtain rfl : k = s.size := by omega
      have HR : Hid (inB n s.data.toList = false) := Lib.hid (by have := HN.out; rwa [List.take_of_length_le (by simp)] at this)
      clear hlt
      go_wp2
      go_ret
      exact ⟨ret_bool HR.out.symm, rfl⟩
def in5 : List UInt8 := [43, 45, 42, 47, 92, 94, 60, 62, 61, 126, 58, 46, 63, 64, 35, 38, 36]
def in6 : List UInt8 := [33, 59]
def in7 : List UInt8 := [40, 41, 91, 93, 123, 125, 44, 124, 37]
def in8 : List UInt8 := [39, 34, 96]
theorem in_r0 : ∀ n : Nat, 0 ≤ n → n ≤ 8 → inB n in5 = false ∧ inB n in6 = false ∧ inB n in7 = false ∧ inB n in8 = false := by
  have h : ∀ i, i < 9 → inB (i + 0) in5 = false ∧ inB (i + 0) in6 = false ∧ inB (i + 0) in7 = false ∧ inB (i + 0) in8 = false := by decide
  intro n h0 h1
  have := h (n - 0) (by omega)
  rwa [show n - 0 + 0 = n by omega] at this
theorem in_r9 : ∀ n : Nat, 9 ≤ n → n ≤ 13 → inB n in5 = false ∧ inB n in6 = false ∧ inB n in7 = false ∧ inB n in8 = false := by
  have h : ∀ i, i < 5 → inB (i + 9) in5 = false ∧ inB (i + 9) in6 = false ∧ inB (i + 9) in7 = false ∧ inB (i + 9) in8 = false := by decide
  intro n h0 h1
  have := h (n - 9) (by omega)
  rwa [show n - 9 + 9 = n by omega] at this
theorem in_r14 : ∀ n : Nat, 14 ≤ n → n ≤ 31 → inB n in5 = false ∧ inB n in6 = false ∧ inB n in7 = false ∧ inB n in8 = false := by
  have h : ∀ i, i < 18 → inB (i + 14) in5 = false ∧ inB (i + 14) in6 = false ∧ inB (i + 14) in7 = false ∧ inB (i + 14) in8 = false := by decide
  intro n h0 h1
  have := h (n - 14) (by omega)
  rwa [show n - 14 + 14 = n by omega] at this
theorem in_r48 : ∀ n : Nat, 48 ≤ n → n ≤ 57 → inB n in5 = false ∧ inB n in6 = false ∧ inB n in7 = false ∧ inB n in8 = false := by
  have h : ∀ i, i < 10 → inB (i + 48) in5 = false ∧ inB (i + 48) in6 = false ∧ inB (i + 48) in7 = false ∧ inB (i + 48) in8 = false := by decide
  intro n h0 h1
  have := h (n - 48) (by omega)
  rwa [show n - 48 + 48 = n by omega] at this
theorem in_r65 : ∀ n : Nat, 65 ≤ n → n ≤ 90 → inB n in5 = false ∧ inB n in6 = false ∧ inB n in7 = false ∧ inB n in8 = false := by
  have h : ∀ i, i < 26 → inB (i + 65) in5 = false ∧ inB (i + 65) in6 = false ∧ inB (i + 65) in7 = false ∧ inB (i + 65) in8 = false := by decide
  intro n h0 h1
  have := h (n - 65) (by omega)
  rwa [show n - 65 + 65 = n by omega] at this
theorem in_r97 : ∀ n : Nat, 97 ≤ n → n ≤ 122 → inB n in5 = false ∧ inB n in6 = false ∧ inB n in7 = false ∧ inB n in8 = false := by
  have h : ∀ i, i < 26 → inB (i + 97) in5 = false ∧ inB (i + 97) in6 = false ∧ inB (i + 97) in7 = false ∧ inB (i + 97) in8 = false := by decide
  intro n h0 h1
  have := h (n - 97) (by omega)
  rwa [show n - 97 + 97 = n by omega] at this
theorem in_r127 : ∀ n : Nat, 127 ≤ n → n ≤ 255 → inB n in5 = false ∧ inB n in6 = false ∧ inB n in7 = false ∧ inB n in8 = false := by
  have h : ∀ i, i < 129 → inB (i + 127) in5 = false ∧ inB (i + 127) in6 = false ∧ inB (i + 127) in7 = false ∧ inB (i + 127) in8 = false := by decide
  intro n h0 h1
  have := h (n - 127) (by omega)
  rwa [show n - 127 + 127 = n by omega] at this
set_option maxRecDepth 100000 in
theorem ref_Sort_r0 (n : Nat) (h0 : 0 ≤ n) (h1 : n ≤ 8) (w : World) : Calls Tryd.prog 68 #[.int .u8 n] w (fun e w' => e = .returned (.int .i64 0) ∧ w = w') := by
  obtain ⟨i5, i6, i7, i8⟩ := in_r0 n h0 h1
  have I5 := Lib.hid i5
  have I6 := Lib.hid i6
  have I7 := Lib.hid i7
  have I8 := Lib.hid i8
  clear i5 i6 i7 i8
  have g0 : 0 ≤ (n : Int) := by omega
  have g1 : (n : Int) ≤ 8 := by omega
  have q32 : ((n : Int) == 32) = false := by simp; omega
  have q95 : ((n : Int) == 95) = false := by simp; omega
  go_enter Tryd.func68, Tryd.ntmps68
  go_wp2_with (go_at_call 79; refine (ref_in _ _ (by decide) _).mono ?_; rintro e1 w1 ⟨rfl, rfl⟩; first | (rw [show (ByteArray.mk #[43, 45, 42, 47, 92, 94, 60, 62, 61, 126, 58, 46, 63, 64, 35, 38, 36]).data.toList = in5 from rfl, I5.out]) | (rw [show (ByteArray.mk #[33, 59]).data.toList = in6 from rfl, I6.out]) | (rw [show (ByteArray.mk #[40, 41, 91, 93, 123, 125, 44, 124, 37]).data.toList = in7 from rfl, I7.out]) | (rw [show (ByteArray.mk #[39, 34, 96]).data.toList = in8 from rfl, I8.out]))
  go_ret
  exact ⟨rfl, rfl⟩
set_option maxRecDepth 100000 in
theorem ref_Sort_r9 (n : Nat) (h0 : 9 ≤ n) (h1 : n ≤ 13) (w : World) : Calls Tryd.prog 68 #[.int .u8 n] w (fun e w' => e = .returned (.int .i64 1) ∧ w = w') := by
  obtain ⟨i5, i6, i7, i8⟩ := in_r9 n h0 h1
  have I5 := Lib.hid i5
  have I6 := Lib.hid i6
  have I7 := Lib.hid i7
  have I8 := Lib.hid i8
  clear i5 i6 i7 i8
  have g0 : 9 ≤ (n : Int) := by omega
  have g1 : (n : Int) ≤ 13 := by omega
  have q32 : ((n : Int) == 32) = false := by simp; omega
  have q95 : ((n : Int) == 95) = false := by simp; omega
  go_enter Tryd.func68, Tryd.ntmps68
  go_wp2_with (go_at_call 79; refine (ref_in _ _ (by decide) _).mono ?_; rintro e1 w1 ⟨rfl, rfl⟩; first | (rw [show (ByteArray.mk #[43, 45, 42, 47, 92, 94, 60, 62, 61, 126, 58, 46, 63, 64, 35, 38, 36]).data.toList = in5 from rfl, I5.out]) | (rw [show (ByteArray.mk #[33, 59]).data.toList = in6 from rfl, I6.out]) | (rw [show (ByteArray.mk #[40, 41, 91, 93, 123, 125, 44, 124, 37]).data.toList = in7 from rfl, I7.out]) | (rw [show (ByteArray.mk #[39, 34, 96]).data.toList = in8 from rfl, I8.out]))
  go_ret
  exact ⟨rfl, rfl⟩
set_option maxRecDepth 100000 in
theorem ref_Sort_r14 (n : Nat) (h0 : 14 ≤ n) (h1 : n ≤ 31) (w : World) : Calls Tryd.prog 68 #[.int .u8 n] w (fun e w' => e = .returned (.int .i64 0) ∧ w = w') := by
  obtain ⟨i5, i6, i7, i8⟩ := in_r14 n h0 h1
  have I5 := Lib.hid i5
  have I6 := Lib.hid i6
  have I7 := Lib.hid i7
  have I8 := Lib.hid i8
  clear i5 i6 i7 i8
  have g0 : 14 ≤ (n : Int) := by omega
  have g1 : (n : Int) ≤ 31 := by omega
  have q32 : ((n : Int) == 32) = false := by simp; omega
  have q95 : ((n : Int) == 95) = false := by simp; omega
  go_enter Tryd.func68, Tryd.ntmps68
  go_wp2_with (go_at_call 79; refine (ref_in _ _ (by decide) _).mono ?_; rintro e1 w1 ⟨rfl, rfl⟩; first | (rw [show (ByteArray.mk #[43, 45, 42, 47, 92, 94, 60, 62, 61, 126, 58, 46, 63, 64, 35, 38, 36]).data.toList = in5 from rfl, I5.out]) | (rw [show (ByteArray.mk #[33, 59]).data.toList = in6 from rfl, I6.out]) | (rw [show (ByteArray.mk #[40, 41, 91, 93, 123, 125, 44, 124, 37]).data.toList = in7 from rfl, I7.out]) | (rw [show (ByteArray.mk #[39, 34, 96]).data.toList = in8 from rfl, I8.out]))
  go_ret
  exact ⟨rfl, rfl⟩
set_option maxRecDepth 100000 in
theorem ref_Sort_32 (w : World) : Calls Tryd.prog 68 #[.int .u8 ((32 : Nat) : Int)] w (fun e w' => e = .returned (.int .i64 1) ∧ w = w') := by
  have I5 : Hid (inB 32 in5 = false) := Lib.hid (by decide)
  have I6 : Hid (inB 32 in6 = false) := Lib.hid (by decide)
  have I7 : Hid (inB 32 in7 = false) := Lib.hid (by decide)
  have I8 : Hid (inB 32 in8 = false) := Lib.hid (by decide)
  go_enter Tryd.func68, Tryd.ntmps68
  go_wp2_with (go_at_call 79; refine (ref_in _ _ (by decide) _).mono ?_; rintro e1 w1 ⟨rfl, rfl⟩; first | (rw [show (ByteArray.mk #[43, 45, 42, 47, 92, 94, 60, 62, 61, 126, 58, 46, 63, 64, 35, 38, 36]).data.toList = in5 from rfl, I5.out]) | (rw [show (ByteArray.mk #[33, 59]).data.toList = in6 from rfl, I6.out]) | (rw [show (ByteArray.mk #[40, 41, 91, 93, 123, 125, 44, 124, 37]).data.toList = in7 from rfl, I7.out]) | (rw [show (ByteArray.mk #[39, 34, 96]).data.toList = in8 from rfl, I8.out]))
  go_ret
  exact ⟨rfl, rfl⟩
set_option maxRecDepth 100000 in
theorem ref_Sort_r48 (n : Nat) (h0 : 48 ≤ n) (h1 : n ≤ 57) (w : World) : Calls Tryd.prog 68 #[.int .u8 n] w (fun e w' => e = .returned (.int .i64 4) ∧ w = w') := by
  obtain ⟨i5, i6, i7, i8⟩ := in_r48 n h0 h1
  have I5 := Lib.hid i5
  have I6 := Lib.hid i6
  have I7 := Lib.hid i7
  have I8 := Lib.hid i8
  clear i5 i6 i7 i8
  have g0 : 48 ≤ (n : Int) := by omega
  have g1 : (n : Int) ≤ 57 := by omega
  have q32 : ((n : Int) == 32) = false := by simp; omega
  have q95 : ((n : Int) == 95) = false := by simp; omega
  go_enter Tryd.func68, Tryd.ntmps68
  go_wp2_with (go_at_call 79; refine (ref_in _ _ (by decide) _).mono ?_; rintro e1 w1 ⟨rfl, rfl⟩; first | (rw [show (ByteArray.mk #[43, 45, 42, 47, 92, 94, 60, 62, 61, 126, 58, 46, 63, 64, 35, 38, 36]).data.toList = in5 from rfl, I5.out]) | (rw [show (ByteArray.mk #[33, 59]).data.toList = in6 from rfl, I6.out]) | (rw [show (ByteArray.mk #[40, 41, 91, 93, 123, 125, 44, 124, 37]).data.toList = in7 from rfl, I7.out]) | (rw [show (ByteArray.mk #[39, 34, 96]).data.toList = in8 from rfl, I8.out]))
  go_ret
  exact ⟨rfl, rfl⟩
set_option maxRecDepth 100000 in
theorem ref_Sort_r65 (n : Nat) (h0 : 65 ≤ n) (h1 : n ≤ 90) (w : World) : Calls Tryd.prog 68 #[.int .u8 n] w (fun e w' => e = .returned (.int .i64 3) ∧ w = w') := by
  obtain ⟨i5, i6, i7, i8⟩ := in_r65 n h0 h1
  have I5 := Lib.hid i5
  have I6 := Lib.hid i6
  have I7 := Lib.hid i7
  have I8 := Lib.hid i8
  clear i5 i6 i7 i8
  have g0 : 65 ≤ (n : Int) := by omega
  have g1 : (n : Int) ≤ 90 := by omega
  have q32 : ((n : Int) == 32) = false := by simp; omega
  have q95 : ((n : Int) == 95) = false := by simp; omega
  go_enter Tryd.func68, Tryd.ntmps68
  go_wp2_with (go_at_call 79; refine (ref_in _ _ (by decide) _).mono ?_; rintro e1 w1 ⟨rfl, rfl⟩; first | (rw [show (ByteArray.mk #[43, 45, 42, 47, 92, 94, 60, 62, 61, 126, 58, 46, 63, 64, 35, 38, 36]).data.toList = in5 from rfl, I5.out]) | (rw [show (ByteArray.mk #[33, 59]).data.toList = in6 from rfl, I6.out]) | (rw [show (ByteArray.mk #[40, 41, 91, 93, 123, 125, 44, 124, 37]).data.toList = in7 from rfl, I7.out]) | (rw [show (ByteArray.mk #[39, 34, 96]).data.toList = in8 from rfl, I8.out]))
  go_ret
  exact ⟨rfl, rfl⟩
set_option maxRecDepth 100000 in
theorem ref_Sort_95 (w : World) : Calls Tryd.prog 68 #[.int .u8 ((95 : Nat) : Int)] w (fun e w' => e = .returned (.int .i64 3) ∧ w = w') := by
  have I5 : Hid (inB 95 in5 = false) := Lib.hid (by decide)
  have I6 : Hid (inB 95 in6 = false) := Lib.hid (by decide)
  have I7 : Hid (inB 95 in7 = false) := Lib.hid (by decide)
  have I8 : Hid (inB 95 in8 = false) := Lib.hid (by decide)
  go_enter Tryd.func68, Tryd.ntmps68
  go_wp2_with (go_at_call 79; refine (ref_in _ _ (by decide) _).mono ?_; rintro e1 w1 ⟨rfl, rfl⟩; first | (rw [show (ByteArray.mk #[43, 45, 42, 47, 92, 94, 60, 62, 61, 126, 58, 46, 63, 64, 35, 38, 36]).data.toList = in5 from rfl, I5.out]) | (rw [show (ByteArray.mk #[33, 59]).data.toList = in6 from rfl, I6.out]) | (rw [show (ByteArray.mk #[40, 41, 91, 93, 123, 125, 44, 124, 37]).data.toList = in7 from rfl, I7.out]) | (rw [show (ByteArray.mk #[39, 34, 96]).data.toList = in8 from rfl, I8.out]))
  go_ret
  exact ⟨rfl, rfl⟩
set_option maxRecDepth 100000 in
theorem ref_Sort_r97 (n : Nat) (h0 : 97 ≤ n) (h1 : n ≤ 122) (w : World) : Calls Tryd.prog 68 #[.int .u8 n] w (fun e w' => e = .returned (.int .i64 2) ∧ w = w') := by
  obtain ⟨i5, i6, i7, i8⟩ := in_r97 n h0 h1
  have I5 := Lib.hid i5
  have I6 := Lib.hid i6
  have I7 := Lib.hid i7
  have I8 := Lib.hid i8
  clear i5 i6 i7 i8
  have g0 : 97 ≤ (n : Int) := by omega
  have g1 : (n : Int) ≤ 122 := by omega
  have q32 : ((n : Int) == 32) = false := by simp; omega
  have q95 : ((n : Int) == 95) = false := by simp; omega
  go_enter Tryd.func68, Tryd.ntmps68
  go_wp2_with (go_at_call 79; refine (ref_in _ _ (by decide) _).mono ?_; rintro e1 w1 ⟨rfl, rfl⟩; first | (rw [show (ByteArray.mk #[43, 45, 42, 47, 92, 94, 60, 62, 61, 126, 58, 46, 63, 64, 35, 38, 36]).data.toList = in5 from rfl, I5.out]) | (rw [show (ByteArray.mk #[33, 59]).data.toList = in6 from rfl, I6.out]) | (rw [show (ByteArray.mk #[40, 41, 91, 93, 123, 125, 44, 124, 37]).data.toList = in7 from rfl, I7.out]) | (rw [show (ByteArray.mk #[39, 34, 96]).data.toList = in8 from rfl, I8.out]))
  go_ret
  exact ⟨rfl, rfl⟩
set_option maxRecDepth 100000 in
theorem ref_Sort_r127 (n : Nat) (h0 : 127 ≤ n) (h1 : n ≤ 255) (w : World) : Calls Tryd.prog 68 #[.int .u8 n] w (fun e w' => e = .returned (.int .i64 0) ∧ w = w') := by
  obtain ⟨i5, i6, i7, i8⟩ := in_r127 n h0 h1
  have I5 := Lib.hid i5
  have I6 := Lib.hid i6
  have I7 := Lib.hid i7
  have I8 := Lib.hid i8
  clear i5 i6 i7 i8
  have g0 : 127 ≤ (n : Int) := by omega
  have g1 : (n : Int) ≤ 255 := by omega
  have q32 : ((n : Int) == 32) = false := by simp; omega
  have q95 : ((n : Int) == 95) = false := by simp; omega
  go_enter Tryd.func68, Tryd.ntmps68
  go_wp2_with (go_at_call 79; refine (ref_in _ _ (by decide) _).mono ?_; rintro e1 w1 ⟨rfl, rfl⟩; first | (rw [show (ByteArray.mk #[43, 45, 42, 47, 92, 94, 60, 62, 61, 126, 58, 46, 63, 64, 35, 38, 36]).data.toList = in5 from rfl, I5.out]) | (rw [show (ByteArray.mk #[33, 59]).data.toList = in6 from rfl, I6.out]) | (rw [show (ByteArray.mk #[40, 41, 91, 93, 123, 125, 44, 124, 37]).data.toList = in7 from rfl, I7.out]) | (rw [show (ByteArray.mk #[39, 34, 96]).data.toList = in8 from rfl, I8.out]))
  go_ret
  exact ⟨rfl, rfl⟩
set_option maxRecDepth 100000 in
theorem ref_Sort_43 (w : World) : Calls Tryd.prog 68 #[.int .u8 ((43 : Nat) : Int)] w (fun e w' => e = .returned (.int .i64 5) ∧ w = w') := by
  have I5 : Hid (inB 43 in5 = true) := Lib.hid (by decide)
  have I6 : Hid (inB 43 in6 = false) := Lib.hid (by decide)
  have I7 : Hid (inB 43 in7 = false) := Lib.hid (by decide)
  have I8 : Hid (inB 43 in8 = false) := Lib.hid (by decide)
  go_enter Tryd.func68, Tryd.ntmps68
  go_wp2_with (go_at_call 79; refine (ref_in _ _ (by decide) _).mono ?_; rintro e1 w1 ⟨rfl, rfl⟩; first | (rw [show (ByteArray.mk #[43, 45, 42, 47, 92, 94, 60, 62, 61, 126, 58, 46, 63, 64, 35, 38, 36]).data.toList = in5 from rfl, I5.out]) | (rw [show (ByteArray.mk #[33, 59]).data.toList = in6 from rfl, I6.out]) | (rw [show (ByteArray.mk #[40, 41, 91, 93, 123, 125, 44, 124, 37]).data.toList = in7 from rfl, I7.out]) | (rw [show (ByteArray.mk #[39, 34, 96]).data.toList = in8 from rfl, I8.out]))
  go_ret
  exact ⟨rfl, rfl⟩
set_option maxRecDepth 100000 in
theorem ref_Sort_45 (w : World) : Calls Tryd.prog 68 #[.int .u8 ((45 : Nat) : Int)] w (fun e w' => e = .returned (.int .i64 5) ∧ w = w') := by
  have I5 : Hid (inB 45 in5 = true) := Lib.hid (by decide)
  have I6 : Hid (inB 45 in6 = false) := Lib.hid (by decide)
  have I7 : Hid (inB 45 in7 = false) := Lib.hid (by decide)
  have I8 : Hid (inB 45 in8 = false) := Lib.hid (by decide)
  go_enter Tryd.func68, Tryd.ntmps68
  go_wp2_with (go_at_call 79; refine (ref_in _ _ (by decide) _).mono ?_; rintro e1 w1 ⟨rfl, rfl⟩; first | (rw [show (ByteArray.mk #[43, 45, 42, 47, 92, 94, 60, 62, 61, 126, 58, 46, 63, 64, 35, 38, 36]).data.toList = in5 from rfl, I5.out]) | (rw [show (ByteArray.mk #[33, 59]).data.toList = in6 from rfl, I6.out]) | (rw [show (ByteArray.mk #[40, 41, 91, 93, 123, 125, 44, 124, 37]).data.toList = in7 from rfl, I7.out]) | (rw [show (ByteArray.mk #[39, 34, 96]).data.toList = in8 from rfl, I8.out]))
  go_ret
  exact ⟨rfl, rfl⟩
set_option maxRecDepth 100000 in
theorem ref_Sort_42 (w : World) : Calls Tryd.prog 68 #[.int .u8 ((42 : Nat) : Int)] w (fun e w' => e = .returned (.int .i64 5) ∧ w = w') := by
  have I5 : Hid (inB 42 in5 = true) := Lib.hid (by decide)
  have I6 : Hid (inB 42 in6 = false) := Lib.hid (by decide)
  have I7 : Hid (inB 42 in7 = false) := Lib.hid (by decide)
  have I8 : Hid (inB 42 in8 = false) := Lib.hid (by decide)
  go_enter Tryd.func68, Tryd.ntmps68
  go_wp2_with (go_at_call 79; refine (ref_in _ _ (by decide) _).mono ?_; rintro e1 w1 ⟨rfl, rfl⟩; first | (rw [show (ByteArray.mk #[43, 45, 42, 47, 92, 94, 60, 62, 61, 126, 58, 46, 63, 64, 35, 38, 36]).data.toList = in5 from rfl, I5.out]) | (rw [show (ByteArray.mk #[33, 59]).data.toList = in6 from rfl, I6.out]) | (rw [show (ByteArray.mk #[40, 41, 91, 93, 123, 125, 44, 124, 37]).data.toList = in7 from rfl, I7.out]) | (rw [show (ByteArray.mk #[39, 34, 96]).data.toList = in8 from rfl, I8.out]))
  go_ret
  exact ⟨rfl, rfl⟩
set_option maxRecDepth 100000 in
theorem ref_Sort_47 (w : World) : Calls Tryd.prog 68 #[.int .u8 ((47 : Nat) : Int)] w (fun e w' => e = .returned (.int .i64 5) ∧ w = w') := by
  have I5 : Hid (inB 47 in5 = true) := Lib.hid (by decide)
  have I6 : Hid (inB 47 in6 = false) := Lib.hid (by decide)
  have I7 : Hid (inB 47 in7 = false) := Lib.hid (by decide)
  have I8 : Hid (inB 47 in8 = false) := Lib.hid (by decide)
  go_enter Tryd.func68, Tryd.ntmps68
  go_wp2_with (go_at_call 79; refine (ref_in _ _ (by decide) _).mono ?_; rintro e1 w1 ⟨rfl, rfl⟩; first | (rw [show (ByteArray.mk #[43, 45, 42, 47, 92, 94, 60, 62, 61, 126, 58, 46, 63, 64, 35, 38, 36]).data.toList = in5 from rfl, I5.out]) | (rw [show (ByteArray.mk #[33, 59]).data.toList = in6 from rfl, I6.out]) | (rw [show (ByteArray.mk #[40, 41, 91, 93, 123, 125, 44, 124, 37]).data.toList = in7 from rfl, I7.out]) | (rw [show (ByteArray.mk #[39, 34, 96]).data.toList = in8 from rfl, I8.out]))
  go_ret
  exact ⟨rfl, rfl⟩
set_option maxRecDepth 100000 in
theorem ref_Sort_92 (w : World) : Calls Tryd.prog 68 #[.int .u8 ((92 : Nat) : Int)] w (fun e w' => e = .returned (.int .i64 5) ∧ w = w') := by
  have I5 : Hid (inB 92 in5 = true) := Lib.hid (by decide)
  have I6 : Hid (inB 92 in6 = false) := Lib.hid (by decide)
  have I7 : Hid (inB 92 in7 = false) := Lib.hid (by decide)
  have I8 : Hid (inB 92 in8 = false) := Lib.hid (by decide)
  go_enter Tryd.func68, Tryd.ntmps68
  go_wp2_with (go_at_call 79; refine (ref_in _ _ (by decide) _).mono ?_; rintro e1 w1 ⟨rfl, rfl⟩; first | (rw [show (ByteArray.mk #[43, 45, 42, 47, 92, 94, 60, 62, 61, 126, 58, 46, 63, 64, 35, 38, 36]).data.toList = in5 from rfl, I5.out]) | (rw [show (ByteArray.mk #[33, 59]).data.toList = in6 from rfl, I6.out]) | (rw [show (ByteArray.mk #[40, 41, 91, 93, 123, 125, 44, 124, 37]).data.toList = in7 from rfl, I7.out]) | (rw [show (ByteArray.mk #[39, 34, 96]).data.toList = in8 from rfl, I8.out]))
  go_ret
  exact ⟨rfl, rfl⟩
set_option maxRecDepth 100000 in
theorem ref_Sort_94 (w : World) : Calls Tryd.prog 68 #[.int .u8 ((94 : Nat) : Int)] w (fun e w' => e = .returned (.int .i64 5) ∧ w = w') := by
  have I5 : Hid (inB 94 in5 = true) := Lib.hid (by decide)
  have I6 : Hid (inB 94 in6 = false) := Lib.hid (by decide)
  have I7 : Hid (inB 94 in7 = false) := Lib.hid (by decide)
  have I8 : Hid (inB 94 in8 = false) := Lib.hid (by decide)
  go_enter Tryd.func68, Tryd.ntmps68
  go_wp2_with (go_at_call 79; refine (ref_in _ _ (by decide) _).mono ?_; rintro e1 w1 ⟨rfl, rfl⟩; first | (rw [show (ByteArray.mk #[43, 45, 42, 47, 92, 94, 60, 62, 61, 126, 58, 46, 63, 64, 35, 38, 36]).data.toList = in5 from rfl, I5.out]) | (rw [show (ByteArray.mk #[33, 59]).data.toList = in6 from rfl, I6.out]) | (rw [show (ByteArray.mk #[40, 41, 91, 93, 123, 125, 44, 124, 37]).data.toList = in7 from rfl, I7.out]) | (rw [show (ByteArray.mk #[39, 34, 96]).data.toList = in8 from rfl, I8.out]))
  go_ret
  exact ⟨rfl, rfl⟩
set_option maxRecDepth 100000 in
theorem ref_Sort_60 (w : World) : Calls Tryd.prog 68 #[.int .u8 ((60 : Nat) : Int)] w (fun e w' => e = .returned (.int .i64 5) ∧ w = w') := by
  have I5 : Hid (inB 60 in5 = true) := Lib.hid (by decide)
  have I6 : Hid (inB 60 in6 = false) := Lib.hid (by decide)
  have I7 : Hid (inB 60 in7 = false) := Lib.hid (by decide)
  have I8 : Hid (inB 60 in8 = false) := Lib.hid (by decide)
  go_enter Tryd.func68, Tryd.ntmps68
  go_wp2_with (go_at_call 79; refine (ref_in _ _ (by decide) _).mono ?_; rintro e1 w1 ⟨rfl, rfl⟩; first | (rw [show (ByteArray.mk #[43, 45, 42, 47, 92, 94, 60, 62, 61, 126, 58, 46, 63, 64, 35, 38, 36]).data.toList = in5 from rfl, I5.out]) | (rw [show (ByteArray.mk #[33, 59]).data.toList = in6 from rfl, I6.out]) | (rw [show (ByteArray.mk #[40, 41, 91, 93, 123, 125, 44, 124, 37]).data.toList = in7 from rfl, I7.out]) | (rw [show (ByteArray.mk #[39, 34, 96]).data.toList = in8 from rfl, I8.out]))
  go_ret
  exact ⟨rfl, rfl⟩
set_option maxRecDepth 100000 in
theorem ref_Sort_62 (w : World) : Calls Tryd.prog 68 #[.int .u8 ((62 : Nat) : Int)] w (fun e w' => e = .returned (.int .i64 5) ∧ w = w') := by
  have I5 : Hid (inB 62 in5 = true) := Lib.hid (by decide)
  have I6 : Hid (inB 62 in6 = false) := Lib.hid (by decide)
  have I7 : Hid (inB 62 in7 = false) := Lib.hid (by decide)
  have I8 : Hid (inB 62 in8 = false) := Lib.hid (by decide)
  go_enter Tryd.func68, Tryd.ntmps68
  go_wp2_with (go_at_call 79; refine (ref_in _ _ (by decide) _).mono ?_; rintro e1 w1 ⟨rfl, rfl⟩; first | (rw [show (ByteArray.mk #[43, 45, 42, 47, 92, 94, 60, 62, 61, 126, 58, 46, 63, 64, 35, 38, 36]).data.toList = in5 from rfl, I5.out]) | (rw [show (ByteArray.mk #[33, 59]).data.toList = in6 from rfl, I6.out]) | (rw [show (ByteArray.mk #[40, 41, 91, 93, 123, 125, 44, 124, 37]).data.toList = in7 from rfl, I7.out]) | (rw [show (ByteArray.mk #[39, 34, 96]).data.toList = in8 from rfl, I8.out]))
  go_ret
  exact ⟨rfl, rfl⟩
set_option maxRecDepth 100000 in
theorem ref_Sort_61 (w : World) : Calls Tryd.prog 68 #[.int .u8 ((61 : Nat) : Int)] w (fun e w' => e = .returned (.int .i64 5) ∧ w = w') := by
  have I5 : Hid (inB 61 in5 = true) := Lib.hid (by decide)
  have I6 : Hid (inB 61 in6 = false) := Lib.hid (by decide)
  have I7 : Hid (inB 61 in7 = false) := Lib.hid (by decide)
  have I8 : Hid (inB 61 in8 = false) := Lib.hid (by decide)
  go_enter Tryd.func68, Tryd.ntmps68
  go_wp2_with (go_at_call 79; refine (ref_in _ _ (by decide) _).mono ?_; rintro e1 w1 ⟨rfl, rfl⟩; first | (rw [show (ByteArray.mk #[43, 45, 42, 47, 92, 94, 60, 62, 61, 126, 58, 46, 63, 64, 35, 38, 36]).data.toList = in5 from rfl, I5.out]) | (rw [show (ByteArray.mk #[33, 59]).data.toList = in6 from rfl, I6.out]) | (rw [show (ByteArray.mk #[40, 41, 91, 93, 123, 125, 44, 124, 37]).data.toList = in7 from rfl, I7.out]) | (rw [show (ByteArray.mk #[39, 34, 96]).data.toList = in8 from rfl, I8.out]))
  go_ret
  exact ⟨rfl, rfl⟩
set_option maxRecDepth 100000 in
theorem ref_Sort_126 (w : World) : Calls Tryd.prog 68 #[.int .u8 ((126 : Nat) : Int)] w (fun e w' => e = .returned (.int .i64 5) ∧ w = w') := by
  have I5 : Hid (inB 126 in5 = true) := Lib.hid (by decide)
  have I6 : Hid (inB 126 in6 = false) := Lib.hid (by decide)
  have I7 : Hid (inB 126 in7 = false) := Lib.hid (by decide)
  have I8 : Hid (inB 126 in8 = false) := Lib.hid (by decide)
  go_enter Tryd.func68, Tryd.ntmps68
  go_wp2_with (go_at_call 79; refine (ref_in _ _ (by decide) _).mono ?_; rintro e1 w1 ⟨rfl, rfl⟩; first | (rw [show (ByteArray.mk #[43, 45, 42, 47, 92, 94, 60, 62, 61, 126, 58, 46, 63, 64, 35, 38, 36]).data.toList = in5 from rfl, I5.out]) | (rw [show (ByteArray.mk #[33, 59]).data.toList = in6 from rfl, I6.out]) | (rw [show (ByteArray.mk #[40, 41, 91, 93, 123, 125, 44, 124, 37]).data.toList = in7 from rfl, I7.out]) | (rw [show (ByteArray.mk #[39, 34, 96]).data.toList = in8 from rfl, I8.out]))
  go_ret
  exact ⟨rfl, rfl⟩
set_option maxRecDepth 100000 in
theorem ref_Sort_58 (w : World) : Calls Tryd.prog 68 #[.int .u8 ((58 : Nat) : Int)] w (fun e w' => e = .returned (.int .i64 5) ∧ w = w') := by
  have I5 : Hid (inB 58 in5 = true) := Lib.hid (by decide)
  have I6 : Hid (inB 58 in6 = false) := Lib.hid (by decide)
  have I7 : Hid (inB 58 in7 = false) := Lib.hid (by decide)
  have I8 : Hid (inB 58 in8 = false) := Lib.hid (by decide)
  go_enter Tryd.func68, Tryd.ntmps68
  go_wp2_with (go_at_call 79; refine (ref_in _ _ (by decide) _).mono ?_; rintro e1 w1 ⟨rfl, rfl⟩; first | (rw [show (ByteArray.mk #[43, 45, 42, 47, 92, 94, 60, 62, 61, 126, 58, 46, 63, 64, 35, 38, 36]).data.toList = in5 from rfl, I5.out]) | (rw [show (ByteArray.mk #[33, 59]).data.toList = in6 from rfl, I6.out]) | (rw [show (ByteArray.mk #[40, 41, 91, 93, 123, 125, 44, 124, 37]).data.toList = in7 from rfl, I7.out]) | (rw [show (ByteArray.mk #[39, 34, 96]).data.toList = in8 from rfl, I8.out]))
  go_ret
  exact ⟨rfl, rfl⟩
set_option maxRecDepth 100000 in
theorem ref_Sort_46 (w : World) : Calls Tryd.prog 68 #[.int .u8 ((46 : Nat) : Int)] w (fun e w' => e = .returned (.int .i64 5) ∧ w = w') := by
  have I5 : Hid (inB 46 in5 = true) := Lib.hid (by decide)
  have I6 : Hid (inB 46 in6 = false) := Lib.hid (by decide)
  have I7 : Hid (inB 46 in7 = false) := Lib.hid (by decide)
  have I8 : Hid (inB 46 in8 = false) := Lib.hid (by decide)
  go_enter Tryd.func68, Tryd.ntmps68
  go_wp2_with (go_at_call 79; refine (ref_in _ _ (by decide) _).mono ?_; rintro e1 w1 ⟨rfl, rfl⟩; first | (rw [show (ByteArray.mk #[43, 45, 42, 47, 92, 94, 60, 62, 61, 126, 58, 46, 63, 64, 35, 38, 36]).data.toList = in5 from rfl, I5.out]) | (rw [show (ByteArray.mk #[33, 59]).data.toList = in6 from rfl, I6.out]) | (rw [show (ByteArray.mk #[40, 41, 91, 93, 123, 125, 44, 124, 37]).data.toList = in7 from rfl, I7.out]) | (rw [show (ByteArray.mk #[39, 34, 96]).data.toList = in8 from rfl, I8.out]))
  go_ret
  exact ⟨rfl, rfl⟩
set_option maxRecDepth 100000 in
theorem ref_Sort_63 (w : World) : Calls Tryd.prog 68 #[.int .u8 ((63 : Nat) : Int)] w (fun e w' => e = .returned (.int .i64 5) ∧ w = w') := by
  have I5 : Hid (inB 63 in5 = true) := Lib.hid (by decide)
  have I6 : Hid (inB 63 in6 = false) := Lib.hid (by decide)
  have I7 : Hid (inB 63 in7 = false) := Lib.hid (by decide)
  have I8 : Hid (inB 63 in8 = false) := Lib.hid (by decide)
  go_enter Tryd.func68, Tryd.ntmps68
  go_wp2_with (go_at_call 79; refine (ref_in _ _ (by decide) _).mono ?_; rintro e1 w1 ⟨rfl, rfl⟩; first | (rw [show (ByteArray.mk #[43, 45, 42, 47, 92, 94, 60, 62, 61, 126, 58, 46, 63, 64, 35, 38, 36]).data.toList = in5 from rfl, I5.out]) | (rw [show (ByteArray.mk #[33, 59]).data.toList = in6 from rfl, I6.out]) | (rw [show (ByteArray.mk #[40, 41, 91, 93, 123, 125, 44, 124, 37]).data.toList = in7 from rfl, I7.out]) | (rw [show (ByteArray.mk #[39, 34, 96]).data.toList = in8 from rfl, I8.out]))
  go_ret
  exact ⟨rfl, rfl⟩
set_option maxRecDepth 100000 in
theorem ref_Sort_64 (w : World) : Calls Tryd.prog 68 #[.int .u8 ((64 : Nat) : Int)] w (fun e w' => e = .returned (.int .i64 5) ∧ w = w') := by
  have I5 : Hid (inB 64 in5 = true) := Lib.hid (by decide)
  have I6 : Hid (inB 64 in6 = false) := Lib.hid (by decide)
  have I7 : Hid (inB 64 in7 = false) := Lib.hid (by decide)
  have I8 : Hid (inB 64 in8 = false) := Lib.hid (by decide)
  go_enter Tryd.func68, Tryd.ntmps68
  go_wp2_with (go_at_call 79; refine (ref_in _ _ (by decide) _).mono ?_; rintro e1 w1 ⟨rfl, rfl⟩; first | (rw [show (ByteArray.mk #[43, 45, 42, 47, 92, 94, 60, 62, 61, 126, 58, 46, 63, 64, 35, 38, 36]).data.toList = in5 from rfl, I5.out]) | (rw [show (ByteArray.mk #[33, 59]).data.toList = in6 from rfl, I6.out]) | (rw [show (ByteArray.mk #[40, 41, 91, 93, 123, 125, 44, 124, 37]).data.toList = in7 from rfl, I7.out]) | (rw [show (ByteArray.mk #[39, 34, 96]).data.toList = in8 from rfl, I8.out]))
  go_ret
  exact ⟨rfl, rfl⟩
set_option maxRecDepth 100000 in
theorem ref_Sort_35 (w : World) : Calls Tryd.prog 68 #[.int .u8 ((35 : Nat) : Int)] w (fun e w' => e = .returned (.int .i64 5) ∧ w = w') := by
  have I5 : Hid (inB 35 in5 = true) := Lib.hid (by decide)
  have I6 : Hid (inB 35 in6 = false) := Lib.hid (by decide)
  have I7 : Hid (inB 35 in7 = false) := Lib.hid (by decide)
  have I8 : Hid (inB 35 in8 = false) := Lib.hid (by decide)
  go_enter Tryd.func68, Tryd.ntmps68
  go_wp2_with (go_at_call 79; refine (ref_in _ _ (by decide) _).mono ?_; rintro e1 w1 ⟨rfl, rfl⟩; first | (rw [show (ByteArray.mk #[43, 45, 42, 47, 92, 94, 60, 62, 61, 126, 58, 46, 63, 64, 35, 38, 36]).data.toList = in5 from rfl, I5.out]) | (rw [show (ByteArray.mk #[33, 59]).data.toList = in6 from rfl, I6.out]) | (rw [show (ByteArray.mk #[40, 41, 91, 93, 123, 125, 44, 124, 37]).data.toList = in7 from rfl, I7.out]) | (rw [show (ByteArray.mk #[39, 34, 96]).data.toList = in8 from rfl, I8.out]))
  go_ret
  exact ⟨rfl, rfl⟩
set_option maxRecDepth 100000 in
theorem ref_Sort_38 (w : World) : Calls Tryd.prog 68 #[.int .u8 ((38 : Nat) : Int)] w (fun e w' => e = .returned (.int .i64 5) ∧ w = w') := by
  have I5 : Hid (inB 38 in5 = true) := Lib.hid (by decide)
  have I6 : Hid (inB 38 in6 = false) := Lib.hid (by decide)
  have I7 : Hid (inB 38 in7 = false) := Lib.hid (by decide)
  have I8 : Hid (inB 38 in8 = false) := Lib.hid (by decide)
  go_enter Tryd.func68, Tryd.ntmps68
  go_wp2_with (go_at_call 79; refine (ref_in _ _ (by decide) _).mono ?_; rintro e1 w1 ⟨rfl, rfl⟩; first | (rw [show (ByteArray.mk #[43, 45, 42, 47, 92, 94, 60, 62, 61, 126, 58, 46, 63, 64, 35, 38, 36]).data.toList = in5 from rfl, I5.out]) | (rw [show (ByteArray.mk #[33, 59]).data.toList = in6 from rfl, I6.out]) | (rw [show (ByteArray.mk #[40, 41, 91, 93, 123, 125, 44, 124, 37]).data.toList = in7 from rfl, I7.out]) | (rw [show (ByteArray.mk #[39, 34, 96]).data.toList = in8 from rfl, I8.out]))
  go_ret
  exact ⟨rfl, rfl⟩
set_option maxRecDepth 100000 in
theorem ref_Sort_36 (w : World) : Calls Tryd.prog 68 #[.int .u8 ((36 : Nat) : Int)] w (fun e w' => e = .returned (.int .i64 5) ∧ w = w') := by
  have I5 : Hid (inB 36 in5 = true) := Lib.hid (by decide)
  have I6 : Hid (inB 36 in6 = false) := Lib.hid (by decide)
  have I7 : Hid (inB 36 in7 = false) := Lib.hid (by decide)
  have I8 : Hid (inB 36 in8 = false) := Lib.hid (by decide)
  go_enter Tryd.func68, Tryd.ntmps68
  go_wp2_with (go_at_call 79; refine (ref_in _ _ (by decide) _).mono ?_; rintro e1 w1 ⟨rfl, rfl⟩; first | (rw [show (ByteArray.mk #[43, 45, 42, 47, 92, 94, 60, 62, 61, 126, 58, 46, 63, 64, 35, 38, 36]).data.toList = in5 from rfl, I5.out]) | (rw [show (ByteArray.mk #[33, 59]).data.toList = in6 from rfl, I6.out]) | (rw [show (ByteArray.mk #[40, 41, 91, 93, 123, 125, 44, 124, 37]).data.toList = in7 from rfl, I7.out]) | (rw [show (ByteArray.mk #[39, 34, 96]).data.toList = in8 from rfl, I8.out]))
  go_ret
  exact ⟨rfl, rfl⟩
set_option maxRecDepth 100000 in
theorem ref_Sort_33 (w : World) : Calls Tryd.prog 68 #[.int .u8 ((33 : Nat) : Int)] w (fun e w' => e = .returned (.int .i64 6) ∧ w = w') := by
  have I5 : Hid (inB 33 in5 = false) := Lib.hid (by decide)
  have I6 : Hid (inB 33 in6 = true) := Lib.hid (by decide)
  have I7 : Hid (inB 33 in7 = false) := Lib.hid (by decide)
  have I8 : Hid (inB 33 in8 = false) := Lib.hid (by decide)
  go_enter Tryd.func68, Tryd.ntmps68
  go_wp2_with (go_at_call 79; refine (ref_in _ _ (by decide) _).mono ?_; rintro e1 w1 ⟨rfl, rfl⟩; first | (rw [show (ByteArray.mk #[43, 45, 42, 47, 92, 94, 60, 62, 61, 126, 58, 46, 63, 64, 35, 38, 36]).data.toList = in5 from rfl, I5.out]) | (rw [show (ByteArray.mk #[33, 59]).data.toList = in6 from rfl, I6.out]) | (rw [show (ByteArray.mk #[40, 41, 91, 93, 123, 125, 44, 124, 37]).data.toList = in7 from rfl, I7.out]) | (rw [show (ByteArray.mk #[39, 34, 96]).data.toList = in8 from rfl, I8.out]))
  go_ret
  exact ⟨rfl, rfl⟩
set_option maxRecDepth 100000 in
theorem ref_Sort_59 (w : World) : Calls Tryd.prog 68 #[.int .u8 ((59 : Nat) : Int)] w (fun e w' => e = .returned (.int .i64 6) ∧ w = w') := by
  have I5 : Hid (inB 59 in5 = false) := Lib.hid (by decide)
  have I6 : Hid (inB 59 in6 = true) := Lib.hid (by decide)
  have I7 : Hid (inB 59 in7 = false) := Lib.hid (by decide)
  have I8 : Hid (inB 59 in8 = false) := Lib.hid (by decide)
  go_enter Tryd.func68, Tryd.ntmps68
  go_wp2_with (go_at_call 79; refine (ref_in _ _ (by decide) _).mono ?_; rintro e1 w1 ⟨rfl, rfl⟩; first | (rw [show (ByteArray.mk #[43, 45, 42, 47, 92, 94, 60, 62, 61, 126, 58, 46, 63, 64, 35, 38, 36]).data.toList = in5 from rfl, I5.out]) | (rw [show (ByteArray.mk #[33, 59]).data.toList = in6 from rfl, I6.out]) | (rw [show (ByteArray.mk #[40, 41, 91, 93, 123, 125, 44, 124, 37]).data.toList = in7 from rfl, I7.out]) | (rw [show (ByteArray.mk #[39, 34, 96]).data.toList = in8 from rfl, I8.out]))
  go_ret
  exact ⟨rfl, rfl⟩
set_option maxRecDepth 100000 in
theorem ref_Sort_40 (w : World) : Calls Tryd.prog 68 #[.int .u8 ((40 : Nat) : Int)] w (fun e w' => e = .returned (.int .i64 7) ∧ w = w') := by
  have I5 : Hid (inB 40 in5 = false) := Lib.hid (by decide)
  have I6 : Hid (inB 40 in6 = false) := Lib.hid (by decide)
  have I7 : Hid (inB 40 in7 = true) := Lib.hid (by decide)
  have I8 : Hid (inB 40 in8 = false) := Lib.hid (by decide)
  go_enter Tryd.func68, Tryd.ntmps68
  go_wp2_with (go_at_call 79; refine (ref_in _ _ (by decide) _).mono ?_; rintro e1 w1 ⟨rfl, rfl⟩; first | (rw [show (ByteArray.mk #[43, 45, 42, 47, 92, 94, 60, 62, 61, 126, 58, 46, 63, 64, 35, 38, 36]).data.toList = in5 from rfl, I5.out]) | (rw [show (ByteArray.mk #[33, 59]).data.toList = in6 from rfl, I6.out]) | (rw [show (ByteArray.mk #[40, 41, 91, 93, 123, 125, 44, 124, 37]).data.toList = in7 from rfl, I7.out]) | (rw [show (ByteArray.mk #[39, 34, 96]).data.toList = in8 from rfl, I8.out]))
  go_ret
  exact ⟨rfl, rfl⟩
set_option maxRecDepth 100000 in
theorem ref_Sort_41 (w : World) : Calls Tryd.prog 68 #[.int .u8 ((41 : Nat) : Int)] w (fun e w' => e = .returned (.int .i64 7) ∧ w = w') := by
  have I5 : Hid (inB 41 in5 = false) := Lib.hid (by decide)
  have I6 : Hid (inB 41 in6 = false) := Lib.hid (by decide)
  have I7 : Hid (inB 41 in7 = true) := Lib.hid (by decide)
  have I8 : Hid (inB 41 in8 = false) := Lib.hid (by decide)
  go_enter Tryd.func68, Tryd.ntmps68
  go_wp2_with (go_at_call 79; refine (ref_in _ _ (by decide) _).mono ?_; rintro e1 w1 ⟨rfl, rfl⟩; first | (rw [show (ByteArray.mk #[43, 45, 42, 47, 92, 94, 60, 62, 61, 126, 58, 46, 63, 64, 35, 38, 36]).data.toList = in5 from rfl, I5.out]) | (rw [show (ByteArray.mk #[33, 59]).data.toList = in6 from rfl, I6.out]) | (rw [show (ByteArray.mk #[40, 41, 91, 93, 123, 125, 44, 124, 37]).data.toList = in7 from rfl, I7.out]) | (rw [show (ByteArray.mk #[39, 34, 96]).data.toList = in8 from rfl, I8.out]))
  go_ret
  exact ⟨rfl, rfl⟩
set_option maxRecDepth 100000 in
theorem ref_Sort_91 (w : World) : Calls Tryd.prog 68 #[.int .u8 ((91 : Nat) : Int)] w (fun e w' => e = .returned (.int .i64 7) ∧ w = w') := by
  have I5 : Hid (inB 91 in5 = false) := Lib.hid (by decide)
  have I6 : Hid (inB 91 in6 = false) := Lib.hid (by decide)
  have I7 : Hid (inB 91 in7 = true) := Lib.hid (by decide)
  have I8 : Hid (inB 91 in8 = false) := Lib.hid (by decide)
  go_enter Tryd.func68, Tryd.ntmps68
  go_wp2_with (go_at_call 79; refine (ref_in _ _ (by decide) _).mono ?_; rintro e1 w1 ⟨rfl, rfl⟩; first | (rw [show (ByteArray.mk #[43, 45, 42, 47, 92, 94, 60, 62, 61, 126, 58, 46, 63, 64, 35, 38, 36]).data.toList = in5 from rfl, I5.out]) | (rw [show (ByteArray.mk #[33, 59]).data.toList = in6 from rfl, I6.out]) | (rw [show (ByteArray.mk #[40, 41, 91, 93, 123, 125, 44, 124, 37]).data.toList = in7 from rfl, I7.out]) | (rw [show (ByteArray.mk #[39, 34, 96]).data.toList = in8 from rfl, I8.out]))
  go_ret
  exact ⟨rfl, rfl⟩
set_option maxRecDepth 100000 in
theorem ref_Sort_93 (w : World) : Calls Tryd.prog 68 #[.int .u8 ((93 : Nat) : Int)] w (fun e w' => e = .returned (.int .i64 7) ∧ w = w') := by
  have I5 : Hid (inB 93 in5 = false) := Lib.hid (by decide)
  have I6 : Hid (inB 93 in6 = false) := Lib.hid (by decide)
  have I7 : Hid (inB 93 in7 = true) := Lib.hid (by decide)
  have I8 : Hid (inB 93 in8 = false) := Lib.hid (by decide)
  go_enter Tryd.func68, Tryd.ntmps68
  go_wp2_with (go_at_call 79; refine (ref_in _ _ (by decide) _).mono ?_; rintro e1 w1 ⟨rfl, rfl⟩; first | (rw [show (ByteArray.mk #[43, 45, 42, 47, 92, 94, 60, 62, 61, 126, 58, 46, 63, 64, 35, 38, 36]).data.toList = in5 from rfl, I5.out]) | (rw [show (ByteArray.mk #[33, 59]).data.toList = in6 from rfl, I6.out]) | (rw [show (ByteArray.mk #[40, 41, 91, 93, 123, 125, 44, 124, 37]).data.toList = in7 from rfl, I7.out]) | (rw [show (ByteArray.mk #[39, 34, 96]).data.toList = in8 from rfl, I8.out]))
  go_ret
  exact ⟨rfl, rfl⟩
set_option maxRecDepth 100000 in
theorem ref_Sort_123 (w : World) : Calls Tryd.prog 68 #[.int .u8 ((123 : Nat) : Int)] w (fun e w' => e = .returned (.int .i64 7) ∧ w = w') := by
  have I5 : Hid (inB 123 in5 = false) := Lib.hid (by decide)
  have I6 : Hid (inB 123 in6 = false) := Lib.hid (by decide)
  have I7 : Hid (inB 123 in7 = true) := Lib.hid (by decide)
  have I8 : Hid (inB 123 in8 = false) := Lib.hid (by decide)
  go_enter Tryd.func68, Tryd.ntmps68
  go_wp2_with (go_at_call 79; refine (ref_in _ _ (by decide) _).mono ?_; rintro e1 w1 ⟨rfl, rfl⟩; first | (rw [show (ByteArray.mk #[43, 45, 42, 47, 92, 94, 60, 62, 61, 126, 58, 46, 63, 64, 35, 38, 36]).data.toList = in5 from rfl, I5.out]) | (rw [show (ByteArray.mk #[33, 59]).data.toList = in6 from rfl, I6.out]) | (rw [show (ByteArray.mk #[40, 41, 91, 93, 123, 125, 44, 124, 37]).data.toList = in7 from rfl, I7.out]) | (rw [show (ByteArray.mk #[39, 34, 96]).data.toList = in8 from rfl, I8.out]))
  go_ret
  exact ⟨rfl, rfl⟩
set_option maxRecDepth 100000 in
theorem ref_Sort_125 (w : World) : Calls Tryd.prog 68 #[.int .u8 ((125 : Nat) : Int)] w (fun e w' => e = .returned (.int .i64 7) ∧ w = w') := by
  have I5 : Hid (inB 125 in5 = false) := Lib.hid (by decide)
  have I6 : Hid (inB 125 in6 = false) := Lib.hid (by decide)
  have I7 : Hid (inB 125 in7 = true) := Lib.hid (by decide)
  have I8 : Hid (inB 125 in8 = false) := Lib.hid (by decide)
  go_enter Tryd.func68, Tryd.ntmps68
  go_wp2_with (go_at_call 79; refine (ref_in _ _ (by decide) _).mono ?_; rintro e1 w1 ⟨rfl, rfl⟩; first | (rw [show (ByteArray.mk #[43, 45, 42, 47, 92, 94, 60, 62, 61, 126, 58, 46, 63, 64, 35, 38, 36]).data.toList = in5 from rfl, I5.out]) | (rw [show (ByteArray.mk #[33, 59]).data.toList = in6 from rfl, I6.out]) | (rw [show (ByteArray.mk #[40, 41, 91, 93, 123, 125, 44, 124, 37]).data.toList = in7 from rfl, I7.out]) | (rw [show (ByteArray.mk #[39, 34, 96]).data.toList = in8 from rfl, I8.out]))
  go_ret
  exact ⟨rfl, rfl⟩
set_option maxRecDepth 100000 in
theorem ref_Sort_44 (w : World) : Calls Tryd.prog 68 #[.int .u8 ((44 : Nat) : Int)] w (fun e w' => e = .returned (.int .i64 7) ∧ w = w') := by
  have I5 : Hid (inB 44 in5 = false) := Lib.hid (by decide)
  have I6 : Hid (inB 44 in6 = false) := Lib.hid (by decide)
  have I7 : Hid (inB 44 in7 = true) := Lib.hid (by decide)
  have I8 : Hid (inB 44 in8 = false) := Lib.hid (by decide)
  go_enter Tryd.func68, Tryd.ntmps68
  go_wp2_with (go_at_call 79; refine (ref_in _ _ (by decide) _).mono ?_; rintro e1 w1 ⟨rfl, rfl⟩; first | (rw [show (ByteArray.mk #[43, 45, 42, 47, 92, 94, 60, 62, 61, 126, 58, 46, 63, 64, 35, 38, 36]).data.toList = in5 from rfl, I5.out]) | (rw [show (ByteArray.mk #[33, 59]).data.toList = in6 from rfl, I6.out]) | (rw [show (ByteArray.mk #[40, 41, 91, 93, 123, 125, 44, 124, 37]).data.toList = in7 from rfl, I7.out]) | (rw [show (ByteArray.mk #[39, 34, 96]).data.toList = in8 from rfl, I8.out]))
  go_ret
  exact ⟨rfl, rfl⟩
set_option maxRecDepth 100000 in
theorem ref_Sort_124 (w : World) : Calls Tryd.prog 68 #[.int .u8 ((124 : Nat) : Int)] w (fun e w' => e = .returned (.int .i64 7) ∧ w = w') := by
  have I5 : Hid (inB 124 in5 = false) := Lib.hid (by decide)
  have I6 : Hid (inB 124 in6 = false) := Lib.hid (by decide)
  have I7 : Hid (inB 124 in7 = true) := Lib.hid (by decide)
  have I8 : Hid (inB 124 in8 = false) := Lib.hid (by decide)
  go_enter Tryd.func68, Tryd.ntmps68
  go_wp2_with (go_at_call 79; refine (ref_in _ _ (by decide) _).mono ?_; rintro e1 w1 ⟨rfl, rfl⟩; first | (rw [show (ByteArray.mk #[43, 45, 42, 47, 92, 94, 60, 62, 61, 126, 58, 46, 63, 64, 35, 38, 36]).data.toList = in5 from rfl, I5.out]) | (rw [show (ByteArray.mk #[33, 59]).data.toList = in6 from rfl, I6.out]) | (rw [show (ByteArray.mk #[40, 41, 91, 93, 123, 125, 44, 124, 37]).data.toList = in7 from rfl, I7.out]) | (rw [show (ByteArray.mk #[39, 34, 96]).data.toList = in8 from rfl, I8.out]))
  go_ret
  exact ⟨rfl, rfl⟩
set_option maxRecDepth 100000 in
theorem ref_Sort_37 (w : World) : Calls Tryd.prog 68 #[.int .u8 ((37 : Nat) : Int)] w (fun e w' => e = .returned (.int .i64 7) ∧ w = w') := by
  have I5 : Hid (inB 37 in5 = false) := Lib.hid (by decide)
  have I6 : Hid (inB 37 in6 = false) := Lib.hid (by decide)
  have I7 : Hid (inB 37 in7 = true) := Lib.hid (by decide)
  have I8 : Hid (inB 37 in8 = false) := Lib.hid (by decide)
  go_enter Tryd.func68, Tryd.ntmps68
  go_wp2_with (go_at_call 79; refine (ref_in _ _ (by decide) _).mono ?_; rintro e1 w1 ⟨rfl, rfl⟩; first | (rw [show (ByteArray.mk #[43, 45, 42, 47, 92, 94, 60, 62, 61, 126, 58, 46, 63, 64, 35, 38, 36]).data.toList = in5 from rfl, I5.out]) | (rw [show (ByteArray.mk #[33, 59]).data.toList = in6 from rfl, I6.out]) | (rw [show (ByteArray.mk #[40, 41, 91, 93, 123, 125, 44, 124, 37]).data.toList = in7 from rfl, I7.out]) | (rw [show (ByteArray.mk #[39, 34, 96]).data.toList = in8 from rfl, I8.out]))
  go_ret
  exact ⟨rfl, rfl⟩
set_option maxRecDepth 100000 in
theorem ref_Sort_39 (w : World) : Calls Tryd.prog 68 #[.int .u8 ((39 : Nat) : Int)] w (fun e w' => e = .returned (.int .i64 8) ∧ w = w') := by
  have I5 : Hid (inB 39 in5 = false) := Lib.hid (by decide)
  have I6 : Hid (inB 39 in6 = false) := Lib.hid (by decide)
  have I7 : Hid (inB 39 in7 = false) := Lib.hid (by decide)
  have I8 : Hid (inB 39 in8 = true) := Lib.hid (by decide)
  go_enter Tryd.func68, Tryd.ntmps68
  go_wp2_with (go_at_call 79; refine (ref_in _ _ (by decide) _).mono ?_; rintro e1 w1 ⟨rfl, rfl⟩; first | (rw [show (ByteArray.mk #[43, 45, 42, 47, 92, 94, 60, 62, 61, 126, 58, 46, 63, 64, 35, 38, 36]).data.toList = in5 from rfl, I5.out]) | (rw [show (ByteArray.mk #[33, 59]).data.toList = in6 from rfl, I6.out]) | (rw [show (ByteArray.mk #[40, 41, 91, 93, 123, 125, 44, 124, 37]).data.toList = in7 from rfl, I7.out]) | (rw [show (ByteArray.mk #[39, 34, 96]).data.toList = in8 from rfl, I8.out]))
  go_ret
  exact ⟨rfl, rfl⟩
set_option maxRecDepth 100000 in
theorem ref_Sort_34 (w : World) : Calls Tryd.prog 68 #[.int .u8 ((34 : Nat) : Int)] w (fun e w' => e = .returned (.int .i64 8) ∧ w = w') := by
  have I5 : Hid (inB 34 in5 = false) := Lib.hid (by decide)
  have I6 : Hid (inB 34 in6 = false) := Lib.hid (by decide)
  have I7 : Hid (inB 34 in7 = false) := Lib.hid (by decide)
  have I8 : Hid (inB 34 in8 = true) := Lib.hid (by decide)
  go_enter Tryd.func68, Tryd.ntmps68
  go_wp2_with (go_at_call 79; refine (ref_in _ _ (by decide) _).mono ?_; rintro e1 w1 ⟨rfl, rfl⟩; first | (rw [show (ByteArray.mk #[43, 45, 42, 47, 92, 94, 60, 62, 61, 126, 58, 46, 63, 64, 35, 38, 36]).data.toList = in5 from rfl, I5.out]) | (rw [show (ByteArray.mk #[33, 59]).data.toList = in6 from rfl, I6.out]) | (rw [show (ByteArray.mk #[40, 41, 91, 93, 123, 125, 44, 124, 37]).data.toList = in7 from rfl, I7.out]) | (rw [show (ByteArray.mk #[39, 34, 96]).data.toList = in8 from rfl, I8.out]))
  go_ret
  exact ⟨rfl, rfl⟩
set_option maxRecDepth 100000 in
theorem ref_Sort_96 (w : World) : Calls Tryd.prog 68 #[.int .u8 ((96 : Nat) : Int)] w (fun e w' => e = .returned (.int .i64 8) ∧ w = w') := by
  have I5 : Hid (inB 96 in5 = false) := Lib.hid (by decide)
  have I6 : Hid (inB 96 in6 = false) := Lib.hid (by decide)
  have I7 : Hid (inB 96 in7 = false) := Lib.hid (by decide)
  have I8 : Hid (inB 96 in8 = true) := Lib.hid (by decide)
  go_enter Tryd.func68, Tryd.ntmps68
  go_wp2_with (go_at_call 79; refine (ref_in _ _ (by decide) _).mono ?_; rintro e1 w1 ⟨rfl, rfl⟩; first | (rw [show (ByteArray.mk #[43, 45, 42, 47, 92, 94, 60, 62, 61, 126, 58, 46, 63, 64, 35, 38, 36]).data.toList = in5 from rfl, I5.out]) | (rw [show (ByteArray.mk #[33, 59]).data.toList = in6 from rfl, I6.out]) | (rw [show (ByteArray.mk #[40, 41, 91, 93, 123, 125, 44, 124, 37]).data.toList = in7 from rfl, I7.out]) | (rw [show (ByteArray.mk #[39, 34, 96]).data.toList = in8 from rfl, I8.out]))
  go_ret
  exact ⟨rfl, rfl⟩
theorem ref_Sort_any (n : Nat) (h : n < 256) (w : World) : Calls Tryd.prog 68 #[.int .u8 n] w (fun e w' => e = .returned (.int .i64 (sortN n)) ∧ w = w') := by
  rcases (by omega : (0 ≤ n ∧ n ≤ 8) ∨ (9 ≤ n ∧ n ≤ 13) ∨ (14 ≤ n ∧ n ≤ 31) ∨ n = 32 ∨ (48 ≤ n ∧ n ≤ 57) ∨ (65 ≤ n ∧ n ≤ 90) ∨ n = 95 ∨ (97 ≤ n ∧ n ≤ 122) ∨ (127 ≤ n ∧ n ≤ 255) ∨ n = 43 ∨ n = 45 ∨ n = 42 ∨ n = 47 ∨ n = 92 ∨ n = 94 ∨ n = 60 ∨ n = 62 ∨ n = 61 ∨ n = 126 ∨ n = 58 ∨ n = 46 ∨ n = 63 ∨ n = 64 ∨ n = 35 ∨ n = 38 ∨ n = 36 ∨ n = 33 ∨ n = 59 ∨ n = 40 ∨ n = 41 ∨ n = 91 ∨ n = 93 ∨ n = 123 ∨ n = 125 ∨ n = 44 ∨ n = 124 ∨ n = 37 ∨ n = 39 ∨ n = 34 ∨ n = 96) with ⟨h0, h1⟩ | ⟨h0, h1⟩ | ⟨h0, h1⟩ | rfl | ⟨h0, h1⟩ | ⟨h0, h1⟩ | rfl | ⟨h0, h1⟩ | ⟨h0, h1⟩ | rfl | rfl | rfl | rfl | rfl | rfl | rfl | rfl | rfl | rfl | rfl | rfl | rfl | rfl | rfl | rfl | rfl | rfl | rfl | rfl | rfl | rfl | rfl | rfl | rfl | rfl | rfl | rfl | rfl | rfl | rfl
  · rw [show sortN n = 0 from sort_r0 n h0 h1]; exact ref_Sort_r0 n h0 h1 w
  · rw [show sortN n = 1 from sort_r9 n h0 h1]; exact ref_Sort_r9 n h0 h1 w
  · rw [show sortN n = 0 from sort_r14 n h0 h1]; exact ref_Sort_r14 n h0 h1 w
  · exact ref_Sort_32 w
  · rw [show sortN n = 4 from sort_r48 n h0 h1]; exact ref_Sort_r48 n h0 h1 w
  · rw [show sortN n = 3 from sort_r65 n h0 h1]; exact ref_Sort_r65 n h0 h1 w
  · exact ref_Sort_95 w
  · rw [show sortN n = 2 from sort_r97 n h0 h1]; exact ref_Sort_r97 n h0 h1 w
  · rw [show sortN n = 0 from sort_r127 n h0 h1]; exact ref_Sort_r127 n h0 h1 w
  · exact ref_Sort_43 w
  · exact ref_Sort_45 w
  · exact ref_Sort_42 w
  · exact ref_Sort_47 w
  · exact ref_Sort_92 w
  · exact ref_Sort_94 w
  · exact ref_Sort_60 w
  · exact ref_Sort_62 w
  · exact ref_Sort_61 w
  · exact ref_Sort_126 w
  · exact ref_Sort_58 w
  · exact ref_Sort_46 w
  · exact ref_Sort_63 w
  · exact ref_Sort_64 w
  · exact ref_Sort_35 w
  · exact ref_Sort_38 w
  · exact ref_Sort_36 w
  · exact ref_Sort_33 w
  · exact ref_Sort_59 w
  · exact ref_Sort_40 w
  · exact ref_Sort_41 w
  · exact ref_Sort_91 w
  · exact ref_Sort_93 w
  · exact ref_Sort_123 w
  · exact ref_Sort_125 w
  · exact ref_Sort_44 w
  · exact ref_Sort_124 w
  · exact ref_Sort_37 w
  · exact ref_Sort_39 w
  · exact ref_Sort_34 w
  · exact ref_Sort_96 w
theorem ref_Sort (c : UInt8) (w : World) : Calls Tryd.prog 68 #[.int .u8 c.toNat] w (fun e w' => e = .returned (.int .i64 (sort c)) ∧ w = w') := ref_Sort_any c.toNat c.toNat_lt w
end Go.Proofs.YtkhchmgdaolojaaDoor.Nam
