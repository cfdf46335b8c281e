
/-
  Layer 2: a byte's sort, the program's and the reference's, walked over the program (printed by gen_naa.py).
-/
import Derived.Test.YtohfgfmekciekaaDoorReg
import Derived.Test.YtohfgfmekciekaaDoorBas
import Derived.Test.YtohfgfmekciekaaDoorProg
import Derived.Test.YtohfgfmekciekaaDoorNaP
import Derived.IntWalk
import Derived.Lib.Hide
import Derived.Deep.QuietTactic
import Derived.BigQuiet
namespace Go.Proofs.YtohfgfmekciekaaDoor.Nam
open Go Go.RowKit Go.Proofs.YtohfgfmekciekaaDoor.Reg
set_option linter.unusedVariables false
set_option linter.unusedSimpArgs false

theorem ret_int {k : IntKind} {a b : Int} (h : a = b) : Ending.returned (.int k a) = .returned (.int k b) := by rw [h]
theorem ret_bool {a b : Bool} (h : a = b) : Ending.returned (.bool a) = .returned (.bool b) := by rw [h]
theorem sort_r0 : ∀ n : Nat, 0 ≤ n → n ≤ 8 → sortN n = 0 := by
  have h : ∀ i, i < 9 → sortN (i + 0) = 0 := by decide
  intro n h0 h1
  have := h (n - 0) (by omega)
  rwa [show n - 0 + 0 = n by omega] at this
theorem sort_r9 : ∀ n : Nat, 9 ≤ n → n ≤ 13 → sortN n = 1 := by
  have h : ∀ i, i < 5 → sortN (i + 9) = 1 := by decide
  intro n h0 h1
  have := h (n - 9) (by omega)
  rwa [show n - 9 + 9 = n by omega] at this
theorem sort_r14 : ∀ n : Nat, 14 ≤ n → n ≤ 31 → sortN n = 0 := by
  have h : ∀ i, i < 18 → sortN (i + 14) = 0 := by decide
  intro n h0 h1
  have := h (n - 14) (by omega)
  rwa [show n - 14 + 14 = n by omega] at this
theorem sort_r48 : ∀ n : Nat, 48 ≤ n → n ≤ 57 → sortN n = 4 := by
  have h : ∀ i, i < 10 → sortN (i + 48) = 4 := by decide
  intro n h0 h1
  have := h (n - 48) (by omega)
  rwa [show n - 48 + 48 = n by omega] at this
theorem sort_r65 : ∀ n : Nat, 65 ≤ n → n ≤ 90 → sortN n = 3 := by
  have h : ∀ i, i < 26 → sortN (i + 65) = 3 := by decide
  intro n h0 h1
  have := h (n - 65) (by omega)
  rwa [show n - 65 + 65 = n by omega] at this
theorem sort_r97 : ∀ n : Nat, 97 ≤ n → n ≤ 122 → sortN n = 2 := by
  have h : ∀ i, i < 26 → sortN (i + 97) = 2 := by decide
  intro n h0 h1
  have := h (n - 97) (by omega)
  rwa [show n - 97 + 97 = n by omega] at this
theorem sort_r127 : ∀ n : Nat, 127 ≤ n → n ≤ 255 → sortN n = 0 := by
  have h : ∀ i, i < 129 → sortN (i + 127) = 0 := by decide
  intro n h0 h1
  have := h (n - 127) (by omega)
  rwa [show n - 127 + 127 = n by omega] at this
set_option maxRecDepth 100000 in
theorem go_Sort_r0 (n : Nat) (h0 : 0 ≤ (n : Int)) (h1 : (n : Int) ≤ 8) (w : World) : Calls Tryd.prog 10 #[.int .u8 n] w (fun e w' => e = .returned (.int .i64 0) ∧ w = w') := by
  have q43 : ((n : Int) == 43) = false := by simp; omega
  have q45 : ((n : Int) == 45) = false := by simp; omega
  have q42 : ((n : Int) == 42) = false := by simp; omega
  have q47 : ((n : Int) == 47) = false := by simp; omega
  have q92 : ((n : Int) == 92) = false := by simp; omega
  have q94 : ((n : Int) == 94) = false := by simp; omega
  have q60 : ((n : Int) == 60) = false := by simp; omega
  have q62 : ((n : Int) == 62) = false := by simp; omega
  have q61 : ((n : Int) == 61) = false := by simp; omega
  have q126 : ((n : Int) == 126) = false := by simp; omega
  have q58 : ((n : Int) == 58) = false := by simp; omega
  have q46 : ((n : Int) == 46) = false := by simp; omega
  have q63 : ((n : Int) == 63) = false := by simp; omega
  have q64 : ((n : Int) == 64) = false := by simp; omega
  have q35 : ((n : Int) == 35) = false := by simp; omega
  have q38 : ((n : Int) == 38) = false := by simp; omega
  have q36 : ((n : Int) == 36) = false := by simp; omega
  have q33 : ((n : Int) == 33) = false := by simp; omega
  have q59 : ((n : Int) == 59) = false := by simp; omega
  have q40 : ((n : Int) == 40) = false := by simp; omega
  have q41 : ((n : Int) == 41) = false := by simp; omega
  have q91 : ((n : Int) == 91) = false := by simp; omega
  have q93 : ((n : Int) == 93) = false := by simp; omega
  have q123 : ((n : Int) == 123) = false := by simp; omega
  have q125 : ((n : Int) == 125) = false := by simp; omega
  have q44 : ((n : Int) == 44) = false := by simp; omega
  have q124 : ((n : Int) == 124) = false := by simp; omega
  have q37 : ((n : Int) == 37) = false := by simp; omega
  have q39 : ((n : Int) == 39) = false := by simp; omega
  have q34 : ((n : Int) == 34) = false := by simp; omega
  have q96 : ((n : Int) == 96) = false := by simp; omega
  have q32 : ((n : Int) == 32) = false := by simp; omega
  have q95 : ((n : Int) == 95) = false := by simp; omega
  go_enter Tryd.func10, Tryd.ntmps10
  go_wp2
  go_ret
  exact ⟨rfl, rfl⟩
set_option maxRecDepth 100000 in
theorem go_Sort_r9 (n : Nat) (h0 : 9 ≤ (n : Int)) (h1 : (n : Int) ≤ 13) (w : World) : Calls Tryd.prog 10 #[.int .u8 n] w (fun e w' => e = .returned (.int .i64 1) ∧ w = w') := by
  have q43 : ((n : Int) == 43) = false := by simp; omega
  have q45 : ((n : Int) == 45) = false := by simp; omega
  have q42 : ((n : Int) == 42) = false := by simp; omega
  have q47 : ((n : Int) == 47) = false := by simp; omega
  have q92 : ((n : Int) == 92) = false := by simp; omega
  have q94 : ((n : Int) == 94) = false := by simp; omega
  have q60 : ((n : Int) == 60) = false := by simp; omega
  have q62 : ((n : Int) == 62) = false := by simp; omega
  have q61 : ((n : Int) == 61) = false := by simp; omega
  have q126 : ((n : Int) == 126) = false := by simp; omega
  have q58 : ((n : Int) == 58) = false := by simp; omega
  have q46 : ((n : Int) == 46) = false := by simp; omega
  have q63 : ((n : Int) == 63) = false := by simp; omega
  have q64 : ((n : Int) == 64) = false := by simp; omega
  have q35 : ((n : Int) == 35) = false := by simp; omega
  have q38 : ((n : Int) == 38) = false := by simp; omega
  have q36 : ((n : Int) == 36) = false := by simp; omega
  have q33 : ((n : Int) == 33) = false := by simp; omega
  have q59 : ((n : Int) == 59) = false := by simp; omega
  have q40 : ((n : Int) == 40) = false := by simp; omega
  have q41 : ((n : Int) == 41) = false := by simp; omega
  have q91 : ((n : Int) == 91) = false := by simp; omega
  have q93 : ((n : Int) == 93) = false := by simp; omega
  have q123 : ((n : Int) == 123) = false := by simp; omega
  have q125 : ((n : Int) == 125) = false := by simp; omega
  have q44 : ((n : Int) == 44) = false := by simp; omega
  have q124 : ((n : Int) == 124) = false := by simp; omega
  have q37 : ((n : Int) == 37) = false := by simp; omega
  have q39 : ((n : Int) == 39) = false := by simp; omega
  have q34 : ((n : Int) == 34) = false := by simp; omega
  have q96 : ((n : Int) == 96) = false := by simp; omega
  have q32 : ((n : Int) == 32) = false := by simp; omega
  have q95 : ((n : Int) == 95) = false := by simp; omega
  go_enter Tryd.func10, Tryd.ntmps10
  go_wp2
  go_ret
  exact ⟨rfl, rfl⟩
set_option maxRecDepth 100000 in
theorem go_Sort_r14 (n : Nat) (h0 : 14 ≤ (n : Int)) (h1 : (n : Int) ≤ 31) (w : World) : Calls Tryd.prog 10 #[.int .u8 n] w (fun e w' => e = .returned (.int .i64 0) ∧ w = w') := by
  have q43 : ((n : Int) == 43) = false := by simp; omega
  have q45 : ((n : Int) == 45) = false := by simp; omega
  have q42 : ((n : Int) == 42) = false := by simp; omega
  have q47 : ((n : Int) == 47) = false := by simp; omega
  have q92 : ((n : Int) == 92) = false := by simp; omega
  have q94 : ((n : Int) == 94) = false := by simp; omega
  have q60 : ((n : Int) == 60) = false := by simp; omega
  have q62 : ((n : Int) == 62) = false := by simp; omega
  have q61 : ((n : Int) == 61) = false := by simp; omega
  have q126 : ((n : Int) == 126) = false := by simp; omega
  have q58 : ((n : Int) == 58) = false := by simp; omega
  have q46 : ((n : Int) == 46) = false := by simp; omega
  have q63 : ((n : Int) == 63) = false := by simp; omega
  have q64 : ((n : Int) == 64) = false := by simp; omega
  have q35 : ((n : Int) == 35) = false := by simp; omega
  have q38 : ((n : Int) == 38) = false := by simp; omega
  have q36 : ((n : Int) == 36) = false := by simp; omega
  have q33 : ((n : Int) == 33) = false := by simp; omega
  have q59 : ((n : Int) == 59) = false := by simp; omega
  have q40 : ((n : Int) == 40) = false := by simp; omega
  have q41 : ((n : Int) == 41) = false := by simp; omega
  have q91 : ((n : Int) == 91) = false := by simp; omega
  have q93 : ((n : Int) == 93) = false := by simp; omega
  have q123 : ((n : Int) == 123) = false := by simp; omega
  have q125 : ((n : Int) == 125) = false := by simp; omega
  have q44 : ((n : Int) == 44) = false := by simp; omega
  have q124 : ((n : Int) == 124) = false := by simp; omega
  have q37 : ((n : Int) == 37) = false := by simp; omega
  have q39 : ((n : Int) == 39) = false := by simp; omega
  have q34 : ((n : Int) == 34) = false := by simp; omega
  have q96 : ((n : Int) == 96) = false := by simp; omega
  have q32 : ((n : Int) == 32) = false := by simp; omega
  have q95 : ((n : Int) == 95) = false := by simp; omega
  go_enter Tryd.func10, Tryd.ntmps10
  go_wp2
  go_ret
  exact ⟨rfl, rfl⟩
set_option maxRecDepth 100000 in
theorem go_Sort_32 (w : World) : Calls Tryd.prog 10 #[.int .u8 32] w (fun e w' => e = .returned (.int .i64 1) ∧ w = w') := by
  go_enter Tryd.func10, Tryd.ntmps10
  go_wp2
  go_ret
  exact ⟨rfl, rfl⟩
set_option maxRecDepth 100000 in
theorem go_Sort_r48 (n : Nat) (h0 : 48 ≤ (n : Int)) (h1 : (n : Int) ≤ 57) (w : World) : Calls Tryd.prog 10 #[.int .u8 n] w (fun e w' => e = .returned (.int .i64 4) ∧ w = w') := by
  have q43 : ((n : Int) == 43) = false := by simp; omega
  have q45 : ((n : Int) == 45) = false := by simp; omega
  have q42 : ((n : Int) == 42) = false := by simp; omega
  have q47 : ((n : Int) == 47) = false := by simp; omega
  have q92 : ((n : Int) == 92) = false := by simp; omega
  have q94 : ((n : Int) == 94) = false := by simp; omega
  have q60 : ((n : Int) == 60) = false := by simp; omega
  have q62 : ((n : Int) == 62) = false := by simp; omega
  have q61 : ((n : Int) == 61) = false := by simp; omega
  have q126 : ((n : Int) == 126) = false := by simp; omega
  have q58 : ((n : Int) == 58) = false := by simp; omega
  have q46 : ((n : Int) == 46) = false := by simp; omega
  have q63 : ((n : Int) == 63) = false := by simp; omega
  have q64 : ((n : Int) == 64) = false := by simp; omega
  have q35 : ((n : Int) == 35) = false := by simp; omega
  have q38 : ((n : Int) == 38) = false := by simp; omega
  have q36 : ((n : Int) == 36) = false := by simp; omega
  have q33 : ((n : Int) == 33) = false := by simp; omega
  have q59 : ((n : Int) == 59) = false := by simp; omega
  have q40 : ((n : Int) == 40) = false := by simp; omega
  have q41 : ((n : Int) == 41) = false := by simp; omega
  have q91 : ((n : Int) == 91) = false := by simp; omega
  have q93 : ((n : Int) == 93) = false := by simp; omega
  have q123 : ((n : Int) == 123) = false := by simp; omega
  have q125 : ((n : Int) == 125) = false := by simp; omega
  have q44 : ((n : Int) == 44) = false := by simp; omega
  have q124 : ((n : Int) == 124) = false := by simp; omega
  have q37 : ((n : Int) == 37) = false := by simp; omega
  have q39 : ((n : Int) == 39) = false := by simp; omega
  have q34 : ((n : Int) == 34) = false := by simp; omega
  have q96 : ((n : Int) == 96) = false := by simp; omega
  have q32 : ((n : Int) == 32) = false := by simp; omega
  have q95 : ((n : Int) == 95) = false := by simp; omega
  go_enter Tryd.func10, Tryd.ntmps10
  go_wp2
  go_ret
  exact ⟨rfl, rfl⟩
set_option maxRecDepth 100000 in
theorem go_Sort_r65 (n : Nat) (h0 : 65 ≤ (n : Int)) (h1 : (n : Int) ≤ 90) (w : World) : Calls Tryd.prog 10 #[.int .u8 n] w (fun e w' => e = .returned (.int .i64 3) ∧ w = w') := by
  have q43 : ((n : Int) == 43) = false := by simp; omega
  have q45 : ((n : Int) == 45) = false := by simp; omega
  have q42 : ((n : Int) == 42) = false := by simp; omega
  have q47 : ((n : Int) == 47) = false := by simp; omega
  have q92 : ((n : Int) == 92) = false := by simp; omega
  have q94 : ((n : Int) == 94) = false := by simp; omega
  have q60 : ((n : Int) == 60) = false := by simp; omega
  have q62 : ((n : Int) == 62) = false := by simp; omega
  have q61 : ((n : Int) == 61) = false := by simp; omega
  have q126 : ((n : Int) == 126) = false := by simp; omega
  have q58 : ((n : Int) == 58) = false := by simp; omega
  have q46 : ((n : Int) == 46) = false := by simp; omega
  have q63 : ((n : Int) == 63) = false := by simp; omega
  have q64 : ((n : Int) == 64) = false := by simp; omega
  have q35 : ((n : Int) == 35) = false := by simp; omega
  have q38 : ((n : Int) == 38) = false := by simp; omega
  have q36 : ((n : Int) == 36) = false := by simp; omega
  have q33 : ((n : Int) == 33) = false := by simp; omega
  have q59 : ((n : Int) == 59) = false := by simp; omega
  have q40 : ((n : Int) == 40) = false := by simp; omega
  have q41 : ((n : Int) == 41) = false := by simp; omega
  have q91 : ((n : Int) == 91) = false := by simp; omega
  have q93 : ((n : Int) == 93) = false := by simp; omega
  have q123 : ((n : Int) == 123) = false := by simp; omega
  have q125 : ((n : Int) == 125) = false := by simp; omega
  have q44 : ((n : Int) == 44) = false := by simp; omega
  have q124 : ((n : Int) == 124) = false := by simp; omega
  have q37 : ((n : Int) == 37) = false := by simp; omega
  have q39 : ((n : Int) == 39) = false := by simp; omega
  have q34 : ((n : Int) == 34) = false := by simp; omega
  have q96 : ((n : Int) == 96) = false := by simp; omega
  have q32 : ((n : Int) == 32) = false := by simp; omega
  have q95 : ((n : Int) == 95) = false := by simp; omega
  go_enter Tryd.func10, Tryd.ntmps10
  go_wp2
  go_ret
  exact ⟨rfl, rfl⟩
set_option maxRecDepth 100000 in
theorem go_Sort_95 (w : World) : Calls Tryd.prog 10 #[.int .u8 95] w (fun e w' => e = .returned (.int .i64 3) ∧ w = w') := by
  go_enter Tryd.func10, Tryd.ntmps10
  go_wp2
  go_ret
  exact ⟨rfl, rfl⟩
set_option maxRecDepth 100000 in
theorem go_Sort_r97 (n : Nat) (h0 : 97 ≤ (n : Int)) (h1 : (n : Int) ≤ 122) (w : World) : Calls Tryd.prog 10 #[.int .u8 n] w (fun e w' => e = .returned (.int .i64 2) ∧ w = w') := by
  have q43 : ((n : Int) == 43) = false := by simp; omega
  have q45 : ((n : Int) == 45) = false := by simp; omega
  have q42 : ((n : Int) == 42) = false := by simp; omega
  have q47 : ((n : Int) == 47) = false := by simp; omega
  have q92 : ((n : Int) == 92) = false := by simp; omega
  have q94 : ((n : Int) == 94) = false := by simp; omega
  have q60 : ((n : Int) == 60) = false := by simp; omega
  have q62 : ((n : Int) == 62) = false := by simp; omega
  have q61 : ((n : Int) == 61) = false := by simp; omega
  have q126 : ((n : Int) == 126) = false := by simp; omega
  have q58 : ((n : Int) == 58) = false := by simp; omega
  have q46 : ((n : Int) == 46) = false := by simp; omega
  have q63 : ((n : Int) == 63) = false := by simp; omega
  have q64 : ((n : Int) == 64) = false := by simp; omega
  have q35 : ((n : Int) == 35) = false := by simp; omega
  have q38 : ((n : Int) == 38) = false := by simp; omega
  have q36 : ((n : Int) == 36) = false := by simp; omega
  have q33 : ((n : Int) == 33) = false := by simp; omega
  have q59 : ((n : Int) == 59) = false := by simp; omega
  have q40 : ((n : Int) == 40) = false := by simp; omega
  have q41 : ((n : Int) == 41) = false := by simp; omega
  have q91 : ((n : Int) == 91) = false := by simp; omega
  have q93 : ((n : Int) == 93) = false := by simp; omega
  have q123 : ((n : Int) == 123) = false := by simp; omega
  have q125 : ((n : Int) == 125) = false := by simp; omega
  have q44 : ((n : Int) == 44) = false := by simp; omega
  have q124 : ((n : Int) == 124) = false := by simp; omega
  have q37 : ((n : Int) == 37) = false := by simp; omega
  have q39 : ((n : Int) == 39) = false := by simp; omega
  have q34 : ((n : Int) == 34) = false := by simp; omega
  have q96 : ((n : Int) == 96) = false := by simp; omega
  have q32 : ((n : Int) == 32) = false := by simp; omega
  have q95 : ((n : Int) == 95) = false := by simp; omega
  go_enter Tryd.func10, Tryd.ntmps10
  go_wp2
  go_ret
  exact ⟨rfl, rfl⟩
set_option maxRecDepth 100000 in
theorem go_Sort_r127 (n : Nat) (h0 : 127 ≤ (n : Int)) (h1 : (n : Int) ≤ 255) (w : World) : Calls Tryd.prog 10 #[.int .u8 n] w (fun e w' => e = .returned (.int .i64 0) ∧ w = w') := by
  have q43 : ((n : Int) == 43) = false := by simp; omega
  have q45 : ((n : Int) == 45) = false := by simp; omega
  have q42 : ((n : Int) == 42) = false := by simp; omega
  have q47 : ((n : Int) == 47) = false := by simp; omega
  have q92 : ((n : Int) == 92) = false := by simp; omega
  have q94 : ((n : Int) == 94) = false := by simp; omega
  have q60 : ((n : Int) == 60) = false := by simp; omega
  have q62 : ((n : Int) == 62) = false := by simp; omega
  have q61 : ((n : Int) == 61) = false := by simp; omega
  have q126 : ((n : Int) == 126) = false := by simp; omega
  have q58 : ((n : Int) == 58) = false := by simp; omega
  have q46 : ((n : Int) == 46) = false := by simp; omega
  have q63 : ((n : Int) == 63) = false := by simp; omega
  have q64 : ((n : Int) == 64) = false := by simp; omega
  have q35 : ((n : Int) == 35) = false := by simp; omega
  have q38 : ((n : Int) == 38) = false := by simp; omega
  have q36 : ((n : Int) == 36) = false := by simp; omega
  have q33 : ((n : Int) == 33) = false := by simp; omega
  have q59 : ((n : Int) == 59) = false := by simp; omega
  have q40 : ((n : Int) == 40) = false := by simp; omega
  have q41 : ((n : Int) == 41) = false := by simp; omega
  have q91 : ((n : Int) == 91) = false := by simp; omega
  have q93 : ((n : Int) == 93) = false := by simp; omega
  have q123 : ((n : Int) == 123) = false := by simp; omega
  have q125 : ((n : Int) == 125) = false := by simp; omega
  have q44 : ((n : Int) == 44) = false := by simp; omega
  have q124 : ((n : Int) == 124) = false := by simp; omega
  have q37 : ((n : Int) == 37) = false := by simp; omega
  have q39 : ((n : Int) == 39) = false := by simp; omega
  have q34 : ((n : Int) == 34) = false := by simp; omega
  have q96 : ((n : Int) == 96) = false := by simp; omega
  have q32 : ((n : Int) == 32) = false := by simp; omega
  have q95 : ((n : Int) == 95) = false := by simp; omega
  go_enter Tryd.func10, Tryd.ntmps10
  go_wp2
  go_ret
  exact ⟨rfl, rfl⟩
set_option maxRecDepth 100000 in
theorem go_Sort_43 (w : World) : Calls Tryd.prog 10 #[.int .u8 43] w (fun e w' => e = .returned (.int .i64 5) ∧ w = w') := by
  go_enter Tryd.func10, Tryd.ntmps10
  go_wp2
  go_ret
  exact ⟨rfl, rfl⟩
set_option maxRecDepth 100000 in
theorem go_Sort_45 (w : World) : Calls Tryd.prog 10 #[.int .u8 45] w (fun e w' => e = .returned (.int .i64 5) ∧ w = w') := by
  go_enter Tryd.func10, Tryd.ntmps10
  go_wp2
  go_ret
  exact ⟨rfl, rfl⟩
set_option maxRecDepth 100000 in
theorem go_Sort_42 (w : World) : Calls Tryd.prog 10 #[.int .u8 42] w (fun e w' => e = .returned (.int .i64 5) ∧ w = w') := by
  go_enter Tryd.func10, Tryd.ntmps10
  go_wp2
  go_ret
  exact ⟨rfl, rfl⟩
set_option maxRecDepth 100000 in
theorem go_Sort_47 (w : World) : Calls Tryd.prog 10 #[.int .u8 47] w (fun e w' => e = .returned (.int .i64 5) ∧ w = w') := by
  go_enter Tryd.func10, Tryd.ntmps10
  go_wp2
  go_ret
  exact ⟨rfl, rfl⟩
set_option maxRecDepth 100000 in
theorem go_Sort_92 (w : World) : Calls Tryd.prog 10 #[.int .u8 92] w (fun e w' => e = .returned (.int .i64 5) ∧ w = w') := by
  go_enter Tryd.func10, Tryd.ntmps10
  go_wp2
  go_ret
  exact ⟨rfl, rfl⟩
set_option maxRecDepth 100000 in
theorem go_Sort_94 (w : World) : Calls Tryd.prog 10 #[.int .u8 94] w (fun e w' => e = .returned (.int .i64 5) ∧ w = w') := by
  go_enter Tryd.func10, Tryd.ntmps10
  go_wp2
  go_ret
  exact ⟨rfl, rfl⟩
set_option maxRecDepth 100000 in
theorem go_Sort_60 (w : World) : Calls Tryd.prog 10 #[.int .u8 60] w (fun e w' => e = .returned (.int .i64 5) ∧ w = w') := by
  go_enter Tryd.func10, Tryd.ntmps10
  go_wp2
  go_ret
  exact ⟨rfl, rfl⟩
set_option maxRecDepth 100000 in
theorem go_Sort_62 (w : World) : Calls Tryd.prog 10 #[.int .u8 62] w (fun e w' => e = .returned (.int .i64 5) ∧ w = w') := by
  go_enter Tryd.func10, Tryd.ntmps10
  go_wp2
  go_ret
  exact ⟨rfl, rfl⟩
set_option maxRecDepth 100000 in
theorem go_Sort_61 (w : World) : Calls Tryd.prog 10 #[.int .u8 61] w (fun e w' => e = .returned (.int .i64 5) ∧ w = w') := by
  go_enter Tryd.func10, Tryd.ntmps10
  go_wp2
  go_ret
  exact ⟨rfl, rfl⟩
set_option maxRecDepth 100000 in
theorem go_Sort_126 (w : World) : Calls Tryd.prog 10 #[.int .u8 126] w (fun e w' => e = .returned (.int .i64 5) ∧ w = w') := by
  go_enter Tryd.func10, Tryd.ntmps10
  go_wp2
  go_ret
  exact ⟨rfl, rfl⟩
set_option maxRecDepth 100000 in
theorem go_Sort_58 (w : World) : Calls Tryd.prog 10 #[.int .u8 58] w (fun e w' => e = .returned (.int .i64 5) ∧ w = w') := by
  go_enter Tryd.func10, Tryd.ntmps10
  go_wp2
  go_ret
  exact ⟨rfl, rfl⟩
set_option maxRecDepth 100000 in
theorem go_Sort_46 (w : World) : Calls Tryd.prog 10 #[.int .u8 46] w (fun e w' => e = .returned (.int .i64 5) ∧ w = w') := by
  go_enter Tryd.func10, Tryd.ntmps10
  go_wp2
  go_ret
  exact ⟨rfl, rfl⟩
set_option maxRecDepth 100000 in
theorem go_Sort_63 (w : World) : Calls Tryd.prog 10 #[.int .u8 63] w (fun e w' => e = .returned (.int .i64 5) ∧ w = w') := by
  go_enter Tryd.func10, Tryd.ntmps10
  go_wp2
  go_ret
  exact ⟨rfl, rfl⟩
set_option maxRecDepth 100000 in
theorem go_Sort_64 (w : World) : Calls Tryd.prog 10 #[.int .u8 64] w (fun e w' => e = .returned (.int .i64 5) ∧ w = w') := by
  go_enter Tryd.func10, Tryd.ntmps10
  go_wp2
  go_ret
  exact ⟨rfl, rfl⟩
set_option maxRecDepth 100000 in
theorem go_Sort_35 (w : World) : Calls Tryd.prog 10 #[.int .u8 35] w (fun e w' => e = .returned (.int .i64 5) ∧ w = w') := by
  go_enter Tryd.func10, Tryd.ntmps10
  go_wp2
  go_ret
  exact ⟨rfl, rfl⟩
set_option maxRecDepth 100000 in
theorem go_Sort_38 (w : World) : Calls Tryd.prog 10 #[.int .u8 38] w (fun e w' => e = .returned (.int .i64 5) ∧ w = w') := by
  go_enter Tryd.func10, Tryd.ntmps10
  go_wp2
  go_ret
  exact ⟨rfl, rfl⟩
set_option maxRecDepth 100000 in
theorem go_Sort_36 (w : World) : Calls Tryd.prog 10 #[.int .u8 36] w (fun e w' => e = .returned (.int .i64 5) ∧ w = w') := by
  go_enter Tryd.func10, Tryd.ntmps10
  go_wp2
  go_ret
  exact ⟨rfl, rfl⟩
set_option maxRecDepth 100000 in
theorem go_Sort_33 (w : World) : Calls Tryd.prog 10 #[.int .u8 33] w (fun e w' => e = .returned (.int .i64 6) ∧ w = w') := by
  go_enter Tryd.func10, Tryd.ntmps10
  go_wp2
  go_ret
  exact ⟨rfl, rfl⟩
set_option maxRecDepth 100000 in
theorem go_Sort_59 (w : World) : Calls Tryd.prog 10 #[.int .u8 59] w (fun e w' => e = .returned (.int .i64 6) ∧ w = w') := by
  go_enter Tryd.func10, Tryd.ntmps10
  go_wp2
  go_ret
  exact ⟨rfl, rfl⟩
set_option maxRecDepth 100000 in
theorem go_Sort_40 (w : World) : Calls Tryd.prog 10 #[.int .u8 40] w (fun e w' => e = .returned (.int .i64 7) ∧ w = w') := by
  go_enter Tryd.func10, Tryd.ntmps10
  go_wp2
  go_ret
  exact ⟨rfl, rfl⟩
set_option maxRecDepth 100000 in
theorem go_Sort_41 (w : World) : Calls Tryd.prog 10 #[.int .u8 41] w (fun e w' => e = .returned (.int .i64 7) ∧ w = w') := by
  go_enter Tryd.func10, Tryd.ntmps10
  go_wp2
  go_ret
  exact ⟨rfl, rfl⟩
set_option maxRecDepth 100000 in
theorem go_Sort_91 (w : World) : Calls Tryd.prog 10 #[.int .u8 91] w (fun e w' => e = .returned (.int .i64 7) ∧ w = w') := by
  go_enter Tryd.func10, Tryd.ntmps10
  go_wp2
  go_ret
  exact ⟨rfl, rfl⟩
set_option maxRecDepth 100000 in
theorem go_Sort_93 (w : World) : Calls Tryd.prog 10 #[.int .u8 93] w (fun e w' => e = .returned (.int .i64 7) ∧ w = w') := by
  go_enter Tryd.func10, Tryd.ntmps10
  go_wp2
  go_ret
  exact ⟨rfl, rfl⟩
set_option maxRecDepth 100000 in
theorem go_Sort_123 (w : World) : Calls Tryd.prog 10 #[.int .u8 123] w (fun e w' => e = .returned (.int .i64 7) ∧ w = w') := by
  go_enter Tryd.func10, Tryd.ntmps10
  go_wp2
  go_ret
  exact ⟨rfl, rfl⟩
set_option maxRecDepth 100000 in
theorem go_Sort_125 (w : World) : Calls Tryd.prog 10 #[.int .u8 125] w (fun e w' => e = .returned (.int .i64 7) ∧ w = w') := by
  go_enter Tryd.func10, Tryd.ntmps10
  go_wp2
  go_ret
  exact ⟨rfl, rfl⟩
set_option maxRecDepth 100000 in
theorem go_Sort_44 (w : World) : Calls Tryd.prog 10 #[.int .u8 44] w (fun e w' => e = .returned (.int .i64 7) ∧ w = w') := by
  go_enter Tryd.func10, Tryd.ntmps10
  go_wp2
  go_ret
  exact ⟨rfl, rfl⟩
set_option maxRecDepth 100000 in
theorem go_Sort_124 (w : World) : Calls Tryd.prog 10 #[.int .u8 124] w (fun e w' => e = .returned (.int .i64 7) ∧ w = w') := by
  go_enter Tryd.func10, Tryd.ntmps10
  go_wp2
  go_ret
  exact ⟨rfl, rfl⟩
set_option maxRecDepth 100000 in
theorem go_Sort_37 (w : World) : Calls Tryd.prog 10 #[.int .u8 37] w (fun e w' => e = .returned (.int .i64 7) ∧ w = w') := by
  go_enter Tryd.func10, Tryd.ntmps10
  go_wp2
  go_ret
  exact ⟨rfl, rfl⟩
set_option maxRecDepth 100000 in
theorem go_Sort_39 (w : World) : Calls Tryd.prog 10 #[.int .u8 39] w (fun e w' => e = .returned (.int .i64 8) ∧ w = w') := by
  go_enter Tryd.func10, Tryd.ntmps10
  go_wp2
  go_ret
  exact ⟨rfl, rfl⟩
set_option maxRecDepth 100000 in
theorem go_Sort_34 (w : World) : Calls Tryd.prog 10 #[.int .u8 34] w (fun e w' => e = .returned (.int .i64 8) ∧ w = w') := by
  go_enter Tryd.func10, Tryd.ntmps10
  go_wp2
  go_ret
  exact ⟨rfl, rfl⟩
set_option maxRecDepth 100000 in
theorem go_Sort_96 (w : World) : Calls Tryd.prog 10 #[.int .u8 96] w (fun e w' => e = .returned (.int .i64 8) ∧ w = w') := by
  go_enter Tryd.func10, Tryd.ntmps10
  go_wp2
  go_ret
  exact ⟨rfl, rfl⟩
theorem go_Sort_any (n : Nat) (h : n < 256) (w : World) : Calls Tryd.prog 10 #[.int .u8 n] w (fun e w' => e = .returned (.int .i64 (sortN n)) ∧ w = w') := by
  rcases (by omega : (0 ≤ n ∧ n ≤ 8) ∨ (9 ≤ n ∧ n ≤ 13) ∨ (14 ≤ n ∧ n ≤ 31) ∨ n = 32 ∨ (48 ≤ n ∧ n ≤ 57) ∨ (65 ≤ n ∧ n ≤ 90) ∨ n = 95 ∨ (97 ≤ n ∧ n ≤ 122) ∨ (127 ≤ n ∧ n ≤ 255) ∨ n = 43 ∨ n = 45 ∨ n = 42 ∨ n = 47 ∨ n = 92 ∨ n = 94 ∨ n = 60 ∨ n = 62 ∨ n = 61 ∨ n = 126 ∨ n = 58 ∨ n = 46 ∨ n = 63 ∨ n = 64 ∨ n = 35 ∨ n = 38 ∨ n = 36 ∨ n = 33 ∨ n = 59 ∨ n = 40 ∨ n = 41 ∨ n = 91 ∨ n = 93 ∨ n = 123 ∨ n = 125 ∨ n = 44 ∨ n = 124 ∨ n = 37 ∨ n = 39 ∨ n = 34 ∨ n = 96) with ⟨h0, h1⟩ | ⟨h0, h1⟩ | ⟨h0, h1⟩ | rfl | ⟨h0, h1⟩ | ⟨h0, h1⟩ | rfl | ⟨h0, h1⟩ | ⟨h0, h1⟩ | rfl | rfl | rfl | rfl | rfl | rfl | rfl | rfl | rfl | rfl | rfl | rfl | rfl | rfl | rfl | rfl | rfl | rfl | rfl | rfl | rfl | rfl | rfl | rfl | rfl | rfl | rfl | rfl | rfl | rfl | rfl
  · rw [show sortN n = 0 from sort_r0 n h0 h1]; exact go_Sort_r0 n (by omega) (by omega) w
  · rw [show sortN n = 1 from sort_r9 n h0 h1]; exact go_Sort_r9 n (by omega) (by omega) w
  · rw [show sortN n = 0 from sort_r14 n h0 h1]; exact go_Sort_r14 n (by omega) (by omega) w
  · exact go_Sort_32 w
  · rw [show sortN n = 4 from sort_r48 n h0 h1]; exact go_Sort_r48 n (by omega) (by omega) w
  · rw [show sortN n = 3 from sort_r65 n h0 h1]; exact go_Sort_r65 n (by omega) (by omega) w
  · exact go_Sort_95 w
  · rw [show sortN n = 2 from sort_r97 n h0 h1]; exact go_Sort_r97 n (by omega) (by omega) w
  · rw [show sortN n = 0 from sort_r127 n h0 h1]; exact go_Sort_r127 n (by omega) (by omega) w
  · exact go_Sort_43 w
  · exact go_Sort_45 w
  · exact go_Sort_42 w
  · exact go_Sort_47 w
  · exact go_Sort_92 w
  · exact go_Sort_94 w
  · exact go_Sort_60 w
  · exact go_Sort_62 w
  · exact go_Sort_61 w
  · exact go_Sort_126 w
  · exact go_Sort_58 w
  · exact go_Sort_46 w
  · exact go_Sort_63 w
  · exact go_Sort_64 w
  · exact go_Sort_35 w
  · exact go_Sort_38 w
  · exact go_Sort_36 w
  · exact go_Sort_33 w
  · exact go_Sort_59 w
  · exact go_Sort_40 w
  · exact go_Sort_41 w
  · exact go_Sort_91 w
  · exact go_Sort_93 w
  · exact go_Sort_123 w
  · exact go_Sort_125 w
  · exact go_Sort_44 w
  · exact go_Sort_124 w
  · exact go_Sort_37 w
  · exact go_Sort_39 w
  · exact go_Sort_34 w
  · exact go_Sort_96 w
theorem go_Sort (c : UInt8) (w : World) : Calls Tryd.prog 10 #[.int .u8 c.toNat] w (fun e w' => e = .returned (.int .i64 (sort c)) ∧ w = w') := go_Sort_any c.toNat c.toNat_lt w
end Go.Proofs.YtohfgfmekciekaaDoor.Nam
