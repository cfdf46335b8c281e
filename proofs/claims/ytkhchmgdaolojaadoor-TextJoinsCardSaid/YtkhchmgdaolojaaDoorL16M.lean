
/-
  The statements of layer 16: TextNumbers holds, of whatever number and byte.
-/
import Derived.Test.YtkhchmgdaolojaaDoorL16N
import Derived.Test.YtkhchmgdaolojaaDoorTxq
namespace Go.Proofs.YtkhchmgdaolojaaDoor.Tms
open Go Go.RowKit Go.Proofs.YtkhchmgdaolojaaDoor.Reg Go.Proofs.YtkhchmgdaolojaaDoor.Rws
set_option linter.unusedVariables false
set_option linter.unusedSimpArgs false

theorem int_may16 (m : Int) : mayT (intT m) = true := by simp [intT, mayT, mayB, mayTL]
theorem one_may16 (c : UInt8) : mayT (atomT ⟨#[c]⟩) = true := by simp [atomT, mayT, mayB, mayTL, ByteArray.size]
theorem nil_may16 : mayT nilT = true := by decide +kernel
theorem may_list16 (e : Tm) (he : mayT e = true) : ∀ ts : List Tm, (∀ t ∈ ts, mayT t = true) → mayT (listT ts e) = true
  | [], _ => he
  | t :: l, h => by
    have h1 := may_list16 e he l fun u hu => h u (by simp [hu])
    have h2 := h t (by simp)
    unfold listT compT
    simp only [mayT, mayTL, h1, h2, Bool.and_true, Bool.and_self]
    show mayB 4 0 dotS 2 = true
    decide
theorem char_may16 (codes : Bool) (c : UInt8) : mayT (charT codes c) = true := by
  cases codes
  · exact one_may16 c
  · exact int_may16 _
theorem char_size16 (codes : Bool) (c : UInt8) : (charT codes c).size = 1 := by cases codes <;> simp [charT, intT, atomT, Tm.size, sizeL]
theorem chars_size16 (codes : Bool) (l : List UInt8) : sizeL (charsT codes l) = l.length := by
  induction l with
  | nil => rfl
  | cons c l ih => show (charT codes c).size + sizeL (charsT codes l) = _; rw [char_size16, ih, List.length_cons]; omega
theorem text_size16 (codes : Bool) (l : List UInt8) : (listT (charsT codes l) nilT).size = 2 * l.length + 1 := by
  rw [listT_size, chars_size16, show nilT.size = 1 from rfl]; unfold charsT; rw [List.length_map]; omega
theorem text_may16 (codes : Bool) (l : List UInt8) : mayT (listT (charsT codes l) nilT) = true := may_list16 _ nil_may16 _ fun t ht => by
  unfold charsT at ht
  obtain ⟨c, -, rfl⟩ := List.mem_map.1 ht
  exact char_may16 codes c
theorem text_head16 (codes : Bool) (l : List UInt8) : Num.Fit (listT (charsT codes l) nilT).n ∧ (listT (charsT codes l) nilT).s.size ≤ 100000 := by
  cases l with
  | nil => exact ⟨by show Num.Fit 0; decide, by show (2 : Nat) ≤ _; omega⟩
  | cons c l => exact ⟨by show Num.Fit 0; decide, by show (1 : Nat) ≤ _; omega⟩
theorem law_numbers (n : Int) (c : UInt8) (hf : Num.Fit n) (w : World) (ht : Num.Tab w) : Calls Tryd.prog 5 #[.int .i64 n, .int .u8 c.toNat] w (Says true w) := by
  have hil := Num.itoa_len hf
  refine law_numbers0 n c (listT (charsT true (Lib.itoa n)) nilT) w ht hf ?_ ?_ ?_ ?_ ?_ ?_ ?_
  · unfold numberD; rw [if_pos (by rfl)]; rfl
  · unfold numberD
    rw [if_neg (by decide), if_neg (by decide), text_list]
    simp only []
    rw [number_back hf, if_pos rfl]
  · refine ⟨?_, check_zero (text_may16 true _) ?_, (text_head16 true _).1, (text_head16 true _).2⟩
    · rw [text_size16]; omega
    · rw [text_size16]; omega
  · have := c.toNat_lt
    unfold codeD
    rw [if_neg (by decide), if_neg (by decide), if_neg (by show ¬ ((2 : Int) = 1); decide), if_neg (by show ¬ ((2 : Int) ≠ 2); decide), if_neg (by show ¬ ((c.toNat : Int) < 0 ∨ 255 < (c.toNat : Int)); omega)]
    show Dd.is 0 (atomT ⟨#[UInt8.ofNat ((c.toNat : Nat) : Int).toNat]⟩) = _
    rw [Int.toNat_natCast, UInt8.ofNat_toNat]
  · rfl
  · exact fun m => check_zero (int_may16 m) (by simp [intT, Tm.size, sizeL])
  · exact check_zero (one_may16 c) (by simp [atomT, Tm.size, sizeL])
theorem law_numbersZ (n a : Int) (hf : Num.Fit n) (h : 0 ≤ a ∧ a ≤ 255) (w : World) (ht : Num.Tab w) : Calls Tryd.prog 5 #[.int .i64 n, .int .u8 a] w (Says true w) := by
  have e1 : ((UInt8.ofNat a.toNat).toNat : Int) = a := by rw [UInt8.toNat_ofNat']; omega
  have := law_numbers n (UInt8.ofNat a.toNat) hf w ht
  rw [e1] at this
  exact this
end Go.Proofs.YtkhchmgdaolojaaDoor.Tms
