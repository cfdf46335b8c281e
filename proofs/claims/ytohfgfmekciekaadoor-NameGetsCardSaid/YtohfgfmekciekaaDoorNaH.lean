
/-
  Layer 2: escapes, value, coded, escape, walked over the program.
-/
import Derived.Test.YtohfgfmekciekaaDoorNaG
import Derived.KernelRfl
namespace Go.Proofs.YtohfgfmekciekaaDoor.Nam
open Go Go.RowKit Go.Proofs.YtohfgfmekciekaaDoor.Reg Go.Proofs.YtohfgfmekciekaaDoor.Byt Go.Proofs.YtohfgfmekciekaaDoor.Maps
set_option linter.unusedVariables false
set_option linter.unusedSimpArgs false

def escEntries : Array MapEntry := #[⟨.int .u8 110, .int .i64 10, 0⟩, ⟨.int .u8 114, .int .i64 13, 1⟩, ⟨.int .u8 116, .int .i64 9, 2⟩, ⟨.int .u8 97, .int .i64 7, 3⟩, ⟨.int .u8 98, .int .i64 8, 4⟩, ⟨.int .u8 102, .int .i64 12, 5⟩, ⟨.int .u8 118, .int .i64 11, 6⟩, ⟨.int .u8 92, .int .i64 92, 7⟩, ⟨.int .u8 39, .int .i64 39, 8⟩, ⟨.int .u8 34, .int .i64 34, 9⟩, ⟨.int .u8 96, .int .i64 96, 10⟩]
set_option maxRecDepth 100000 in
theorem go_escapes (w : World) : Calls Tryd.prog 25 #[] w (fun e w' => ∃ b, e = .returned (.map (some b)) ∧ w'.heap[b]? = some (.map escEntries 11) ∧ Below w.heap.size w w') := by
  go_enter Tryd.func25, Tryd.ntmps25
  go_wp2_with (first
    | (refine wpList_map_start rfl 43 rfl w (Below.refl _ _) ?_
       intro b w1 h1
       have HF := Lib.hid h1
       clear h1)
    | (refine wpList_map_fill rfl 43 (.tmp 1) _ _ rfl _ _ _ Tryd.underlying43 Tryd.underlying5 rfl w _ _ _ rfl HF.out (by kernel_rfl) ?_
       intro w1 h1
       replace HF := Lib.hid h1
       clear h1))
  go_ret
  exact ⟨b, rfl, HF.out.at_, HF.out.bel⟩
theorem digN_ways (n : Nat) : (48 ≤ n ∧ n ≤ 57 ∧ digN n = n - 48) ∨ (97 ≤ n ∧ n ≤ 102 ∧ digN n = n - 97 + 10) ∨ (65 ≤ n ∧ n ≤ 70 ∧ digN n = n - 65 + 10) ∨ (¬ (48 ≤ n ∧ n ≤ 57) ∧ ¬ (97 ≤ n ∧ n ≤ 102) ∧ ¬ (65 ≤ n ∧ n ≤ 70) ∧ digN n = 16) := by
  by_cases h1 : 48 ≤ n ∧ n ≤ 57
  · exact .inl ⟨h1.1, h1.2, if_pos h1⟩
  by_cases h2 : 97 ≤ n ∧ n ≤ 102
  · exact .inr (.inl ⟨h2.1, h2.2, by unfold digN; rw [if_neg h1, if_pos h2]⟩)
  by_cases h3 : 65 ≤ n ∧ n ≤ 70
  · exact .inr (.inr (.inl ⟨h3.1, h3.2, by unfold digN; rw [if_neg h1, if_neg h2, if_pos h3]⟩))
  · exact .inr (.inr (.inr ⟨h1, h2, h3, by unfold digN; rw [if_neg h1, if_neg h2, if_neg h3]⟩))
theorem dig_hi (c : UInt8) : dig c ≤ 16 := by have := c.toNat_lt; unfold dig; rcases digN_ways c.toNat with h | h | h | h <;> omega
theorem go_value (c : UInt8) (w : World) : Calls Tryd.prog 37 #[.int .u8 c.toNat] w (fun e w' => e = .returned (.int .i64 (dig c)) ∧ w = w') := by
  have hc : c.toNat < 256 := c.toNat_lt
  have hw := Lib.hid (digN_ways c.toNat)
  unfold dig
  generalize c.toNat = n at *
  go_enter Tryd.func37, Tryd.ntmps37
  go_wp2
  all_goals
    go_ret
    exact ⟨ret_int (by rcases hw.out with h | h | h | h <;> omega), rfl⟩
/-- a number and how many bytes it took, or none -/
def CdPost (r : Option (Nat × Nat)) (w : World) (e : Ending) (w' : World) : Prop :=
  (∀ n k, r = some (n, k) → e = .returned (.tuple #[.int .i64 n, .int .i64 k, .bool true])) ∧ (r = none → ∃ n k : Int, e = .returned (.tuple #[.int .i64 n, .int .i64 k, .bool false])) ∧ w = w'
theorem cd_some {r : Option (Nat × Nat)} {n k : Nat} {a b : Int} (w : World) (h : r = some (n, k)) (ha : a = n) (hb : b = k) : CdPost r w (.returned (.tuple #[.int .i64 a, .int .i64 b, .bool true])) w := by
  subst h ha hb
  exact ⟨fun n' k' e => (by cases e; rfl), fun e => (by cases e), rfl⟩
theorem cd_none {r : Option (Nat × Nat)} (w : World) (a b : Int) (h : r = none) : CdPost r w (.returned (.tuple #[.int .i64 a, .int .i64 b, .bool false])) w := by
  subst h
  exact ⟨fun n' k' e => (by cases e), fun _ => ⟨a, b, rfl⟩, rfl⟩
theorem drop_at {s : ByteArray} {k : Nat} (h : k < s.size) : s.data.toList.drop k = s[k] :: s.data.toList.drop (k + 1) := by
  rw [List.drop_eq_getElem_cons (by simpa using h)]; rfl
theorem wrap_eq (r : Int) : wrap64 r = (r + 9223372036854775808) % 18446744073709551616 - 9223372036854775808 := by unfold wrap64; rfl
theorem codeL_step {b i n : Nat} {c : UInt8} {l : List UInt8} (h1 : ¬ c = 92) (h2 : ¬ b ≤ dig c) (h3 : ¬ 255 < n * b + dig c) : codeL b i n (c :: l) = codeL b (i + 1) (n * b + dig c) l := by
  rw [codeL, if_neg h1, if_neg h2, if_neg h3]
structure CdRel (b : Nat) (s : ByteArray) (w : World) (v i : Value) (wr : World) : Prop where
  same : w = wr
  at_ : ∃ k n : Nat, k ≤ s.size ∧ n ≤ 255 ∧ i = .int .i64 k ∧ v = .int .i64 n ∧ Hid (codeL b 0 0 s.data.toList = codeL b k n (s.data.toList.drop k))
set_option maxRecDepth 100000 in
theorem go_coded (b : Nat) (hb0 : 2 ≤ b) (hb1 : b ≤ 16) (s : ByteArray) (hs : s.size ≤ maxLen) (w : World) : Calls Tryd.prog 32 #[.string s, .int .i64 b] w (CdPost (codeL b 0 0 s.data.toList) w) := by
  unfold maxLen at hs
  have HST : Hid (CdRel b s w (.int .i64 0) (.int .i64 0) w) := Lib.hid ⟨rfl, 0, 0, Nat.zero_le _, by omega, rfl, rfl, Lib.hid rfl⟩
  go_enter Tryd.func32, Tryd.ntmps32
  go_wp2
  go_loopw [4, 7] (fun v i wr => CdRel b s w v i wr) (fun _ i _ => s.size - (intOf i).toNat)
  case atStart => exact HST.out
  case round =>
    obtain ⟨rfl, k, n, hk, hn, rfl, rfl, HC⟩ := hrel
    clear HST
    by_cases hlt : k < s.size
    · have HD := Lib.hid (drop_at hlt)
      by_cases h92 : s[k].toNat = 92
      · have q : ((s[k].toNat : Int) == 92) = true := by simp; omega
        have h92' : s[k] = 92 := eq_nat h92
        by_cases h0 : k = 0
        · subst h0
          have HR := Lib.hid (show codeL b 0 0 s.data.toList = none by rw [HC.out, HD.out]; unfold codeL; rw [if_pos h92', if_pos rfl])
          clear h92 h92'
          go_wp2
          go_ret3
          exact cd_none _ _ _ HR.out
        · have HR := Lib.hid (show codeL b 0 0 s.data.toList = some (n, k + 1) by rw [HC.out, HD.out]; unfold codeL; rw [if_pos h92', if_neg h0])
          have h0' : 0 < k := by omega
          clear h92 h92' h0
          go_wp2
          go_ret3
          exact cd_some _ HR.out rfl (by omega)
      · have q : ((s[k].toNat : Int) == 92) = false := by simp; omega
        have h92' : ¬ s[k] = 92 := fun e => h92 (by rw [e]; rfl)
        have hd := dig_hi s[k]
        by_cases hb : b ≤ dig s[k]
        · have HR := Lib.hid (show codeL b 0 0 s.data.toList = none by rw [HC.out, HD.out]; unfold codeL; rw [if_neg h92', if_pos hb])
          have hb' : (b : Int) ≤ dig s[k] := by omega
          clear h92 h92' hb
          go_wp2_with (go_at_call 37; refine (go_value _ _).mono ?_; rintro e1 w1 ⟨rfl, rfl⟩)
          go_ret3
          exact cd_none _ _ _ HR.out
        · have hb' : (dig s[k] : Int) < b := by omega
          have hm0 : n * b ≤ 255 * 16 := Nat.mul_le_mul hn hb1
          have hmm : ((n : Int) * (b : Int)) = ((n * b : Nat) : Int) := by simp
          have hw : IntKind.i64.wrap ((n : Int) * (b : Int)) = ((n * b : Nat) : Int) := by rw [hmm]; exact IntWalk.i64_in _ (by omega)
          have hw2 : wrap64 ((n : Int) * (b : Int)) = ((n * b : Nat) : Int) := by rw [wrap_eq, hmm]; omega
          obtain ⟨m, hm⟩ : ∃ m, m = n * b := ⟨_, rfl⟩
          have HM := Lib.hid hm
          rw [← hm] at hw hw2 hm0
          clear hmm hm
          by_cases h255 : 255 < m + dig s[k]
          · have HR := Lib.hid (show codeL b 0 0 s.data.toList = none by rw [HC.out, HD.out]; unfold codeL; rw [if_neg h92', if_neg hb, if_pos (by rw [← HM.out]; exact h255)])
            have h5 : (255 : Int) < (m : Int) + dig s[k] := by omega
            clear h92 h92' hb h255
            go_wp2_with (go_at_call 37; refine (go_value _ _).mono ?_; rintro e1 w1 ⟨rfl, rfl⟩)
            go_ret3
            exact cd_none _ _ _ HR.out
          · have HR := Lib.hid (show codeL b 0 0 s.data.toList = codeL b (k + 1) (m + dig s[k]) (s.data.toList.drop (k + 1)) by rw [HC.out, HD.out, codeL_step h92' hb (by rw [← HM.out]; exact h255), ← HM.out])
            have h5 : (m : Int) + dig s[k] ≤ 255 := by omega
            have h6 : m + dig s[k] ≤ 255 := by omega
            clear h92 h92' hb h255
            go_wp2_with (go_at_call 37; refine (go_value _ _).mono ?_; rintro e1 w1 ⟨rfl, rfl⟩)
            go_roundw
            case rel => exact ⟨rfl, k + 1, m + dig s[k], by omega, h6, by go_num, by first | go_num | (congr 1; omega), HR⟩
            case measure => simp [intOf]; omega
    · obtain rfl : k = s.size := by omega
      have HR := Lib.hid (show codeL b 0 0 s.data.toList = none by rw [HC.out, List.drop_of_length_le (by simp)]; unfold codeL; rfl)
      clear hlt
      go_wp2
      go_ret3
      exact cd_none _ _ _ HR.out
end Go.Proofs.YtohfgfmekciekaaDoor.Nam
