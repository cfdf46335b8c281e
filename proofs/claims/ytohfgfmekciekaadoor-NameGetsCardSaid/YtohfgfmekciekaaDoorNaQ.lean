
/-
  Layer 2's reference: digit and number, walked over the program.
-/
import Derived.Test.YtohfgfmekciekaaDoorNaJ
namespace Go.Proofs.YtohfgfmekciekaaDoor.Nam
open Go Go.RowKit Go.Proofs.YtohfgfmekciekaaDoor.Reg Go.Proofs.YtohfgfmekciekaaDoor.Byt
set_option linter.unusedVariables false
set_option linter.unusedSimpArgs false

/-- a digit of a base; -1: none -/
def digR (c : UInt8) (b : Nat) : Int := if dig c < b then (dig c : Int) else -1
set_option maxRecDepth 100000 in
theorem ref_digit (c : UInt8) (b : Nat) (hb0 : 2 ≤ b) (hb1 : b ≤ 16) (w : World) : Calls Tryd.prog 27 #[.int .u8 c.toNat, .int .i64 b] w (fun e w' => e = .returned (.int .i64 (digR c b)) ∧ w = w') := by
  have hc : c.toNat < 256 := c.toNat_lt
  have hw := Lib.hid (digN_ways c.toNat)
  have HR : Hid (digR c b = if digN c.toNat < b then (digN c.toNat : Int) else -1) := Lib.hid rfl
  generalize digR c b = r at *
  generalize c.toNat = n at *
  go_enter Tryd.func27, Tryd.ntmps27
  go_wp2
  all_goals
    go_ret
    refine ⟨ret_int ?_, rfl⟩
    have h := HR.out
    rcases hw.out with hh | hh | hh | hh <;> split at h <;> omega
/-- the reference's number: of the same text -/
def NbPost (r : Option (Nat × Nat)) (w : World) (e : Ending) (w' : World) : Prop :=
  (∀ n k, r = some (n, k) → e = .returned (.tuple #[.int .i64 n, .int .i64 k])) ∧ (r = none → e = .returned (.tuple #[.int .i64 (-1), .int .i64 0])) ∧ w = w'
theorem nb_some {r : Option (Nat × Nat)} {n k : Nat} {a b : Int} (w : World) (h : r = some (n, k)) (ha : a = n) (hb : b = k) : NbPost r w (.returned (.tuple #[.int .i64 a, .int .i64 b])) w := by
  subst h ha hb
  exact ⟨fun n' k' e => (by cases e; rfl), fun e => (by cases e), rfl⟩
theorem nb_none {r : Option (Nat × Nat)} (w : World) (h : r = none) : NbPost r w (.returned (.tuple #[.int .i64 (-1), .int .i64 0])) w := by
  subst h
  exact ⟨fun n' k' e => (by cases e), fun _ => rfl, rfl⟩
structure NbRel (b : Nat) (s : ByteArray) (w : World) (v i : Value) (wr : World) : Prop where
  same : w = wr
  at_ : ∃ k n : Nat, k ≤ s.size ∧ n ≤ 1000 ∧ i = .int .i64 k ∧ v = .int .i64 n ∧ Hid ((n ≤ 255 ∧ codeL b 0 0 s.data.toList = codeL b k n (s.data.toList.drop k)) ∨ (255 < n ∧ codeL b 0 0 s.data.toList = none))
set_option maxRecDepth 100000 in
set_option maxHeartbeats 1000000 in
theorem ref_number (b : Nat) (hb0 : 2 ≤ b) (hb1 : b ≤ 16) (s : ByteArray) (hs : s.size ≤ maxLen) (w : World) : Calls Tryd.prog 28 #[.string s, .int .i64 b] w (NbPost (codeL b 0 0 s.data.toList) w) := by
  unfold maxLen at hs
  have HST : Hid (NbRel b s w (.int .i64 0) (.int .i64 0) w) := Lib.hid ⟨rfl, 0, 0, Nat.zero_le _, by omega, rfl, rfl, Lib.hid (.inl ⟨by omega, rfl⟩)⟩
  have HDG := Lib.hid (fun c => ref_digit c b hb0 hb1)
  go_enter Tryd.func28, Tryd.ntmps28
  go_wp2
  go_loopw [6, 7] (fun v i wr => NbRel b s w v i wr) (fun _ i _ => s.size - (intOf i).toNat)
  case atStart => exact HST.out
  case round =>
    obtain ⟨rfl, k, n, hk, hn, rfl, rfl, HC⟩ := hrel
    clear HST
    by_cases hlt : k < s.size
    · have HD := Lib.hid (drop_at hlt)
      by_cases hd : dig s[k] < b
      · have h92 : ¬ s[k] = 92 := fun e => by rw [e] at hd; have : dig 92 = 16 := by decide
                                              omega
        have hr : digR s[k] b = (dig s[k] : Int) := if_pos hd
        have HR := Lib.hid hr
        have hm0 : n * b ≤ 1000 * 16 := Nat.mul_le_mul hn hb1
        have hm1 : n * 2 ≤ n * b := Nat.mul_le_mul_left _ hb0
        have hmm : ((n : Int) * (b : Int)) = ((n * b : Nat) : Int) := by simp
        have hw2 : wrap64 ((n : Int) * (b : Int)) = ((n * b : Nat) : Int) := by rw [wrap_eq, hmm]; omega
        have hw : IntKind.i64.wrap ((n : Int) * (b : Int)) = ((n * b : Nat) : Int) := by rw [hmm]; exact IntWalk.i64_in _ (by omega)
        have HN : Hid ((min (n * b + dig s[k]) 1000 ≤ 255 ∧ codeL b 0 0 s.data.toList = codeL b (k + 1) (min (n * b + dig s[k]) 1000) (s.data.toList.drop (k + 1))) ∨ (255 < min (n * b + dig s[k]) 1000 ∧ codeL b 0 0 s.data.toList = none)) := Lib.hid (by
          rcases HC.out with ⟨h1, h2⟩ | ⟨h1, h2⟩
          · by_cases h255 : 255 < n * b + dig s[k]
            · exact .inr ⟨by omega, by rw [h2, HD.out]; unfold codeL; rw [if_neg h92, if_neg (by omega), if_pos h255]⟩
            · exact .inl ⟨by omega, by rw [h2, HD.out, codeL_step h92 (by omega) h255, show min (n * b + dig s[k]) 1000 = n * b + dig s[k] by omega]⟩
          · exact .inr ⟨by omega, h2⟩)
        have hdh := dig_hi s[k]
        obtain ⟨m, hm⟩ : ∃ m, m = n * b := ⟨_, rfl⟩
        rw [← hm] at hw hw2 hm0 HN
        clear hmm hm hm1 hd h92 hr
        by_cases h1000 : m + dig s[k] ≤ 1000
        · have hmin : min ((m : Int) + dig s[k]) 1000 = (m : Int) + dig s[k] := by omega
          rw [show min (m + dig s[k]) 1000 = m + dig s[k] by omega] at HN
          go_wp2_with (go_at_call 27; refine (HDG.out _ _).mono ?_; rintro e1 w1 ⟨rfl, rfl⟩; rw [HR.out])
          all_goals first
            | omega
            | (go_roundw
               case rel => exact ⟨rfl, k + 1, m + dig s[k], by omega, by omega, by go_num, by first | go_num | (congr 1; omega), HN⟩
               case measure => simp [intOf]; omega)
        · have hmin : min ((m : Int) + dig s[k]) 1000 = 1000 := by omega
          rw [show min (m + dig s[k]) 1000 = 1000 by omega] at HN
          go_wp2_with (go_at_call 27; refine (HDG.out _ _).mono ?_; rintro e1 w1 ⟨rfl, rfl⟩; rw [HR.out])
          all_goals first
            | omega
            | (go_roundw
               case rel => exact ⟨rfl, k + 1, 1000, by omega, by omega, by go_num, by first | rfl | go_num | (congr 1; omega), HN⟩
               case measure => simp [intOf]; omega)
      · have hr : digR s[k] b = -1 := if_neg hd
        have HR := Lib.hid hr
        clear hr
        by_cases h92 : s[k].toNat = 92
        · have q : ((s[k].toNat : Int) != 92) = false := by simp; omega
          by_cases h0 : k = 0
          · subst h0
            have HE := Lib.hid (show codeL b 0 0 s.data.toList = none by
              rcases HC.out with ⟨h1, h2⟩ | ⟨h1, h2⟩
              · rw [h2, HD.out]; unfold codeL; rw [if_pos (show s[0] = 92 from eq_nat h92), if_pos rfl]
              · exact h2)
            clear hd h92
            go_wp2_with (go_at_call 27; refine (HDG.out _ _).mono ?_; rintro e1 w1 ⟨rfl, rfl⟩; rw [HR.out])
            go_ret2
            exact nb_none _ HE.out
          · have q0 : ((k : Int) == 0) = false := by simp; omega
            rcases HC.out with ⟨h1, h2⟩ | ⟨h1, h2⟩
            · have HE := Lib.hid (show codeL b 0 0 s.data.toList = some (n, k + 1) by rw [h2, HD.out]; unfold codeL; rw [if_pos (show s[k] = 92 from eq_nat h92), if_neg h0])
              clear hd h92 h0 h2
              go_wp2_with (go_at_call 27; refine (HDG.out _ _).mono ?_; rintro e1 w1 ⟨rfl, rfl⟩; rw [HR.out])
              go_ret2
              exact nb_some _ HE.out rfl (by omega)
            · have HE := Lib.hid h2
              clear hd h92 h0 h2
              go_wp2_with (go_at_call 27; refine (HDG.out _ _).mono ?_; rintro e1 w1 ⟨rfl, rfl⟩; rw [HR.out])
              go_ret2
              exact nb_none _ HE.out
        · have q : ((s[k].toNat : Int) != 92) = true := by simp; omega
          have HE := Lib.hid (show codeL b 0 0 s.data.toList = none by
            rcases HC.out with ⟨h1, h2⟩ | ⟨h1, h2⟩
            · rw [h2, HD.out]; unfold codeL; rw [if_neg (fun e => h92 (by rw [e]; rfl)), if_pos (by omega)]
            · exact h2)
          clear hd h92
          rcases (by omega : k = 0 ∨ 0 < k) with h0 | h0
          · subst h0
            go_wp2_with (go_at_call 27; refine (HDG.out _ _).mono ?_; rintro e1 w1 ⟨rfl, rfl⟩; rw [HR.out])
            go_ret2
            exact nb_none _ HE.out
          · have q0 : ((k : Int) == 0) = false := by simp; omega
            go_wp2_with (go_at_call 27; refine (HDG.out _ _).mono ?_; rintro e1 w1 ⟨rfl, rfl⟩; rw [HR.out])
            go_ret2
            exact nb_none _ HE.out
    · obtain rfl : k = s.size := by omega
      have HE := Lib.hid (show codeL b 0 0 s.data.toList = none by
        rcases HC.out with ⟨h1, h2⟩ | ⟨h1, h2⟩
        · rw [h2, List.drop_of_length_le (by simp)]; unfold codeL; rfl
        · exact h2)
      clear hlt
      rcases (by omega : s.size = 0 ∨ 0 < s.size) with h0 | h0
      · have q0 : ((s.size : Int) == 0) = true := beq_iff_eq.2 (by omega)
        clear h0
        go_wp2
        go_ret2
        exact nb_none _ HE.out
      · have q0 : ((s.size : Int) == 0) = false := beq_eq_false_iff_ne.2 (by omega)
        go_wp2
        go_ret2
        exact nb_none _ HE.out
end Go.Proofs.YtohfgfmekciekaaDoor.Nam
