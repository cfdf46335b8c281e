
/-
  Layer 1: the laws NumTexts and NumBack, walked over the program.
-/
import Derived.Test.YtdhljihikbofbaaDoorNuL2
import Derived.Test.YtdhljihikbofbaaDoorNuJ
namespace Go.Proofs.YtdhljihikbofbaaDoor.Num
open Go Go.RowKit Go.Proofs.YtdhljihikbofbaaDoor.Reg
set_option linter.unusedVariables false
set_option linter.unusedSimpArgs false

theorem bytes_same (a : ByteArray) : (a.toList == a.toList) = true := by simp
set_option maxRecDepth 100000 in
theorem law_texts (n : Int) (s : ByteArray) (z : Int) (hn : Fit n) (hz : Fit z) (w : World) (ht : Tab w) : Calls Tryd.prog 3 #[.int .i64 n, .string s, .int .i64 z] w (Says true w) := by
  have HN := Lib.hid hn
  have HZ := Lib.hid hz
  have HT := Lib.hid ht
  obtain ⟨x, e, he⟩ : ∃ x e, parseT s.data.toList z = (x, e) := ⟨_, _, rfl⟩
  have HE := Lib.hid he
  clear ht hn hz he
  by_cases hlen : 1000 < s.size
  · go_enter Tryd.func3, Tryd.ntmps3
    go_wp2_with (go_at_call 10; refine (go_alive _ HT.out).mono ?_; rintro e1 w1 ⟨rfl, hb1⟩; have BEL := Lib.hid hb1; clear hb1)
    go_ret
    exact ⟨rfl, BEL.out⟩
  · have hs : s.size ≤ 1000 := by omega
    have HS := Lib.hid (show s.size ≤ maxLen by unfold maxLen; omega)
    clear hlen
    go_enter Tryd.func3, Tryd.ntmps3
    go_wp2_with (first
      | (go_at_call 10
         refine (go_alive _ HT.out).mono ?_
         rintro e1 w1 ⟨rfl, hb1⟩
         have BEL := Lib.hid hb1
         clear hb1)
      | (go_at_call 11
         refine (go_Parse _ HS.out _ HZ.out _).mono ?_
         rintro e1 w1 ⟨rfl, hb1⟩
         rw [HE.out]
         have BEL2 := Lib.hid (BEL.out.trans (hb1.mono BEL.out.size))
         clear BEL hb1
         have BEL := Lib.hid BEL2.out
         clear BEL2)
      | (go_at_call 12
         refine (ref_Parse _ HS.out _ HZ.out _).mono ?_
         rintro e1 w1 ⟨rfl, hb1⟩
         rw [HE.out]
         have BEL2 := Lib.hid (BEL.out.trans (hb1.mono BEL.out.size))
         clear BEL hb1
         have BEL := Lib.hid BEL2.out
         clear BEL2)
      | (go_at_call 13
         refine (go_Print _ HN.out _ (HT.out.on BEL.out)).mono ?_
         rintro e1 w1 ⟨rfl, hb1⟩
         have BEL2 := Lib.hid (BEL.out.trans (hb1.mono BEL.out.size))
         clear BEL hb1
         have BEL := Lib.hid BEL2.out
         clear BEL2)
      | (go_at_call 14
         refine (ref_Print _ n (Nat.le_refl _) HN.out _).mono ?_
         rintro e1 w1 ⟨rfl, hb1⟩
         have BEL2 := Lib.hid (BEL.out.trans (hb1.mono BEL.out.size))
         clear BEL hb1
         have BEL := Lib.hid BEL2.out
         clear BEL2))
    go_ret
    exact ⟨rfl, BEL.out⟩
theorem dig_of {r : Nat} (h : r < 10) : dig (UInt8.ofNat (48 + r)) = r := by
  unfold dig
  rw [UInt8.toNat_ofNat_of_lt' (by rw [show UInt8.size = 256 from rfl]; omega)]
  rw [(digN_num (by omega) (by omega)).1]; omega
theorem dec_val : ∀ (m u : Nat), u ≤ m → val 10 (Lib.decDigits u) = u ∧ badB 10 (Lib.decDigits u) = false ∧ Lib.decDigits u ≠ []
  | 0, u, h => by
    obtain rfl : u = 0 := by omega
    rw [dec_small (by omega)]; exact ⟨by decide, by decide, by simp⟩
  | m + 1, u, h => by
    by_cases h1 : u < 10
    · rw [dec_small h1]
      refine ⟨?_, ?_, by simp⟩
      · show 0 * 10 + dig _ = u
        rw [dig_of h1]; omega
      · unfold badB; simp only [List.any_cons, List.any_nil, Bool.or_false, decide_eq_false_iff_not]; rw [dig_of h1]; omega
    · obtain ⟨i1, i2, i3⟩ := dec_val m (u / 10) (by omega)
      have hd := dig_of (r := u % 10) (by omega)
      rw [dec_big h1, val_snoc, bad_snoc, i1, i2, hd]
      refine ⟨by omega, ?_, by simp⟩
      simp only [Bool.false_or, decide_eq_false_iff_not]; omega
theorem back_parse {a : Int} (ha : Fit a) (h : 0 ≤ a) : parseT (ByteArray.mk (Lib.itoa a).toArray).data.toList 10 = (a, 0) := by
  have hl : (ByteArray.mk (Lib.itoa a).toArray).data.toList = Lib.decDigits a.toNat := by unfold Lib.itoa; rw [if_neg (by omega)]
  rw [hl]
  obtain ⟨i1, i2, i3⟩ := dec_val _ a.toNat (Nat.le_refl _)
  have hv : val (10 : Int).toNat (Lib.decDigits a.toNat) = a.toNat := i1
  obtain ⟨h0, h1⟩ := ha
  have hle : val (10 : Int).toNat (Lib.decDigits a.toNat) ≤ 9223372036854775808 := by rw [hv]; omega
  refine (parse_val (by omega) i3 i2 hle).trans ?_
  rw [hv, Int.toNat_of_nonneg h, wrap_in ⟨h0, h1⟩]
set_option maxRecDepth 100000 in
set_option maxHeartbeats 1000000 in
theorem law_back (a b : Int) (ha : Fit a) (hb : Fit b) (w : World) (ht : Tab w) : Calls Tryd.prog 5 #[.int .i64 a, .int .i64 b] w (Says true w) := by
  have HA := Lib.hid ha
  have HB := Lib.hid hb
  have HT := Lib.hid ht
  have HL : Hid ((ByteArray.mk (Lib.itoa a).toArray).size ≤ maxLen) := Lib.hid (by have := itoa_len ha; unfold maxLen; show (Lib.itoa a).toArray.size ≤ _; simp; omega)
  have HBP := Lib.hid (fun h => back_parse (a := a) ha h)
  have hq : 0 ≤ a ∨ a < 0 := by omega
  by_cases hf : Fit (a + b)
  · have HS := Lib.hid hf
    have HP : Hid (chk (a + b) = (a + b, 0)) := Lib.hid (chk_in hf)
    have HM : Hid (chk (a + b - b) = (a, 0)) := Lib.hid (by rw [show a + b - b = a by omega]; exact chk_in ha)
    have HP2 : Hid (chk (b + a) = (a + b, 0)) := Lib.hid (by rw [Int.add_comm]; exact chk_in hf)
    obtain ⟨s, hs⟩ : ∃ s, s = a + b := ⟨_, rfl⟩
    rw [← hs] at HS HP HM HP2
    have HP1 := Lib.hid (show chk (a + b) = (s, 0) by rw [hs]; exact chk_in hf)
    clear ha hb ht hf hs HP
    rcases hq with hq | hq
    · have HB2 := Lib.hid (HBP.out hq)
      go_enter Tryd.func5, Tryd.ntmps5
      go_wp2_with (first
        | (go_at_call 10
           refine (go_alive _ HT.out).mono ?_
           rintro e1 w1 ⟨rfl, hb1⟩
           have BEL := Lib.hid hb1
           clear hb1)
        | (go_at_call 13
           refine (go_Print _ HA.out _ (HT.out.on BEL.out)).mono ?_
           rintro e1 w1 ⟨rfl, hb1⟩
           have BEL2 := Lib.hid (BEL.out.trans (hb1.mono BEL.out.size))
           clear BEL hb1
           have BEL := Lib.hid BEL2.out
           clear BEL2)
        | (go_at_call 11
           refine (go_Parse _ HL.out _ (by decide) _).mono ?_
           rintro e1 w1 ⟨rfl, hb1⟩
           rw [HB2.out]
           have BEL2 := Lib.hid (BEL.out.trans (hb1.mono BEL.out.size))
           clear BEL hb1
           have BEL := Lib.hid BEL2.out
           clear BEL2)
        | (go_at_call 15
           refine (go_Two _ _ _ (by first | exact HA.out | exact HB.out | exact HS.out) (by first | exact HB.out | exact HA.out) _).mono ?_
           rintro e1 w1 ⟨rfl, hb1⟩
           first | rw [two_add, HP1.out] | rw [two_sub, HM.out] | rw [two_add, HP2.out]
           have BEL2 := Lib.hid (BEL.out.trans (hb1.mono BEL.out.size))
           clear BEL hb1
           have BEL := Lib.hid BEL2.out
           clear BEL2))
      go_ret
      exact ⟨rfl, BEL.out⟩
    · go_enter Tryd.func5, Tryd.ntmps5
      go_wp2_with (first
        | (go_at_call 10
           refine (go_alive _ HT.out).mono ?_
           rintro e1 w1 ⟨rfl, hb1⟩
           have BEL := Lib.hid hb1
           clear hb1)
        | (go_at_call 15
           refine (go_Two _ _ _ (by first | exact HA.out | exact HB.out | exact HS.out) (by first | exact HB.out | exact HA.out) _).mono ?_
           rintro e1 w1 ⟨rfl, hb1⟩
           first | rw [two_add, HP1.out] | rw [two_sub, HM.out] | rw [two_add, HP2.out]
           have BEL2 := Lib.hid (BEL.out.trans (hb1.mono BEL.out.size))
           clear BEL hb1
           have BEL := Lib.hid BEL2.out
           clear BEL2))
      go_ret
      exact ⟨rfl, BEL.out⟩
  · have HP1 := Lib.hid (chk_out hf)
    have hsg : (a < 0 ∧ b < 0 ∧ decide (a < 0) = true ∧ decide (b < 0) = true) ∨ (0 ≤ a ∧ 0 ≤ b ∧ decide (a < 0) = false ∧ decide (b < 0) = false) := by
      unfold Fit at *
      by_cases h : a < 0
      · exact .inl ⟨h, by omega, by simpa using h, by simp; omega⟩
      · exact .inr ⟨by omega, by omega, by simpa using h, by simp; omega⟩
    clear ha hb ht hf hq
    rcases hsg with ⟨h1, h2, h3, h4⟩ | ⟨h1, h2, h3, h4⟩
    · go_enter Tryd.func5, Tryd.ntmps5
      go_wp2_with (first
        | (go_at_call 10
           refine (go_alive _ HT.out).mono ?_
           rintro e1 w1 ⟨rfl, hb1⟩
           have BEL := Lib.hid hb1
           clear hb1)
        | (go_at_call 15
           refine (go_Two _ _ _ HA.out HB.out _).mono ?_
           rintro e1 w1 ⟨rfl, hb1⟩
           rw [two_add, HP1.out]
           have BEL2 := Lib.hid (BEL.out.trans (hb1.mono BEL.out.size))
           clear BEL hb1
           have BEL := Lib.hid BEL2.out
           clear BEL2))
      go_ret
      exact ⟨rfl, BEL.out⟩
    · have HB2 := Lib.hid (HBP.out h1)
      go_enter Tryd.func5, Tryd.ntmps5
      go_wp2_with (first
        | (go_at_call 10
           refine (go_alive _ HT.out).mono ?_
           rintro e1 w1 ⟨rfl, hb1⟩
           have BEL := Lib.hid hb1
           clear hb1)
        | (go_at_call 13
           refine (go_Print _ HA.out _ (HT.out.on BEL.out)).mono ?_
           rintro e1 w1 ⟨rfl, hb1⟩
           have BEL2 := Lib.hid (BEL.out.trans (hb1.mono BEL.out.size))
           clear BEL hb1
           have BEL := Lib.hid BEL2.out
           clear BEL2)
        | (go_at_call 11
           refine (go_Parse _ HL.out _ (by decide) _).mono ?_
           rintro e1 w1 ⟨rfl, hb1⟩
           rw [HB2.out]
           have BEL2 := Lib.hid (BEL.out.trans (hb1.mono BEL.out.size))
           clear BEL hb1
           have BEL := Lib.hid BEL2.out
           clear BEL2)
        | (go_at_call 15
           refine (go_Two _ _ _ HA.out HB.out _).mono ?_
           rintro e1 w1 ⟨rfl, hb1⟩
           rw [two_add, HP1.out]
           have BEL2 := Lib.hid (BEL.out.trans (hb1.mono BEL.out.size))
           clear BEL hb1
           have BEL := Lib.hid BEL2.out
           clear BEL2))
      go_ret
      exact ⟨rfl, BEL.out⟩
end Go.Proofs.YtdhljihikbofbaaDoor.Num
