
/-
  Layer 2: what is written in quotes is read back (plain), and the law NameBack, walked over the program.
-/
import Derived.Test.YtnjgjclhecedeaaDoorNaK
namespace Go.Proofs.YtnjgjclhecedeaaDoor.Nam
open Go Go.RowKit Go.Proofs.YtnjgjclhecedeaaDoor.Reg Go.Proofs.YtnjgjclhecedeaaDoor.Byt
set_option linter.unusedVariables false
set_option linter.unusedSimpArgs false

theorem dig_hexd : ∀ n, n < 16 → dig (hexd n) = n ∧ hexd n ≠ 92 := by decide
theorem code_hex {n : Nat} (h : n < 256) (l : List UInt8) : codeL 16 0 0 (hexL n ++ 92 :: l) = some (n, (hexL n).length + 1) := by
  unfold hexL
  split
  · rename_i h1
    obtain ⟨d1, d2⟩ := dig_hexd n h1
    rw [List.cons_append, codeL_step d2 (by rw [d1]; omega) (by rw [d1]; omega), d1]
    simp [codeL]
  · obtain ⟨d1, d2⟩ := dig_hexd (n / 16) (by omega)
    obtain ⟨e1, e2⟩ := dig_hexd (n % 16) (by omega)
    rw [List.cons_append, List.cons_append, codeL_step d2 (by rw [d1]; omega) (by rw [d1]; omega), d1, codeL_step e2 (by rw [e1]; omega) (by rw [e1]; omega), e1]
    simp [codeL]; omega
theorem esc_read (c : UInt8) (rest out : List UInt8) (n F : Nat) (hF : (esc c ++ rest).length < F) : getL 39 F (esc c ++ rest) out n = getL 39 F rest (out ++ [c]) (n + (esc c).length) := by
  have hn := c.toNat_lt
  have hof : UInt8.ofNat c.toNat = c := by simp
  rcases (by omega : c.toNat = 39 ∨ c.toNat = 92 ∨ c.toNat = 10 ∨ c.toNat = 9 ∨ ((c.toNat < 32 ∧ c.toNat ≠ 9 ∧ c.toNat ≠ 10) ∨ c.toNat = 127) ∨ (c.toNat ≠ 39 ∧ c.toNat ≠ 92 ∧ 32 ≤ c.toNat ∧ c.toNat ≠ 127)) with h | h | h | h | h | h
  · obtain rfl : c = 39 := eq_nat h
    exact get_esc (by decide) rfl (by decide) (escL_known rfl) hF
  · obtain rfl : c = 92 := eq_nat h
    exact get_esc (by decide) rfl (by decide) (escL_known rfl) hF
  · obtain rfl : c = 10 := eq_nat h
    exact get_esc (by decide) rfl (by decide) (escL_known rfl) hF
  · obtain rfl : c = 9 := eq_nat h
    exact get_esc (by decide) rfl (by decide) (escL_known rfl) hF
  · have hx : escL (120 :: (hexL c.toNat ++ 92 :: rest)) = some (c.toNat, (hexL c.toNat).length + 1 + 1) := by
      rw [escL_x (by decide) rfl, code_hex hn]; rfl
    have he : esc c ++ rest = 92 :: 120 :: (hexL c.toNat ++ 92 :: rest) := by rw [esc_hex h]; simp
    rw [he] at hF ⊢
    rw [get_esc (by decide) rfl (by decide) hx hF, hof, esc_hex h]
    have h1 : (120 :: (hexL c.toNat ++ 92 :: rest) : List UInt8).drop ((hexL c.toNat).length + 1 + 1) = rest := by
      rw [List.drop_succ_cons, ← List.drop_drop, List.drop_left]; rfl
    rw [h1]
    congr 1
    simp; omega
  · rw [esc_plain h.1 h.2.1 h.2.2.1 h.2.2.2] at hF ⊢
    exact get_one (fun e => h.1 (by rw [e]; rfl)) (fun e => by have := h.2.2.1; rw [e] at this; revert this; decide) (fun e => h.2.1 (by rw [e]; rfl)) hF
theorem quote_read (M : List UInt8) (hM : M = [] ∨ ∃ d l', M = d :: l' ∧ d ≠ 39) (F : Nat) : ∀ (L out : List UInt8) (n : Nat), (L.flatMap esc ++ 39 :: M).length < F →
    getL 39 F (L.flatMap esc ++ 39 :: M) out n = some (out ++ L, n + (L.flatMap esc).length + 1)
  | [], out, n, hF => by
    rw [List.flatMap_nil, List.nil_append, get_end rfl hM (by omega)]; simp
  | c :: L, out, n, hF => by
    have e : (c :: L).flatMap esc ++ 39 :: M = esc c ++ (L.flatMap esc ++ 39 :: M) := by simp
    rw [e] at hF ⊢
    rw [esc_read c _ out n F hF, quote_read M hM F L _ _ (by rw [List.length_append] at hF; omega)]
    simp only [List.flatMap_cons, List.length_append, List.append_assoc, List.cons_append, List.nil_append, Option.some.injEq, Prod.mk.injEq, true_and]
    omega
theorem quote_len (L : List UInt8) : (quoteL L).length = (L.flatMap esc).length + 1 := by unfold quoteL; simp
theorem back_read (L M : List UInt8) (hM : M = [] ∨ ∃ d l', M = d :: l' ∧ d ≠ 39) (F : Nat) (hF : (quoteL L ++ M).length < F) : getL 39 F (quoteL L ++ M) [] 0 = some (L, (quoteL L).length) := by
  have e : quoteL L ++ M = L.flatMap esc ++ 39 :: M := by unfold quoteL; simp
  rw [e] at hF ⊢
  rw [quote_read M hM F L [] 0 hF, quote_len]; simp
set_option maxRecDepth 100000 in
set_option maxHeartbeats 1000000 in
theorem law_back (s more : ByteArray) (w : World) (ht : Tab w) : Calls Tryd.prog 5 #[.string s, .string more] w (Says true w) := by
  have HT := Lib.hid ht
  clear ht
  by_cases l1 : 3000 < s.size
  · go_enter Tryd.func5, Tryd.ntmps5
    go_wp2_with (first
          | (go_at_call 9
             refine (go_alive _ HT.out).mono ?_
             rintro e1 w1 ⟨rfl, hb1⟩
             have BEL := Lib.hid hb1
             clear hb1))
    go_ret
    exact ⟨rfl, BEL.out⟩
  by_cases l2 : 100 < more.size
  · have l1' : s.size ≤ 3000 := by omega
    go_enter Tryd.func5, Tryd.ntmps5
    go_wp2_with (first
          | (go_at_call 9
             refine (go_alive _ HT.out).mono ?_
             rintro e1 w1 ⟨rfl, hb1⟩
             have BEL := Lib.hid hb1
             clear hb1))
    go_ret
    exact ⟨rfl, BEL.out⟩
  have l1' : s.size ≤ 3000 := by omega
  have l2' : more.size ≤ 100 := by omega
  by_cases l3 : ∃ h : 0 < more.size, more[0].toNat = 39
  · obtain ⟨l4, l5⟩ := l3
    have q : ((more[0].toNat : Int) == 39) = true := by simp; omega
    clear l5
    go_enter Tryd.func5, Tryd.ntmps5
    go_wp2_with (first
          | (go_at_call 9
             refine (go_alive _ HT.out).mono ?_
             rintro e1 w1 ⟨rfl, hb1⟩
             have BEL := Lib.hid hb1
             clear hb1))
    go_ret
    exact ⟨rfl, BEL.out⟩
  have hM : more.data.toList = [] ∨ ∃ d l', more.data.toList = d :: l' ∧ d ≠ 39 := by
    by_cases h : 0 < more.size
    · exact .inr ⟨_, _, cons_at h, fun e => l3 ⟨h, by rw [e]; rfl⟩⟩
    · refine .inl (List.length_eq_zero_iff.1 ?_)
      have : more.data.toList.length = more.size := by simp
      omega
  have hq : more.size = 0 ∨ (∃ h : 0 < more.size, ((more[0].toNat : Int) == 39) = false) := by
    by_cases h : 0 < more.size
    · refine .inr ⟨h, ?_⟩
      have : more[0].toNat ≠ 39 := fun e => l3 ⟨h, e⟩
      simp; omega
    · exact .inl (by omega)
  have HS := Lib.hid (show s.size ≤ maxLen by unfold maxLen; omega)
  have HS2 := Lib.hid (show s.size ≤ 100000 by omega)
  have HSS : Hid ((⟨s.data.toList.toArray⟩ : ByteArray) = s) := Lib.hid (bytes_ext (by simp))
  obtain ⟨P, hP⟩ : ∃ P : ByteArray, P = ⟨(putL s.data.toList).toArray⟩ := ⟨_, rfl⟩
  have HP := Lib.hid hP
  clear l1 l2 l3
  cases hpl : plainB s.data.toList with
  | true =>
    have HPL := Lib.hid hpl
    have he : (P.toList == s.toList) = true := by rw [hP, put_plain hpl, HSS.out]; simp
    clear hP hpl
    rcases hq with hq | ⟨hq1, hq⟩
    · go_enter Tryd.func5, Tryd.ntmps5
      go_wp2_with (first
            | (go_at_call 9
               refine (go_alive _ HT.out).mono ?_
               rintro e1 w1 ⟨rfl, hb1⟩
               have BEL := Lib.hid hb1
               clear hb1)
            | (go_at_call 14
               refine (go_Put s HS2.out _ (HT.out.on BEL.out)).mono ?_
               rintro e1 w1 ⟨rfl, hb1⟩
               rw [← HP.out]
               have BEL2 := Lib.hid (BEL.out.trans (hb1.mono BEL.out.size))
               clear BEL hb1
               have BEL := Lib.hid BEL2.out
               clear BEL2)
            | (go_at_call 12
               refine (go_Plain s HS.out _).mono ?_
               rintro e1 w1 ⟨rfl, hb1⟩
               rw [HPL.out]
               have BEL2 := Lib.hid (BEL.out.trans (hb1.mono BEL.out.size))
               clear BEL hb1
               have BEL := Lib.hid BEL2.out
               clear BEL2))
      go_ret
      exact ⟨rfl, BEL.out⟩
    · go_enter Tryd.func5, Tryd.ntmps5
      go_wp2_with (first
            | (go_at_call 9
               refine (go_alive _ HT.out).mono ?_
               rintro e1 w1 ⟨rfl, hb1⟩
               have BEL := Lib.hid hb1
               clear hb1)
            | (go_at_call 14
               refine (go_Put s HS2.out _ (HT.out.on BEL.out)).mono ?_
               rintro e1 w1 ⟨rfl, hb1⟩
               rw [← HP.out]
               have BEL2 := Lib.hid (BEL.out.trans (hb1.mono BEL.out.size))
               clear BEL hb1
               have BEL := Lib.hid BEL2.out
               clear BEL2)
            | (go_at_call 12
               refine (go_Plain s HS.out _).mono ?_
               rintro e1 w1 ⟨rfl, hb1⟩
               rw [HPL.out]
               have BEL2 := Lib.hid (BEL.out.trans (hb1.mono BEL.out.size))
               clear BEL hb1
               have BEL := Lib.hid BEL2.out
               clear BEL2))
      go_ret
      exact ⟨rfl, BEL.out⟩
  | false =>
    have HPL := Lib.hid hpl
    have hPd : P.data.toList = 39 :: quoteL s.data.toList := by rw [hP, put_quote hpl]
    have hPs : P.size = (quoteL s.data.toList).length + 1 := by
      have h1 : P.data.toList.length = P.size := by simp
      rw [hPd] at h1; simpa using h1.symm
    have hql := quote_len s.data.toList
    have hfl := flat_len s.data.toList
    have hsl : s.data.toList.length = s.size := by simp
    have hP2 : 2 ≤ P.size := by omega
    have hP3 : P.size ≤ 20000 := by omega
    have hP0 : 0 < P.size := by omega
    have q39 : ((P[0].toNat : Int) != 39) = false := by
      have h1 := get_data P 0 hP0
      rw [hPd] at h1
      simp only [List.getElem?_cons_zero, Option.some.injEq] at h1
      rw [← h1]; decide
    have hX : (P.extract 1 P.size ++ more).data.toList = quoteL s.data.toList ++ more.data.toList := by
      rw [ByteArray.data_append, Array.toList_append, ext_tail hP0, hPd]; rfl
    have hXS : (P.extract 1 P.size ++ more).size = (quoteL s.data.toList).length + more.size := by
      have h1 : (P.extract 1 P.size ++ more).data.toList.length = (P.extract 1 P.size ++ more).size := by simp
      rw [hX, List.length_append] at h1
      rw [← h1]; simp
    have HXS := Lib.hid (show (P.extract 1 P.size ++ more).size ≤ 100000 by omega)
    have HGET := Lib.hid (show getL 39 ((P.extract 1 P.size ++ more).size + 1) (P.extract 1 P.size ++ more).data.toList [] 0 = some (s.data.toList, (quoteL s.data.toList).length) by
      rw [hX]; exact back_read _ _ hM _ (by rw [List.length_append]; have : more.data.toList.length = more.size := by simp
                                            omega))
    have heq : (((quoteL s.data.toList).length : Int) == (P.size : Int) - 1) = true := by simp; omega
    have hes : (s.toList == s.toList) = true := by simp
    generalize (quoteL s.data.toList).length = m at *
    clear hP hpl hPd hPs hql hfl hsl hX hXS hM
    rcases hq with hq | ⟨hq1, hq⟩
    · go_enter Tryd.func5, Tryd.ntmps5
      go_wp2_with (first
            | (go_at_call 9
               refine (go_alive _ HT.out).mono ?_
               rintro e1 w1 ⟨rfl, hb1⟩
               have BEL := Lib.hid hb1
               clear hb1)
            | (go_at_call 14
               refine (go_Put s HS2.out _ (HT.out.on BEL.out)).mono ?_
               rintro e1 w1 ⟨rfl, hb1⟩
               rw [← HP.out]
               have BEL2 := Lib.hid (BEL.out.trans (hb1.mono BEL.out.size))
               clear BEL hb1
               have BEL := Lib.hid BEL2.out
               clear BEL2)
            | (go_at_call 12
               refine (go_Plain s HS.out _).mono ?_
               rintro e1 w1 ⟨rfl, hb1⟩
               rw [HPL.out]
               have BEL2 := Lib.hid (BEL.out.trans (hb1.mono BEL.out.size))
               clear BEL hb1
               have BEL := Lib.hid BEL2.out
               clear BEL2)
            | (go_at_call 16
               refine (go_Get _ 39 HXS.out _).mono ?_
               rintro e1 w1 ⟨h1, -, hb1⟩
               obtain rfl := h1 _ _ HGET.out
               try rw [HSS.out]
               have BEL2 := Lib.hid (BEL.out.trans (hb1.mono BEL.out.size))
               clear BEL hb1 h1
               have BEL := Lib.hid BEL2.out
               clear BEL2))
      go_ret
      exact ⟨rfl, BEL.out⟩
    · go_enter Tryd.func5, Tryd.ntmps5
      go_wp2_with (first
            | (go_at_call 9
               refine (go_alive _ HT.out).mono ?_
               rintro e1 w1 ⟨rfl, hb1⟩
               have BEL := Lib.hid hb1
               clear hb1)
            | (go_at_call 14
               refine (go_Put s HS2.out _ (HT.out.on BEL.out)).mono ?_
               rintro e1 w1 ⟨rfl, hb1⟩
               rw [← HP.out]
               have BEL2 := Lib.hid (BEL.out.trans (hb1.mono BEL.out.size))
               clear BEL hb1
               have BEL := Lib.hid BEL2.out
               clear BEL2)
            | (go_at_call 12
               refine (go_Plain s HS.out _).mono ?_
               rintro e1 w1 ⟨rfl, hb1⟩
               rw [HPL.out]
               have BEL2 := Lib.hid (BEL.out.trans (hb1.mono BEL.out.size))
               clear BEL hb1
               have BEL := Lib.hid BEL2.out
               clear BEL2)
            | (go_at_call 16
               refine (go_Get _ 39 HXS.out _).mono ?_
               rintro e1 w1 ⟨h1, -, hb1⟩
               obtain rfl := h1 _ _ HGET.out
               try rw [HSS.out]
               have BEL2 := Lib.hid (BEL.out.trans (hb1.mono BEL.out.size))
               clear BEL hb1 h1
               have BEL := Lib.hid BEL2.out
               clear BEL2))
      go_ret
      exact ⟨rfl, BEL.out⟩
end Go.Proofs.YtnjgjclhecedeaaDoor.Nam
