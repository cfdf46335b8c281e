
/-
  Layer 2: escape, walked over the program.
-/
import Derived.Test.YtohfgfmekciekaaDoorNaH
namespace Go.Proofs.YtohfgfmekciekaaDoor.Nam
open Go Go.RowKit Go.Proofs.YtohfgfmekciekaaDoor.Reg Go.Proofs.YtohfgfmekciekaaDoor.Byt Go.Proofs.YtohfgfmekciekaaDoor.Maps
set_option linter.unusedVariables false
set_option linter.unusedSimpArgs false

theorem codeL_le {b : Nat} : ∀ {l : List UInt8} {i n m k : Nat}, codeL b i n l = some (m, k) → n ≤ 255 → k ≤ i + l.length ∧ m ≤ 255 ∧ i < k
  | [], i, n, m, k, h, _ => by simp [codeL] at h
  | c :: l, i, n, m, k, h, hn => by
    unfold codeL at h
    split at h
    · split at h
      · cases h
      · simp only [Option.some.injEq, Prod.mk.injEq] at h; simp only [List.length_cons]; omega
    · split at h
      · cases h
      · split at h
        · cases h
        · have := codeL_le h (by omega); simp only [List.length_cons]; omega
theorem findI_ne {op k : Int} {v : Value} {c i : Nat} {es : List MapEntry} (h : ¬ op = k) : Instr.findNow (.int .u8) (.int .u8 op) (⟨.int .u8 k, v, c⟩ :: es) i = Instr.findNow (.int .u8) (.int .u8 op) es (i + 1) := by
  have : (op == k) = false := by simpa using h
  simp only [Instr.findNow, Instr.sameNow, this, if_true]
theorem find_no {c : UInt8} (h : knownL c = none) : Instr.findNow (.int .u8) (.int .u8 c.toNat) escEntries.toList 0 = some none := by
  have hne : ∀ n : Nat, n < 256 → (knownL (UInt8.ofNat n)).isSome = true → ¬ (c.toNat : Int) = n := fun n hn hs e => by
    have : c = UInt8.ofNat n := eq_nat (by omega)
    rw [this] at h; rw [h] at hs; cases hs
  refine (findI_ne (hne 110 (by decide) (by decide))).trans ?_
  refine (findI_ne (hne 114 (by decide) (by decide))).trans ?_
  refine (findI_ne (hne 116 (by decide) (by decide))).trans ?_
  refine (findI_ne (hne 97 (by decide) (by decide))).trans ?_
  refine (findI_ne (hne 98 (by decide) (by decide))).trans ?_
  refine (findI_ne (hne 102 (by decide) (by decide))).trans ?_
  refine (findI_ne (hne 118 (by decide) (by decide))).trans ?_
  refine (findI_ne (hne 92 (by decide) (by decide))).trans ?_
  refine (findI_ne (hne 39 (by decide) (by decide))).trans ?_
  refine (findI_ne (hne 34 (by decide) (by decide))).trans ?_
  refine (findI_ne (hne 96 (by decide) (by decide))).trans ?_
  rfl
theorem known_ways (c : UInt8) : knownL c = none ∨ c = 110 ∨ c = 114 ∨ c = 116 ∨ c = 97 ∨ c = 98 ∨ c = 102 ∨ c = 118 ∨ c = 92 ∨ c = 39 ∨ c = 34 ∨ c = 96 := by
  unfold knownL
  by_cases h1 : c = 110; · exact .inr (.inl h1)
  by_cases h2 : c = 114; · exact .inr (.inr (.inl h2))
  by_cases h3 : c = 116; · exact .inr (.inr (.inr (.inl h3)))
  by_cases h4 : c = 97; · exact .inr (.inr (.inr (.inr (.inl h4))))
  by_cases h5 : c = 98; · exact .inr (.inr (.inr (.inr (.inr (.inl h5)))))
  by_cases h6 : c = 102; · exact .inr (.inr (.inr (.inr (.inr (.inr (.inl h6))))))
  by_cases h7 : c = 118; · exact .inr (.inr (.inr (.inr (.inr (.inr (.inr (.inl h7)))))))
  by_cases h8 : c = 92; · exact .inr (.inr (.inr (.inr (.inr (.inr (.inr (.inr (.inl h8))))))))
  by_cases h9 : c = 39; · exact .inr (.inr (.inr (.inr (.inr (.inr (.inr (.inr (.inr (.inl h9)))))))))
  by_cases h10 : c = 34; · exact .inr (.inr (.inr (.inr (.inr (.inr (.inr (.inr (.inr (.inr (.inl h10))))))))))
  by_cases h11 : c = 96; · exact .inr (.inr (.inr (.inr (.inr (.inr (.inr (.inr (.inr (.inr (.inr h11))))))))))
  rw [if_neg h1, if_neg h2, if_neg h3, if_neg h4, if_neg h5, if_neg h6, if_neg h7, if_neg (by
    rintro (e | e | e | e)
    · exact h8 e
    · exact h9 e
    · exact h10 e
    · exact h11 e)]
  exact .inl rfl
theorem find_yes (c : UInt8) : knownL c = none ∨ ∃ i n, knownL c = some n ∧ Instr.findNow (.int .u8) (.int .u8 c.toNat) escEntries.toList 0 = some (some (i, .int .i64 n)) := by
  rcases known_ways c with h | rfl | rfl | rfl | rfl | rfl | rfl | rfl | rfl | rfl | rfl | rfl
  · exact .inl h
  · exact .inr ⟨0, 10, rfl, rfl⟩
  · exact .inr ⟨1, 13, rfl, rfl⟩
  · exact .inr ⟨2, 9, rfl, rfl⟩
  · exact .inr ⟨3, 7, rfl, rfl⟩
  · exact .inr ⟨4, 8, rfl, rfl⟩
  · exact .inr ⟨5, 12, rfl, rfl⟩
  · exact .inr ⟨6, 11, rfl, rfl⟩
  · exact .inr ⟨7, 92, rfl, rfl⟩
  · exact .inr ⟨8, 39, rfl, rfl⟩
  · exact .inr ⟨9, 34, rfl, rfl⟩
  · exact .inr ⟨10, 96, rfl, rfl⟩
theorem zero_int (w : World) : (zeroValue 3).run Tryd.prog w = .ok (.int .i64 0) w := by kernel_rfl
theorem octB_iff (c : UInt8) : octB c = true ↔ 48 ≤ c.toNat ∧ c.toNat ≤ 55 := by
  unfold octB; simp [UInt8.le_iff_toNat_le]
theorem go_oct (c : UInt8) (w : World) : Calls Tryd.prog 31 #[.int .u8 c.toNat] w (fun e w' => e = .returned (.bool (octB c)) ∧ w = w') := by
  have hc := c.toNat_lt
  have HO := Lib.hid (octB_iff c)
  generalize octB c = o at *
  generalize c.toNat = n at *
  go_enter Tryd.func31, Tryd.ntmps31
  go_wp2
  all_goals
    go_ret
    refine ⟨ret_bool ?_, rfl⟩
    have := HO.out
    cases o
    all_goals first
      | (simp at this ⊢; done)
      | (simp at this ⊢; omega)
theorem ext_tail {s : ByteArray} (h : 0 < s.size) : (s.extract 1 s.size).data.toList = s.data.toList.drop 1 := by
  simp [ByteArray.data_extract]
  try exact List.take_of_length_le (by simp)
theorem cons_at {s : ByteArray} (h : 0 < s.size) : s.data.toList = s[0] :: s.data.toList.drop 1 := by
  have := drop_at h; simpa using this
/-- may a '0' stand alone here? -/
def zeroB : List UInt8 → Bool
  | [] => true
  | d :: _ => !octB d && d != 92
theorem escL_known {c : UInt8} {l : List UInt8} {n : Nat} (h : knownL c = some n) : escL (c :: l) = some (n, 1) := by simp only [escL, h]
theorem escL_x {c : UInt8} {l : List UInt8} (h : knownL c = none) (hc : c = 120) : escL (c :: l) = (codeL 16 0 0 l).map fun p => (p.1, p.2 + 1) := by simp only [escL, h]; rw [if_pos hc]
theorem escL_0 {c : UInt8} {l : List UInt8} (h : knownL c = none) (hc : c ≠ 120) (h0 : c = 48 ∧ zeroB l = true) : escL (c :: l) = some (0, 1) := by
  simp only [escL, h]; rw [if_neg hc]
  cases l <;> exact if_pos h0
theorem escL_oct {c : UInt8} {l : List UInt8} (h : knownL c = none) (hc : c ≠ 120) (h0 : ¬ (c = 48 ∧ zeroB l = true)) (ho : octB c = true) : escL (c :: l) = codeL 8 0 0 (c :: l) := by
  simp only [escL, h]; rw [if_neg hc]
  cases l <;> exact (if_neg h0).trans (if_pos ho)
theorem escL_no {c : UInt8} {l : List UInt8} (h : knownL c = none) (hc : c ≠ 120) (h0 : ¬ (c = 48 ∧ zeroB l = true)) (ho : octB c = false) : escL (c :: l) = none := by
  simp only [escL, h]; rw [if_neg hc]
  cases l <;> exact (if_neg h0).trans (if_neg (by rw [ho]; decide))
set_option maxRecDepth 100000 in
set_option maxHeartbeats 2000000 in
theorem go_escape (s : ByteArray) (h0 : 0 < s.size) (hs : s.size ≤ 1000000) (b : Nat) (w : World) (hm : w.heap[b]? = some (.map escEntries 11)) :
    Calls Tryd.prog 26 #[.string s, .map (some b)] w (CdPost (escL s.data.toList) w) := by
  have HM := Lib.hid hm
  have HC := Lib.hid (cons_at h0)
  clear hm
  rcases find_yes s[0] with hk | ⟨i, n, hk, hf⟩
  · have HFI := Lib.hid (find_no hk)
    by_cases hx : s[0].toNat = 120
    · have q : ((s[0].toNat : Int) == 120) = true := by simp; omega
      have hE := escL_x (l := s.data.toList.drop 1) hk (eq_nat hx)
      rw [← HC.out, ← ext_tail h0] at hE
      have hsz : (s.extract 1 s.size).size ≤ maxLen := by unfold maxLen; simp [ByteArray.size_extract]; omega
      have HSZ := Lib.hid hsz
      cases hcd : codeL 16 0 0 (s.extract 1 s.size).data.toList with
      | none =>
        rw [hcd] at hE
        have HE := Lib.hid hE
        have HCD := Lib.hid hcd
        clear hE hcd hx hk hsz
        go_enter Tryd.func26, Tryd.ntmps26
        go_wp2_with (first
          | (refine wpList_lookup_now rfl 43 (.tmp 9) (.tmp 11) rfl _ _ _ Tryd.underlying43 Tryd.underlying5 rfl b _ _ rfl HM.out _ HFI.out (.int .i64 0) zero_int ?_)
          | (go_at_call 32; refine (go_coded 16 (by decide) (by decide) _ HSZ.out _).mono ?_; rintro e1 w1 ⟨-, h2, rfl⟩; obtain ⟨n1, k1, rfl⟩ := h2 HCD.out))
        go_ret3
        exact cd_none _ _ _ HE.out
      | some p =>
        obtain ⟨n1, k1⟩ := p
        rw [hcd] at hE
        have hlen : k1 ≤ 2000000 := by
          have h1 := (codeL_le hcd (by omega)).1
          have h2 : (s.extract 1 s.size).data.toList.length ≤ s.size := by rw [ext_tail h0]; simp
          omega
        have HE := Lib.hid hE
        have HCD := Lib.hid hcd
        clear hE hcd hx hk hsz
        go_enter Tryd.func26, Tryd.ntmps26
        go_wp2_with (first
          | (refine wpList_lookup_now rfl 43 (.tmp 9) (.tmp 11) rfl _ _ _ Tryd.underlying43 Tryd.underlying5 rfl b _ _ rfl HM.out _ HFI.out (.int .i64 0) zero_int ?_)
          | (go_at_call 32; refine (go_coded 16 (by decide) (by decide) _ HSZ.out _).mono ?_; rintro e1 w1 ⟨h1, -, rfl⟩; obtain rfl := h1 _ _ HCD.out; clear h1))
        go_ret3
        exact cd_some _ HE.out rfl rfl
    have q : ((s[0].toNat : Int) == 120) = false := by simp; omega
    have hx' : s[0] ≠ 120 := fun e => hx (by rw [e]; rfl)
    by_cases hz : s[0] = 48 ∧ zeroB (s.data.toList.drop 1) = true
    · have HE := Lib.hid (escL_0 hk hx' hz)
      rw [← HC.out] at HE
      obtain ⟨hz1, hz2⟩ := hz
      have q0 : ((s[0].toNat : Int) == 48) = true := by rw [hz1]; decide
      by_cases h1 : s.size = 1
      · have q1 : ((s.size : Int) == 1) = true := by simp; omega
        clear hz1 hz2 hx hx' hk h1
        go_enter Tryd.func26, Tryd.ntmps26
        go_wp2_with (first
          | (refine wpList_lookup_now rfl 43 (.tmp 9) (.tmp 11) rfl _ _ _ Tryd.underlying43 Tryd.underlying5 rfl b _ _ rfl HM.out _ HFI.out (.int .i64 0) zero_int ?_))
        go_ret3
        exact cd_some _ HE.out rfl rfl
      · have h2 : 1 < s.size := by omega
        have q1 : ((s.size : Int) == 1) = false := by simp; omega
        rw [drop_at h2] at hz2
        simp only [zeroB, Bool.and_eq_true, Bool.not_eq_true', bne_iff_ne, ne_eq] at hz2
        have q2 : ((s[1].toNat : Int) != 92) = true := by
          have : s[1].toNat ≠ 92 := fun e => hz2.2 (eq_nat e)
          simp; omega
        have HOC := Lib.hid hz2.1
        clear hz1 hz2 hx hx' hk h1
        go_enter Tryd.func26, Tryd.ntmps26
        go_wp2_with (first
          | (refine wpList_lookup_now rfl 43 (.tmp 9) (.tmp 11) rfl _ _ _ Tryd.underlying43 Tryd.underlying5 rfl b _ _ rfl HM.out _ HFI.out (.int .i64 0) zero_int ?_)
          | (go_at_call 31; refine (go_oct _ _).mono ?_; rintro e1 w1 ⟨rfl, rfl⟩; rw [HOC.out]))
        go_ret3
        exact cd_some _ HE.out rfl rfl
    · -- the ways of '0' that is not alone
      have hq : ((s[0].toNat : Int) == 48) = false ∨ ((s[0].toNat : Int) == 48) = true ∧ 1 < s.size ∧ ((s.size : Int) == 1) = false ∧ ∃ h : 1 < s.size, octB s[1] = true ∨ octB s[1] = false ∧ ((s[1].toNat : Int) != 92) = false := by
        by_cases e : s[0].toNat = 48
        · refine .inr ⟨by simp; omega, ?_⟩
          by_cases h1 : s.size = 1
          · exact absurd ⟨eq_nat e, by rw [List.drop_of_length_le (by simp; omega)]; rfl⟩ hz
          · have h2 : 1 < s.size := by omega
            refine ⟨h2, by simp; omega, h2, ?_⟩
            cases ho : octB s[1] with
            | true => exact .inl rfl
            | false =>
              refine .inr ⟨rfl, ?_⟩
              have : ¬ s[1].toNat ≠ 92 := fun hne => hz ⟨eq_nat e, by
                rw [drop_at h2]
                simp only [zeroB, ho, Bool.not_false, Bool.true_and, bne_iff_ne, ne_eq]
                exact fun e2 => hne (by rw [e2]; rfl)⟩
              simp; omega
        · exact .inl (by simp; omega)
      cases ho : octB s[0] with
      | true =>
        have HE := Lib.hid (escL_oct hk hx' hz ho)
        rw [← HC.out] at HE
        have HOC := Lib.hid ho
        have HSZ := Lib.hid (show s.size ≤ maxLen by unfold maxLen; omega)
        cases hcd : codeL 8 0 0 s.data.toList with
        | none =>
          have HCD := Lib.hid hcd
          have HE2 := Lib.hid (HE.out.trans hcd)
          clear hcd hx hx' hk hz ho
          rcases hq with q0 | ⟨q0, h2, q1, hh, q2 | ⟨q2, q3⟩⟩
          all_goals
            first | have HO1 := Lib.hid q2 | have HO1 := Lib.hid True.intro
            try clear q2
            go_enter Tryd.func26, Tryd.ntmps26
            go_wp2_with (first
              | (refine wpList_lookup_now rfl 43 (.tmp 9) (.tmp 11) rfl _ _ _ Tryd.underlying43 Tryd.underlying5 rfl b _ _ rfl HM.out _ HFI.out (.int .i64 0) zero_int ?_)
              | (go_at_call 31; refine (go_oct _ _).mono ?_; rintro e1 w1 ⟨rfl, rfl⟩; first | rw [HO1.out] | rw [HOC.out])
              | (go_at_call 32; refine (go_coded 8 (by decide) (by decide) _ HSZ.out _).mono ?_; rintro e1 w1 ⟨-, h2, rfl⟩; obtain ⟨n1, k1, rfl⟩ := h2 HCD.out))
            go_ret3
            exact cd_none _ _ _ HE2.out
        | some p =>
          obtain ⟨n1, k1⟩ := p
          have HCD := Lib.hid hcd
          have HE2 := Lib.hid (HE.out.trans hcd)
          clear hcd hx hx' hk hz ho
          rcases hq with q0 | ⟨q0, h2, q1, hh, q2 | ⟨q2, q3⟩⟩
          all_goals
            first | have HO1 := Lib.hid q2 | have HO1 := Lib.hid True.intro
            try clear q2
            go_enter Tryd.func26, Tryd.ntmps26
            go_wp2_with (first
              | (refine wpList_lookup_now rfl 43 (.tmp 9) (.tmp 11) rfl _ _ _ Tryd.underlying43 Tryd.underlying5 rfl b _ _ rfl HM.out _ HFI.out (.int .i64 0) zero_int ?_)
              | (go_at_call 31; refine (go_oct _ _).mono ?_; rintro e1 w1 ⟨rfl, rfl⟩; first | rw [HO1.out] | rw [HOC.out])
              | (go_at_call 32; refine (go_coded 8 (by decide) (by decide) _ HSZ.out _).mono ?_; rintro e1 w1 ⟨h1, -, rfl⟩; obtain rfl := h1 _ _ HCD.out; clear h1))
            go_ret3
            exact cd_some _ HE2.out rfl rfl
      | false =>
        have HE := Lib.hid (escL_no hk hx' hz ho)
        rw [← HC.out] at HE
        have HOC := Lib.hid ho
        have q0 : ((s[0].toNat : Int) == 48) = false := by
          have : ¬ (48 ≤ s[0].toNat ∧ s[0].toNat ≤ 55) := fun h => by rw [(octB_iff _).2 h] at ho; cases ho
          simp; omega
        clear hq hx hx' hk hz ho
        go_enter Tryd.func26, Tryd.ntmps26
        go_wp2_with (first
          | (refine wpList_lookup_now rfl 43 (.tmp 9) (.tmp 11) rfl _ _ _ Tryd.underlying43 Tryd.underlying5 rfl b _ _ rfl HM.out _ HFI.out (.int .i64 0) zero_int ?_)
          | (go_at_call 31; refine (go_oct _ _).mono ?_; rintro e1 w1 ⟨rfl, rfl⟩; rw [HOC.out]))
        go_ret3
        exact cd_none _ _ _ HE.out
  · have HFI := Lib.hid hf
    have HE := Lib.hid (escL_known (l := s.data.toList.drop 1) hk)
    rw [← HC.out] at HE
    clear hf hk
    go_enter Tryd.func26, Tryd.ntmps26
    go_wp2_with (first
      | (refine wpList_lookup_now rfl 43 (.tmp 9) (.tmp 11) rfl _ _ _ Tryd.underlying43 Tryd.underlying5 rfl b _ _ rfl HM.out _ HFI.out (.int .i64 0) zero_int ?_))
    go_ret3
    exact cd_some _ HE.out rfl rfl
end Go.Proofs.YtohfgfmekciekaaDoor.Nam
