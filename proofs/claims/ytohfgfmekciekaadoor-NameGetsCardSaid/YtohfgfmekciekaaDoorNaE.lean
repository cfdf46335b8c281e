
/-
  Layer 2's reference: Plain, walked over the program.
-/
import Derived.Test.YtohfgfmekciekaaDoorNaD
namespace Go.Proofs.YtohfgfmekciekaaDoor.Nam
open Go Go.RowKit Go.Proofs.YtohfgfmekciekaaDoor.Reg
set_option linter.unusedVariables false
set_option linter.unusedSimpArgs false

/-- so far no byte is wrong -/
structure PlRel (ok : UInt8 → Bool) (s : ByteArray) (w : World) (i : Value) (wr : World) : Prop where
  same : w = wr
  at_ : ∃ k : Nat, k ≤ s.size ∧ i = .int .i64 k ∧ Hid ((s.data.toList.take k).all ok = true)
theorem PlRel.start (ok : UInt8 → Bool) (s : ByteArray) (w : World) : PlRel ok s w (.int .i64 0) w := ⟨rfl, 0, Nat.zero_le _, rfl, Lib.hid rfl⟩
theorem all_snoc {ok : UInt8 → Bool} {s : ByteArray} {k : Nat} (h : k < s.size) (h1 : (s.data.toList.take k).all ok = true) (h2 : ok s[k] = true) : (s.data.toList.take (k + 1)).all ok = true := by
  rw [take_snoc s k h, List.all_append, h1]; simpa using h2
theorem all_not {ok : UInt8 → Bool} {s : ByteArray} {k : Nat} (h : k < s.size) (h2 : ok s[k] = false) : s.data.toList.all ok = false := by
  rw [Bool.eq_false_iff]
  intro h3
  rw [List.all_eq_true] at h3
  have := h3 s[k] (by have : s[k] = s.data.toList[k]'(by simpa using h) := rfl
                      rw [this]; exact List.getElem_mem _)
  rw [h2] at this; cases this
theorem all_end {ok : UInt8 → Bool} {s : ByteArray} (h : (s.data.toList.take s.size).all ok = true) : s.data.toList.all ok = true := by rwa [List.take_of_length_le (by simp)] at h
def Tells (b : Bool) (w : World) (e : Ending) (w' : World) : Prop := e = .returned (.bool b) ∧ w = w'
theorem tells {a b : Bool} (w : World) (h : a = b) : Tells b w (.returned (.bool a)) w := by subst h; exact ⟨rfl, rfl⟩
set_option maxRecDepth 100000 in
set_option maxHeartbeats 2000000 in
theorem ref_Plain (s : ByteArray) (hs : s.size ≤ maxLen) (w : World) : Calls Tryd.prog 13 #[.string s] w (Tells (plainB s.data.toList) w) := by
  unfold maxLen at hs
  by_cases h1 : s.data.toList = [] ∨ s.data.toList = [46]
  · have HR : Hid (plainB s.data.toList = false) := Lib.hid (if_pos h1)
    rcases h1 with h | h
    all_goals
      obtain rfl := lit_yes h
      clear h hs
      go_enter Tryd.func13, Tryd.ntmps13
      go_wp2
      go_ret
      exact tells _ HR.out.symm
  by_cases h2 : s.data.toList = [91, 93] ∨ s.data.toList = [33] ∨ s.data.toList = [59] ∨ s.data.toList = [123, 125]
  · have HR : Hid (plainB s.data.toList = true) := Lib.hid (by unfold plainB; rw [if_neg h1, if_pos h2])
    rcases h2 with h | h | h | h
    all_goals
      obtain rfl := lit_yes h
      clear h hs h1
      go_enter Tryd.func13, Tryd.ntmps13
      go_wp2
      go_ret
      exact tells _ HR.out.symm
  have b1 := lit_no (a := s) (fun h => h1 (.inl h))
  have b1' : s.toList.isEmpty = false := by
    cases e : s.toList with
    | nil => rw [e] at b1; cases b1
    | cons a l => rfl
  have b2 := lit_no (a := s) (fun h => h1 (.inr h))
  have b3 := lit_no (a := s) (fun h => h2 (.inl h))
  have b4 := lit_no (a := s) (fun h => h2 (.inr (.inl h)))
  have b5 := lit_no (a := s) (fun h => h2 (.inr (.inr (.inl h))))
  have b6 := lit_no (a := s) (fun h => h2 (.inr (.inr (.inr h))))
  have h0 : 0 < s.size := by
    have : s.data.toList.length ≠ 0 := fun e => h1 (.inl (List.length_eq_zero_iff.1 e))
    have h3 : s.data.toList.length = s.size := by simp
    omega
  have hlist : ∃ r, s.data.toList = s[0] :: r := by
    have := get_data s 0 h0
    cases e : s.data.toList with
    | nil => rw [e] at this; cases this
    | cons a l => rw [e] at this; simp at this; exact ⟨l, by rw [this]⟩
  obtain ⟨r, hr⟩ := hlist
  have HW := Lib.hid (fun hc => plain_word h1 h2 hr hc)
  have HG := Lib.hid (fun hc => plain_sign h1 h2 hr hc)
  have hcom : (2 ≤ s.size ∧ ((if h : 1 < s.size then s[0].toNat = 47 ∧ s[1].toNat = 42 else False))) ↔ comB s.data.toList = true := by
    by_cases h : 1 < s.size
    · rw [dif_pos h]
      have g0 := get_data s 0 h0
      have g1 := get_data s 1 h
      rw [hr] at g1 ⊢
      cases r with
      | nil => simp at g1
      | cons d r =>
        simp at g1
        simp only [comB, Bool.and_eq_true, beq_iff_eq, ← g1]
        rw [← UInt8.toNat_inj, ← UInt8.toNat_inj]
        show _ ∧ _ ↔ s[0].toNat = 47 ∧ d.toNat = 42
        exact ⟨fun h => h.2, fun h2 => ⟨h, h2⟩⟩
    · rw [dif_neg h]
      refine ⟨fun h => h.2.elim, fun h3 => ?_⟩
      have hl : s.data.toList.length = s.size := by simp
      rw [hr] at h3 hl
      cases r with
      | nil => cases h3
      | cons d r => simp at hl; omega
  have HC := Lib.hid hcom
  clear h1 h2 hcom
  cases hcm : comB s.data.toList with
  | true =>
    have hx := HC.out.2 hcm
    obtain ⟨g2, hx⟩ := hx
    rw [dif_pos (by omega)] at hx
    obtain ⟨x0, x1⟩ := hx
    have q0 : ((s[0].toNat : Int) == 47) = true := by simp; omega
    have q1 : ((s[1].toNat : Int) == 42) = true := by simp; omega
    have hs0 : sort s[0] ≠ 2 := by unfold sort; rw [x0]; decide
    have HR : Hid (plainB s.data.toList = false) := Lib.hid (by rw [HG.out hs0, hcm]; rfl)
    clear hcm hs0 x0 x1
    go_enter Tryd.func13, Tryd.ntmps13
    go_wp2
    go_ret
    exact tells _ HR.out.symm
  | false =>
    have hq : s.size < 2 ∨ (2 ≤ s.size ∧ ∃ h : 1 < s.size, ((s[0].toNat : Int) == 47) = false) ∨ (2 ≤ s.size ∧ ∃ h : 1 < s.size, ((s[0].toNat : Int) == 47) = true ∧ ((s[1].toNat : Int) == 42) = false) := by
      by_cases g : 2 ≤ s.size
      · have hx := mt HC.out.1 (by rw [hcm]; decide)
        have g1 : 1 < s.size := by omega
        rw [dif_pos g1] at hx
        by_cases e : s[0].toNat = 47
        · refine .inr (.inr ⟨g, g1, by simp; omega, ?_⟩)
          simp
          have : ¬ s[1].toNat = 42 := fun e2 => hx ⟨g, e, e2⟩
          omega
        · exact .inr (.inl ⟨g, g1, by simp; omega⟩)
      · exact .inl (by omega)
    have HS0 : Hid (sort s[0] ≠ 2 → plainB s.data.toList = signsB s.data.toList) := Lib.hid (fun h => by rw [HG.out h, hcm]; rfl)
    have HF : Hid (sort s[0] ≠ 2 → sort s[0] ≠ 5 → signsB s.data.toList = false) := Lib.hid (fun _ h => all_not h0 (by unfold signB; simpa using h))
    have hf8 := sort_hi s[0]
    clear hcm HG HC hr r
    generalize hf : sort s[0] = f at *
    have HFQ := Lib.hid hf
    clear hf
    rcases (by omega : f = 2 ∨ f = 5 ∨ (f ≠ 2 ∧ f ≠ 5)) with rfl | rfl | ⟨f2, f5⟩
    · have HR := Lib.hid (HW.out rfl)
      clear HW HS0 HF hf8
      have HST := Lib.hid (PlRel.start wordB s w)
      rcases hq with hq | ⟨hq, hq1, hq2⟩ | ⟨hq, hq1, hq2, hq3⟩
      all_goals
        go_enter Tryd.func13, Tryd.ntmps13
        go_wp2_with (go_at_call 11; refine (ref_Sort _ _).mono ?_; rintro e1 w1 ⟨rfl, rfl⟩; rw [HFQ.out])
        go_loopw [4] (fun i wr => PlRel wordB s w i wr) (fun i _ => s.size - (intOf i).toNat)
        case atStart => exact HST.out
        case round =>
          obtain ⟨rfl, k, hk, rfl, HN⟩ := hrel
          clear HST
          by_cases hlt : k < s.size
          · cases hw : wordB s[k] with
            | true =>
              have HT := Lib.hid (all_snoc hlt HN.out hw)
              have hm : sort s[k] = 2 ∨ sort s[k] = 3 ∨ sort s[k] = 4 := by unfold wordB at hw; simpa [or_assoc] using hw
              clear hw
              rcases hm with hm | hm | hm
              all_goals
                have HM := Lib.hid hm
                clear hm
                go_wp2_with (go_at_call 11; refine (ref_Sort _ _).mono ?_; rintro e1 w1 ⟨rfl, rfl⟩; rw [HM.out])
                go_roundw
                case rel => exact ⟨rfl, k + 1, by omega, by go_num, HT⟩
                case measure => simp [intOf]; omega
            | false =>
              have HT := Lib.hid (all_not hlt hw)
              obtain ⟨m, hm⟩ : ∃ m, m = sort s[k] := ⟨_, rfl⟩
              have HM := Lib.hid hm
              unfold wordB at hw
              rw [← hm] at hw
              simp only [Bool.or_eq_false_iff, beq_eq_false_iff_ne] at hw
              have q2 : ((m : Int) != 2) = true := by simp; omega
              have q3 : ((m : Int) != 3) = true := by simp; omega
              have q4 : ((m : Int) != 4) = true := by simp; omega
              clear hw hm
              go_wp2_with (go_at_call 11; refine (ref_Sort _ _).mono ?_; rintro e1 w1 ⟨rfl, rfl⟩; rw [← HM.out])
              go_ret
              exact tells _ (by rw [HR.out]; exact HT.out.symm)
          · obtain rfl : k = s.size := by omega
            have HT := Lib.hid (all_end HN.out)
            clear hlt
            go_wp2
            go_ret
            exact tells _ (by rw [HR.out]; exact HT.out.symm)
    · have HR := Lib.hid (HS0.out (by decide))
      clear HW HS0 HF hf8
      have HST := Lib.hid (PlRel.start signB s w)
      rcases hq with hq | ⟨hq, hq1, hq2⟩ | ⟨hq, hq1, hq2, hq3⟩
      all_goals
        go_enter Tryd.func13, Tryd.ntmps13
        go_wp2_with (go_at_call 11; refine (ref_Sort _ _).mono ?_; rintro e1 w1 ⟨rfl, rfl⟩; rw [HFQ.out])
        go_loopw [4] (fun i wr => PlRel signB s w i wr) (fun i _ => s.size - (intOf i).toNat)
        case atStart => exact HST.out
        case round =>
          obtain ⟨rfl, k, hk, rfl, HN⟩ := hrel
          clear HST
          by_cases hlt : k < s.size
          · cases hw : signB s[k] with
            | true =>
              have HT := Lib.hid (all_snoc hlt HN.out hw)
              have hm : sort s[k] = 5 := by unfold signB at hw; simpa using hw
              have HM := Lib.hid hm
              clear hw hm
              go_wp2_with (go_at_call 11; refine (ref_Sort _ _).mono ?_; rintro e1 w1 ⟨rfl, rfl⟩; rw [HM.out])
              go_roundw
              case rel => exact ⟨rfl, k + 1, by omega, by go_num, HT⟩
              case measure => simp [intOf]; omega
            | false =>
              have HT := Lib.hid (all_not hlt hw)
              obtain ⟨m, hm⟩ : ∃ m, m = sort s[k] := ⟨_, rfl⟩
              have HM := Lib.hid hm
              unfold signB at hw
              rw [← hm] at hw
              simp only [beq_eq_false_iff_ne] at hw
              have q5 : ((m : Int) != 5) = true := by simp; omega
              clear hw hm
              go_wp2_with (go_at_call 11; refine (ref_Sort _ _).mono ?_; rintro e1 w1 ⟨rfl, rfl⟩; rw [← HM.out])
              go_ret
              exact tells _ (by rw [HR.out]; exact HT.out.symm)
          · obtain rfl : k = s.size := by omega
            have HT := Lib.hid (all_end HN.out)
            clear hlt
            go_wp2
            go_ret
            exact tells _ (by rw [HR.out]; exact HT.out.symm)
    · have HR := Lib.hid ((HS0.out f2).trans (HF.out f2 f5))
      clear HW HS0 HF hf8
      have q2 : ((f : Int) == 2) = false := by simp; omega
      have q5 : ((f : Int) == 5) = false := by simp; omega
      clear f2 f5
      have HST := Lib.hid (PlRel.start (fun _ => true) s w)
      rcases hq with hq | ⟨hq, hq1, hq2⟩ | ⟨hq, hq1, hq2, hq3⟩
      all_goals
        go_enter Tryd.func13, Tryd.ntmps13
        go_wp2_with (go_at_call 11; refine (ref_Sort _ _).mono ?_; rintro e1 w1 ⟨rfl, rfl⟩; rw [HFQ.out])
        go_loopw [4] (fun i wr => PlRel (fun _ => true) s w i wr) (fun i _ => s.size - (intOf i).toNat)
        case atStart => exact HST.out
        case round =>
          obtain ⟨rfl, k, hk, rfl, HN⟩ := hrel
          clear HST
          by_cases hlt : k < s.size
          · have HT := Lib.hid (all_snoc hlt HN.out rfl)
            go_wp2_with (go_at_call 11; refine (ref_Sort _ _).mono ?_; rintro e1 w1 ⟨rfl, rfl⟩)
            go_roundw
            case rel => exact ⟨rfl, k + 1, by omega, by go_num, HT⟩
            case measure => simp [intOf]; omega
          · obtain rfl : k = s.size := by omega
            clear hlt
            go_wp2
            go_ret
            exact tells _ HR.out.symm
end Go.Proofs.YtohfgfmekciekaaDoor.Nam
