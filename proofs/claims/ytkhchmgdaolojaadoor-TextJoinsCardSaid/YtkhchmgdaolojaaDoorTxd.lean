
/-
  Layer 16: numberOf, walked.
-/
import Derived.Test.YtkhchmgdaolojaaDoorTxc
import Derived.Test.YtkhchmgdaolojaaDoorNuP
namespace Go.Proofs.YtkhchmgdaolojaaDoor.Tms
open Go Go.RowKit Go.Proofs.YtkhchmgdaolojaaDoor.Reg Go.Proofs.YtkhchmgdaolojaaDoor.Rws Go.Proofs.YtkhchmgdaolojaaDoor.Maps Go.Instr
set_option linter.unusedVariables false
set_option linter.unusedSimpArgs false

/-- the number that a text is, and whether it is one -/
def numB (minus : Bool) (r : Int × Int) : Int × Bool := if r.2 ≠ 0 then (0, false) else if r.1 < 0 then (r.1, minus) else if minus then (-r.1, true) else (r.1, true)
def isMinus (l : List UInt8) : Bool := l.head? == some 45
def numberT (l : List UInt8) : Int × Bool := numB (isMinus l) (Num.parseT (if isMinus l then l.drop 1 else l) 10)
theorem parse_fit (l : List UInt8) (b : Int) : Num.Fit (Num.parseT l b).1 := by
  by_cases h1 : b < 2 ∨ 36 < b
  · rw [Num.parse_arg h1]; decide
  by_cases h2 : l = [] ∨ Num.badB b l = true
  · rw [Num.parse_form h1 h2]; decide
  have h2' : l ≠ [] ∧ Num.badB b l = false := by
    refine ⟨fun h => h2 (.inl h), ?_⟩
    cases h : Num.badB b l with
    | false => rfl
    | true => exact absurd (.inr h) h2
  by_cases h3 : 9223372036854775808 < Num.val b.toNat l
  · rw [Num.parse_over h1 h2'.1 h2'.2 h3]; decide
  · rw [Num.parse_val h1 h2'.1 h2'.2 (by omega)]
    exact Num.wrap_fit _
theorem drop_one (s : ByteArray) : (s.extract 1 s.size).data.toList = s.data.toList.drop 1 := by
  simp only [ByteArray.data_extract, Array.toList_extract, List.extract_eq_take_drop]
  rw [List.take_of_length_le]
  simp
set_option maxRecDepth 100000 in
set_option maxHeartbeats 4000000 in
theorem tx_numB (s : ByteArray) (minus : Bool) (hs : s.size ≤ 1000000) (w : World) (hm : isMinus s.data.toList = minus) :
    Calls Tryd.prog 44 #[.string s] w (fun e w' => e = .returned (.tuple #[.int .i64 (numberT s.data.toList).1, .bool (numberT s.data.toList).2]) ∧ Below w.heap.size w w') := by
  unfold numberT
  rw [hm]
  have hpf := parse_fit (if minus then s.data.toList.drop 1 else s.data.toList) 10
  obtain ⟨r, hr⟩ : ∃ r, r = Num.parseT (if minus then s.data.toList.drop 1 else s.data.toList) 10 := ⟨_, rfl⟩
  rw [← hr] at hpf ⊢
  have HR := Lib.hid hr
  clear hr
  obtain ⟨x, y⟩ := r
  unfold Num.Fit at hpf
  obtain ⟨hx1, hx2⟩ := hpf
  simp only at hx1 hx2
  have HM := Lib.hid hm
  clear hm
  obtain ⟨n, hn⟩ : ∃ n, n = numB minus (x, y) := ⟨_, rfl⟩
  rw [← hn]
  have hy : (y = 0 ∧ (y != 0) = false) ∨ (y ≠ 0 ∧ (y != 0) = true) := by by_cases h : y = 0 <;> simp [h]
  have hx : (x < 0 ∧ decide (x < 0) = true) ∨ (¬ x < 0 ∧ decide (x < 0) = false) := by by_cases h : x < 0 <;> simp [h]
  cases minus
  · have HP : ∀ W : World, Calls Tryd.prog 65 #[.string s, .int .i64 10] W (Num.NPost (x, y) W) := fun W => by
      have := Num.go_Parse s (by unfold maxLen; omega) 10 (by decide) W
      have h := HR.out
      rw [if_neg (by decide)] at h
      rw [← h] at this
      exact this
    have HPP := Lib.hid HP
    clear HP
    have hs0 : (s.size = 0 ∧ decide (0 < (s.size : Int)) = false ∧ decide (0 < s.size) = false) ∨ (∃ h : 0 < s.size, decide (0 < (s.size : Int)) = true ∧ decide (0 < s.size) = true ∧ (((s[0]'h).toNat : Int) == 45) = false) := by
      by_cases h : s.size = 0
      · exact .inl ⟨h, by rw [h]; rfl, by rw [h]; rfl⟩
      · refine .inr ⟨by omega, by simp; omega, by simp; omega, ?_⟩
        have hm := HM.out
        unfold isMinus at hm
        have : s.data.toList.head? = some (s[0]'(by omega)) := by
          obtain ⟨d⟩ := s
          obtain ⟨l⟩ := d
          cases l with
          | nil => exact absurd rfl h
          | cons c l => rfl
        rw [this] at hm
        simp at hm ⊢
        intro e
        apply hm
        exact UInt8.toNat_inj.1 (by show _ = 45; omega)
    rcases hs0 with ⟨-, c0, c1⟩ | ⟨h0, c0, c1, c2⟩
    all_goals
      rcases hy with ⟨hy0, c3⟩ | ⟨hy0, c3⟩
      · rcases hx with ⟨hx0, c4⟩ | ⟨hx0, c4⟩
        · have HN := Lib.hid (show n = (x, false) by rw [hn]; unfold numB; simp [hy0, hx0])
          clear hy0 hx0 hn
          go_enter Tryd.func44, Tryd.ntmps44
          go_wp2_with (go_at_call 65; refine (HPP.out _).mono ?_; rintro e1 w1 ⟨rfl, hb1⟩; have HB1 := Lib.hid hb1; clear hb1)
          go_ret2
          rw [HN.out]
          exact ⟨rfl, HB1.out⟩
        · have HN := Lib.hid (show n = (x, true) by rw [hn]; unfold numB; simp [hy0, hx0])
          clear hy0 hx0 hn
          go_enter Tryd.func44, Tryd.ntmps44
          go_wp2_with (go_at_call 65; refine (HPP.out _).mono ?_; rintro e1 w1 ⟨rfl, hb1⟩; have HB1 := Lib.hid hb1; clear hb1)
          go_ret2
          rw [HN.out]
          exact ⟨rfl, HB1.out⟩
      · have HN := Lib.hid (show n = (0, false) by rw [hn]; unfold numB; simp [hy0])
        clear hy0 hx hn
        go_enter Tryd.func44, Tryd.ntmps44
        go_wp2_with (go_at_call 65; refine (HPP.out _).mono ?_; rintro e1 w1 ⟨rfl, hb1⟩; have HB1 := Lib.hid hb1; clear hb1)
        go_ret2
        rw [HN.out]
        exact ⟨rfl, HB1.out⟩
  · have h0 : 0 < s.size := by
      have hm := HM.out
      unfold isMinus at hm
      by_cases h : s.size = 0
      · obtain ⟨d⟩ := s
        obtain ⟨l⟩ := d
        cases l with
        | nil => cases hm
        | cons c l => cases h
      · omega
    have c2 : (((s[0]'h0).toNat : Int) == 45) = true := by
      have hm := HM.out
      unfold isMinus at hm
      have : s.data.toList.head? = some (s[0]'h0) := by
        obtain ⟨d⟩ := s
        obtain ⟨l⟩ := d
        cases l with
        | nil => cases h0
        | cons c l => rfl
      rw [this] at hm
      simp at hm ⊢
      rw [hm]
      rfl
    have c0 : decide (0 < (s.size : Int)) = true := by simp; omega
    have c1 : decide (0 < s.size) = true := by simp; omega
    have hsl : ∀ W : World, (Instr.slice 9 (.string s) (some (.int .i64 1)) none none).run Tryd.prog W = .ok (.string (s.extract 1 s.size)) W := fun W => by
      rw [run_slice_string_l (P := Tryd.prog) W 9 s Tryd.underlying9 .i64 1 (by decide) (by omega)]
      rfl
    have HP : ∀ W : World, Calls Tryd.prog 65 #[.string (s.extract 1 s.size), .int .i64 10] W (Num.NPost (x, y) W) := fun W => by
      have := Num.go_Parse (s.extract 1 s.size) (by rw [ByteArray.size_extract]; unfold maxLen; omega) 10 (by decide) W
      have h := HR.out
      rw [if_pos rfl] at h
      rw [drop_one, ← h] at this
      exact this
    have HPP := Lib.hid HP
    clear HP
    rcases hy with ⟨hy0, c3⟩ | ⟨hy0, c3⟩
    · rcases hx with ⟨hx0, c4⟩ | ⟨hx0, c4⟩
      · have HN := Lib.hid (show n = (x, true) by rw [hn]; unfold numB; simp [hy0, hx0])
        clear hy0 hx0 hn
        go_enter Tryd.func44, Tryd.ntmps44
        go_wp2_with (go_at_call 65; refine (HPP.out _).mono ?_; rintro e1 w1 ⟨rfl, hb1⟩; have HB1 := Lib.hid hb1; clear hb1)
        go_ret2
        rw [HN.out]
        exact ⟨rfl, HB1.out⟩
      · have HN := Lib.hid (show n = (-x, true) by rw [hn]; unfold numB; simp [hy0, hx0])
        have HX3 := Lib.hid (show Num.Fit (-x) by unfold Num.Fit; omega)
        clear hy0 hx0 hn
        go_enter Tryd.func44, Tryd.ntmps44
        go_wp2_with (go_at_call 65; refine (HPP.out _).mono ?_; rintro e1 w1 ⟨rfl, hb1⟩; have HB1 := Lib.hid hb1; clear hb1)
        go_ret2
        have hneg : wrap64 (-x) = -x := Num.wrap_in HX3.out
        rw [HN.out]
        refine ⟨?_, HB1.out⟩
        show Ending.returned (.tuple #[.int .i64 (wrap64 (-x)), .bool true]) = _
        rw [hneg]
    · have HN := Lib.hid (show n = (0, false) by rw [hn]; unfold numB; simp [hy0])
      clear hy0 hx hn
      go_enter Tryd.func44, Tryd.ntmps44
      go_wp2_with (go_at_call 65; refine (HPP.out _).mono ?_; rintro e1 w1 ⟨rfl, hb1⟩; have HB1 := Lib.hid hb1; clear hb1)
      go_ret2
      rw [HN.out]
      exact ⟨rfl, HB1.out⟩
theorem tx_numberOf (s : ByteArray) (hs : s.size ≤ 1000000) (w : World) :
    Calls Tryd.prog 44 #[.string s] w (fun e w' => e = .returned (.tuple #[.int .i64 (numberT s.data.toList).1, .bool (numberT s.data.toList).2]) ∧ Below w.heap.size w w') := tx_numB s _ hs w rfl
theorem number_fit (l : List UInt8) : Num.Fit (numberT l).1 := by
  have := parse_fit (if isMinus l then l.drop 1 else l) 10
  unfold numberT numB
  generalize Num.parseT (if isMinus l then l.drop 1 else l) 10 = r at *
  unfold Num.Fit at *
  split
  · simp
  · split
    · simp; omega
    · split <;> simp <;> omega
end Go.Proofs.YtkhchmgdaolojaaDoor.Tms
