
/-
  Layer 2: all, Plain, and the reference's Plain, walked over the program.
-/
import Derived.Test.YtohfgfmekciekaaDoorNaC
import Derived.MapKept
namespace Go.Proofs.YtohfgfmekciekaaDoor.Nam
open Go Go.RowKit Go.Proofs.YtohfgfmekciekaaDoor.Reg
set_option linter.unusedVariables false
set_option linter.unusedSimpArgs false

/-- so far all bytes are of the set -/
structure AllRel (set : Int) (s : ByteArray) (w : World) (i : Value) (wr : World) : Prop where
  bel : Below w.heap.size w wr
  at_ : ∃ k : Nat, k ≤ s.size ∧ i = .int .i64 k ∧ Hid ((s.data.toList.take k).all (fun c => hasB set (sort c)) = true)
set_option maxRecDepth 100000 in
theorem go_all (set : Int) (hs0 : 0 ≤ set) (hs1 : set ≤ 1000) (s : ByteArray) (hs : s.size ≤ maxLen) (w : World) :
    Calls Tryd.prog 21 #[.string s, .func (.func 20) #[.agg #[.int .u64 set]] #[]] w (Makes (.bool (s.data.toList.all fun c => hasB set (sort c))) w) := by
  unfold maxLen at hs
  have HST : Hid (AllRel set s w (.int .i64 0) w) := Lib.hid ⟨Below.refl _ _, 0, Nat.zero_le _, rfl, Lib.hid rfl⟩
  have HH := Lib.hid (go_has set hs0 hs1)
  clear hs0 hs1
  go_enter Tryd.func21, Tryd.ntmps21
  go_wp2
  go_loopw [5] (fun i wr => AllRel set s w i wr) (fun i _ => s.size - (intOf i).toNat)
  case atStart => exact HST.out
  case round =>
    obtain ⟨hbel, k, hk, rfl, HN⟩ := hrel
    have BEL := Lib.hid hbel
    clear HST hbel
    by_cases hlt : k < s.size
    · have HSN := Lib.hid (take_snoc s k hlt)
      cases hb : hasB set (sort s[k]) with
      | true =>
        have HR : Hid ((s.data.toList.take (k + 1)).all (fun c => hasB set (sort c)) = true) := Lib.hid (by rw [HSN.out, List.all_append, HN.out]; simpa using hb)
        have HB := Lib.hid hb
        clear hb
        go_wp2_with (go_at_call 20; refine (HH.out _ _).mono ?_; rintro e1 w1 ⟨rfl, hb1⟩; rw [HB.out]; have BEL1 := Lib.hid (BEL.out.trans (hb1.mono BEL.out.size)); clear hb1)
        go_roundw
        case rel => exact ⟨BEL1.out, k + 1, by omega, by go_num, HR⟩
        case measure => simp [intOf]; omega
      | false =>
        have HR : Hid (s.data.toList.all (fun c => hasB set (sort c)) = false) := Lib.hid (by
          rw [Bool.eq_false_iff]
          intro h
          rw [List.all_eq_true] at h
          have := h s[k] (by have : s[k] = s.data.toList[k]'(by simpa using hlt) := rfl
                             rw [this]; exact List.getElem_mem _)
          rw [hb] at this; cases this)
        have HB := Lib.hid hb
        clear hb
        go_wp2_with (go_at_call 20; refine (HH.out _ _).mono ?_; rintro e1 w1 ⟨rfl, hb1⟩; rw [HB.out]; have BEL1 := Lib.hid (BEL.out.trans (hb1.mono BEL.out.size)); clear hb1)
        go_ret
        exact ⟨ret_bool HR.out.symm, BEL1.out⟩
    · obtain rfl : k = s.size := by omega
      have HR : Hid (s.data.toList.all (fun c => hasB set (sort c)) = true) := Lib.hid (by have := HN.out; rwa [List.take_of_length_le (by simp)] at this)
      clear hlt
      go_wp2
      go_ret
      exact ⟨ret_bool HR.out.symm, BEL.out⟩
theorem bytes_ext {a b : ByteArray} (h : a.data.toList = b.data.toList) : a = b := by
  cases a; cases b; simp at h; subst h; rfl
theorem toList_data (a : ByteArray) : a.toList = a.data.toList := by
  obtain ⟨d⟩ := a; have := ByteArray.toList_mk d.toList; simpa using this
theorem get_data (s : ByteArray) (k : Nat) (h : k < s.size) : s.data.toList[k]? = some s[k] := by
  rw [List.getElem?_eq_getElem (by simpa using h)]; rfl
set_option maxRecDepth 100000 in
theorem go_HasPrefix (s : ByteArray) (hs : s.size ≤ maxLen) (w : World) : Calls Tryd.prog 22 #[.string s, .string ⟨#[47, 42]⟩] w (Makes (.bool (comB s.data.toList)) w) := by
  unfold maxLen at hs
  by_cases h2 : s.size < 2
  · have HR : Hid (comB s.data.toList = false) := Lib.hid (by
      have hl : s.data.toList.length < 2 := by simpa using h2
      match s.data.toList, hl with
      | [], _ => rfl
      | [a], _ => rfl)
    go_enter Tryd.func22, Tryd.ntmps22
    go_wp2
    go_ret
    exact ⟨ret_bool HR.out.symm, Below.refl _ _⟩
  · have HR : Hid ((((s.extract 0 2).toList == [47, 42]) : Bool) = comB s.data.toList) := Lib.hid (by
      rw [toList_data]
      have hl : ¬ s.data.toList.length < 2 := by simpa using h2
      have he : (s.extract 0 2).data.toList = s.data.toList.take 2 := by simp [ByteArray.data_extract]
      rw [he]
      match s.data.toList, hl with
      | [], h => exact absurd (by simp) h
      | [a], h => exact absurd (by simp) h
      | a :: b :: l, _ => simp [comB])
    have h2' : 2 ≤ s.size := by omega
    cases hc : comB s.data.toList with
    | true =>
      have hx := HR.out.trans hc
      clear hc HR
      go_enter Tryd.func22, Tryd.ntmps22
      go_wp2
      go_ret
      exact ⟨rfl, Below.refl _ _⟩
    | false =>
      have hx := HR.out.trans hc
      clear hc HR
      go_enter Tryd.func22, Tryd.ntmps22
      go_wp2
      go_ret
      exact ⟨rfl, Below.refl _ _⟩
theorem has4 {k : Nat} (h : k ≤ 8) : hasB 4 k = (k == 2) := by
  have : ∀ k, k ≤ 8 → hasB 4 k = (k == 2) := by decide +kernel
  exact this k h
theorem has28 (c : UInt8) : hasB 28 (sort c) = wordB c := by
  have : ∀ k, k ≤ 8 → hasB 28 k = (k == 2 || k == 3 || k == 4) := by decide +kernel
  exact this _ (sort_hi c)
theorem has32 (c : UInt8) : hasB 32 (sort c) = signB c := by
  have : ∀ k, k ≤ 8 → hasB 32 k = (k == 5) := by decide +kernel
  exact this _ (sort_hi c)
theorem lit_no {a : ByteArray} {l : List UInt8} (h : ¬ a.data.toList = l) : (a.toList == l) = false := by
  rw [toList_data]; simpa using h
theorem lit_yes {a : ByteArray} {l : List UInt8} (h : a.data.toList = l) : a = ⟨l.toArray⟩ := bytes_ext (by simpa using h)
theorem alloc_at (w : World) (o : Obj) : (w.alloc o).heap[w.heap.size]? = some o := heap_alloc_new w o
def wordsB (l : List UInt8) : Bool := l.all wordB
def signsB (l : List UInt8) : Bool := l.all signB
theorem plain_word {l : List UInt8} {c : UInt8} {r : List UInt8} (h1 : ¬ (l = [] ∨ l = [46])) (h2 : ¬ (l = [91, 93] ∨ l = [33] ∨ l = [59] ∨ l = [123, 125])) (e : l = c :: r) (hc : sort c = 2) : plainB l = wordsB l := by
  unfold plainB; rw [if_neg h1, if_neg h2, e]; simp only; rw [if_pos hc]; rfl
theorem plain_sign {l : List UInt8} {c : UInt8} {r : List UInt8} (h1 : ¬ (l = [] ∨ l = [46])) (h2 : ¬ (l = [91, 93] ∨ l = [33] ∨ l = [59] ∨ l = [123, 125])) (e : l = c :: r) (hc : sort c ≠ 2) : plainB l = (!comB l && signsB l) := by
  unfold plainB; rw [if_neg h1, if_neg h2, e]; simp only; rw [if_neg hc]; rfl
set_option maxRecDepth 100000 in
set_option maxHeartbeats 1000000 in
theorem go_Plain (s : ByteArray) (hs : s.size ≤ maxLen) (w : World) : Calls Tryd.prog 12 #[.string s] w (Makes (.bool (plainB s.data.toList)) w) := by
  have HS := Lib.hid hs
  by_cases h1 : s.data.toList = [] ∨ s.data.toList = [46]
  · have HR : Hid (plainB s.data.toList = false) := Lib.hid (if_pos h1)
    rcases h1 with h | h
    all_goals
      obtain rfl := lit_yes h
      clear h hs
      go_enter Tryd.func12, Tryd.ntmps12
      go_wp2
      go_ret
      exact ⟨ret_bool HR.out.symm, Below.refl _ _⟩
  by_cases h2 : s.data.toList = [91, 93] ∨ s.data.toList = [33] ∨ s.data.toList = [59] ∨ s.data.toList = [123, 125]
  · have HR : Hid (plainB s.data.toList = true) := Lib.hid (by unfold plainB; rw [if_neg h1, if_pos h2])
    rcases h2 with h | h | h | h
    all_goals
      obtain rfl := lit_yes h
      clear h hs h1
      go_enter Tryd.func12, Tryd.ntmps12
      go_wp2
      go_ret
      exact ⟨ret_bool HR.out.symm, Below.refl _ _⟩
  have b1 := lit_no (a := s) (fun h => h1 (.inl h))
  have b1' : s.toList.isEmpty = false := by
    cases e : s.toList with
    | nil => rw [e] at b1; cases b1
    | cons a l => rfl
  have b2 := lit_no (a := s) (fun h => h1 (.inr h))
  have b3 := lit_no (a := s) (fun h => h2 (.inl h))
  have b4 := lit_no (a := s) (fun h => h2 (.inr (.inl h)))
  have b5 := lit_no (a := s) (fun h => h2 (.inr (.inr (.inl h))))
  have b6 := lit_no (a := s) (fun h => h2 (.inr (.inr (.inr h))))
  have h0 : 0 < s.size := by
    have : s.data.toList.length ≠ 0 := fun e => h1 (.inl (List.length_eq_zero_iff.1 e))
    have h3 : s.data.toList.length = s.size := by simp
    omega
  have hlist : ∃ r, s.data.toList = s[0] :: r := by
    have := get_data s 0 h0
    cases e : s.data.toList with
    | nil => rw [e] at this; cases this
    | cons a l => rw [e] at this; simp at this; exact ⟨l, by rw [this]⟩
  obtain ⟨r, hr⟩ := hlist
  have HW := Lib.hid (fun hc => plain_word h1 h2 hr hc)
  have HG := Lib.hid (fun hc => plain_sign h1 h2 hr hc)
  have H4 := Lib.hid (has4 (sort_hi s[0]))
  have HA28 : Hid ((s.data.toList.all fun c => hasB 28 (sort c)) = wordsB s.data.toList) := Lib.hid (by unfold wordsB; congr 1; funext c; exact has28 c)
  have HA32 : Hid ((s.data.toList.all fun c => hasB 32 (sort c)) = signsB s.data.toList) := Lib.hid (by unfold signsB; congr 1; funext c; exact has32 c)
  clear h1 h2 hr r hs
  have H1a := Lib.hid (alloc_at w (.cells #[.int .i64 2] 3 (0, 0)))
  by_cases hc : sort s[0] = 2
  · have HR := Lib.hid (HW.out hc)
    have H4' := Lib.hid (H4.out.trans (by simp [hc]) : hasB 4 (sort s[0]) = true)
    clear hc
    go_enter Tryd.func12, Tryd.ntmps12
    go_wp2_with fail
    refine (go_of1 _ _ H1a.out).mono ?_
    rintro e1 w1 ⟨rfl, hb1⟩
    have BEL1 := Lib.hid ((box_b w _).trans (hb1.mono (by simp)))
    clear hb1
    go_wp2_with fail
    refine (go_has 4 (by decide) (by decide) _ _).mono ?_
    rintro e2 w2 ⟨rfl, hb2⟩
    rw [H4'.out]
    have BEL2 := Lib.hid (BEL1.out.trans (hb2.mono BEL1.out.size))
    clear hb2
    have H3a := Lib.hid (alloc_at w2 (.cells #[.int .i64 2, .int .i64 3, .int .i64 4] 3 (0, 0)))
    go_wp2_with fail
    refine (go_of3 _ _ H3a.out).mono ?_
    rintro e3 w3 ⟨rfl, hb3⟩
    have BEL3 := Lib.hid (BEL2.out.trans ((box_b w2 (.cells #[.int .i64 2, .int .i64 3, .int .i64 4] 3 (0, 0))).mono BEL2.out.size))
    have BEL4 := Lib.hid (BEL3.out.trans (hb3.mono BEL3.out.size))
    clear hb3
    go_wp2_with fail
    refine (go_all 28 (by decide) (by decide) s HS.out _).mono ?_
    rintro e4 w4 ⟨rfl, hb4⟩
    rw [HA28.out]
    have BEL5 := Lib.hid (BEL4.out.trans (hb4.mono BEL4.out.size))
    clear hb4
    go_wp2
    go_ret
    exact ⟨ret_bool HR.out.symm, BEL5.out⟩
  · have HR := Lib.hid (HG.out hc)
    have H4' := Lib.hid (H4.out.trans (by simp [hc]) : hasB 4 (sort s[0]) = false)
    clear hc
    go_enter Tryd.func12, Tryd.ntmps12
    go_wp2_with fail
    refine (go_of1 _ _ H1a.out).mono ?_
    rintro e1 w1 ⟨rfl, hb1⟩
    have BEL1 := Lib.hid ((box_b w _).trans (hb1.mono (by simp)))
    clear hb1
    go_wp2_with fail
    refine (go_has 4 (by decide) (by decide) _ _).mono ?_
    rintro e2 w2 ⟨rfl, hb2⟩
    rw [H4'.out]
    have BEL2 := Lib.hid (BEL1.out.trans (hb2.mono BEL1.out.size))
    clear hb2
    go_wp2_with fail
    refine (go_HasPrefix s HS.out _).mono ?_
    rintro e3 w3 ⟨rfl, hb3⟩
    have BEL3 := Lib.hid (BEL2.out.trans (hb3.mono BEL2.out.size))
    clear hb3
    cases hcom : comB s.data.toList with
    | true =>
      rw [hcom] at HR
      clear hcom
      go_wp2
      go_ret
      exact ⟨ret_bool HR.out.symm, BEL3.out⟩
    | false =>
      rw [hcom] at HR
      clear hcom
      have H5a := Lib.hid (alloc_at w3 (.cells #[.int .i64 5] 3 (0, 0)))
      go_wp2_with fail
      refine (go_of5 _ _ H5a.out).mono ?_
      rintro e4 w4 ⟨rfl, hb4⟩
      have BEL4 := Lib.hid (BEL3.out.trans ((box_b w3 (.cells #[.int .i64 5] 3 (0, 0))).mono BEL3.out.size))
      have BEL5 := Lib.hid (BEL4.out.trans (hb4.mono BEL4.out.size))
      clear hb4
      go_wp2_with fail
      refine (go_all 32 (by decide) (by decide) s HS.out _).mono ?_
      rintro e5 w5 ⟨rfl, hb5⟩
      rw [HA32.out]
      have BEL6 := Lib.hid (BEL5.out.trans (hb5.mono BEL5.out.size))
      clear hb5
      go_wp2
      go_ret
      exact ⟨ret_bool HR.out.symm, BEL6.out⟩
end Go.Proofs.YtohfgfmekciekaaDoor.Nam
