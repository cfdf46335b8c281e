
/-
  Layer 2: the law NamePlain, walked over the program (printed by gen_nam.py).
-/
import Derived.Test.YtnjgjclhecedeaaDoorNaK
namespace Go.Proofs.YtnjgjclhecedeaaDoor.Nam
open Go Go.RowKit Go.Proofs.YtnjgjclhecedeaaDoor.Reg Go.Proofs.YtnjgjclhecedeaaDoor.Byt
set_option linter.unusedVariables false
set_option linter.unusedSimpArgs false

theorem plain_far {c d : UInt8} {r : List UInt8} (h1 : c ≠ 91) (h2 : c ≠ 123) : plainB (c :: d :: r) = if sort c = 2 then wordsB (c :: d :: r) else (!comB (c :: d :: r) && signsB (c :: d :: r)) := by
  unfold plainB
  rw [if_neg (by simp), if_neg (by
    rintro (e | e | e | e)
    · simp only [List.cons.injEq] at e; exact h1 e.1
    · simp at e
    · simp at e
    · simp only [List.cons.injEq] at e; exact h2 e.1)]
  rfl
/-- a plain atom of letters, or of signs -/
structure PlainAs (l : List UInt8) (c : UInt8) (r : List UInt8) : Prop where
  eq : l = c :: r
  way : (sort c = 2 ∧ wordsB l = true) ∨ (sort c = 5 ∧ signsB l = true)
theorem plain_as {l : List UInt8} {c : UInt8} {r : List UInt8} (e : l = c :: r) (hp : plainB l = true) (h1 : l ≠ [91, 93]) (h2 : l ≠ [123, 125]) (h6 : sort c ≠ 6) : PlainAs l c r := by
  refine ⟨e, ?_⟩
  have g1 : ¬ (l = [] ∨ l = [46]) := fun h => by unfold plainB at hp; rw [if_pos h] at hp; cases hp
  have g2 : ¬ (l = [91, 93] ∨ l = [33] ∨ l = [59] ∨ l = [123, 125]) := by
    rintro (h | h | h | h)
    · exact h1 h
    · rw [h] at e; simp only [List.cons.injEq] at e; rw [← e.1] at h6; exact h6 (by decide)
    · rw [h] at e; simp only [List.cons.injEq] at e; rw [← e.1] at h6; exact h6 (by decide)
    · exact h2 h
  by_cases hc : sort c = 2
  · exact .inl ⟨hc, by rw [plain_word g1 g2 e hc] at hp; exact hp⟩
  · rw [plain_sign g1 g2 e hc] at hp
    simp only [Bool.and_eq_true] at hp
    refine .inr ⟨?_, hp.2⟩
    have h3 := hp.2
    rw [e] at h3
    unfold signsB at h3
    simp only [List.all_cons, Bool.and_eq_true] at h3
    have h4 := h3.1
    unfold signB at h4
    simpa using h4
theorem words_app (l m : List UInt8) : wordsB (l ++ m) = (wordsB l && wordsB m) := by unfold wordsB; rw [List.all_append]
theorem signs_app (l m : List UInt8) : signsB (l ++ m) = (signsB l && signsB m) := by unfold signsB; rw [List.all_append]
theorem words_signs {c : UInt8} {r : List UInt8} (h : sort c = 2) : signsB (c :: r) = false := by unfold signsB; simp only [List.all_cons]; rw [show signB c = false by unfold signB; rw [h]; rfl]; rfl
theorem signs_words {c : UInt8} {r : List UInt8} (h : sort c = 5) : wordsB (c :: r) = false := by unfold wordsB; simp only [List.all_cons]; rw [show wordB c = false by unfold wordB; rw [h]; rfl]; rfl
theorem ne_of_sort {c : UInt8} {k : Nat} (h : sort c = k) (d : UInt8) (hd : sort d ≠ k) : c ≠ d := fun e => hd (by rw [← e]; exact h)
/-- with a blank or a quote within it is none -/
theorem plain_with {A B : List UInt8} {c d : UInt8} {r t : List UInt8} (a : PlainAs A c r) (b : PlainAs B d t) (x : UInt8) (hx : wordB x = false) (hx2 : signB x = false) : plainB (A ++ [x] ++ B) = false := by
  have hl : ∃ y z, A ++ [x] ++ B = c :: y :: z := by
    rw [a.eq, b.eq]
    cases r with
    | nil => exact ⟨x, d :: t, rfl⟩
    | cons y r => exact ⟨y, r ++ [x] ++ d :: t, rfl⟩
  have hw : wordsB (A ++ [x] ++ B) = false := by rw [words_app, words_app, show wordsB [x] = false by unfold wordsB; simp [hx]]; simp
  have hs : signsB (A ++ [x] ++ B) = false := by rw [signs_app, signs_app, show signsB [x] = false by unfold signsB; simp [hx2]]; simp
  obtain ⟨y, z, e⟩ := hl
  rw [e] at hw hs ⊢
  have h91 : c ≠ 91 := by rcases a.way with ⟨h, -⟩ | ⟨h, -⟩ <;> exact ne_of_sort h 91 (by decide)
  have h123 : c ≠ 123 := by rcases a.way with ⟨h, -⟩ | ⟨h, -⟩ <;> exact ne_of_sort h 123 (by decide)
  rw [plain_far h91 h123, hw, hs]
  split <;> simp
/-- behind a great letter or a digit it is none -/
theorem plain_head {A : List UInt8} {c : UInt8} {r : List UInt8} (a : PlainAs A c r) (x : UInt8) (h1 : x ≠ 91) (h2 : x ≠ 123) (hx : sort x ≠ 2) (hx2 : signB x = false) : plainB ([x] ++ A) = false := by
  have e : [x] ++ A = x :: c :: r := by rw [a.eq]; rfl
  have hs : signsB ([x] ++ A) = false := by rw [signs_app, show signsB [x] = false by unfold signsB; simp [hx2]]; simp
  rw [e] at hs ⊢
  rw [plain_far h1 h2, if_neg hx, hs]; simp
/-- one behind the other -/
theorem plain_both {A B : List UInt8} {c d : UInt8} {r t : List UInt8} (a : PlainAs A c r) (b : PlainAs B d t) : plainB (A ++ B) = ((sort c == sort d) && !comB (A ++ B)) := by
  have hl : ∃ y z, A ++ B = c :: y :: z := by
    rw [a.eq, b.eq]
    cases r with
    | nil => exact ⟨d, t, rfl⟩
    | cons y r => exact ⟨y, r ++ d :: t, rfl⟩
  have hw := words_app A B
  have hs := signs_app A B
  obtain ⟨y, z, e⟩ := hl
  have h91 : c ≠ 91 := by rcases a.way with ⟨h, -⟩ | ⟨h, -⟩ <;> exact ne_of_sort h 91 (by decide)
  have h123 : c ≠ 123 := by rcases a.way with ⟨h, -⟩ | ⟨h, -⟩ <;> exact ne_of_sort h 123 (by decide)
  rw [e] at hw hs ⊢
  rw [plain_far h91 h123, hw, hs]
  rcases a.way with ⟨ha, hA⟩ | ⟨ha, hA⟩ <;> rcases b.way with ⟨hb, hB⟩ | ⟨hb, hB⟩
  · rw [if_pos ha, hA, hB, ha, hb]
    have h47 : (c == 47) = false := by simpa using ne_of_sort ha 47 (by decide)
    show true = (true && !(c == 47 && y == 42))
    rw [h47]; rfl
  · rw [if_pos ha, hA, b.eq, signs_words hb, ha, hb]; simp
  · rw [if_neg (by rw [ha]; decide), hA, b.eq, words_signs hb, ha, hb]; simp
  · rw [if_neg (by rw [ha]; decide), hA, hB, ha, hb]; simp
set_option maxRecDepth 100000 in
set_option maxHeartbeats 2000000 in
theorem law_plain (a b : ByteArray) (w : World) (ht : Tab w) : Calls Tryd.prog 6 #[.string a, .string b] w (Says true w) := by
  have HT := Lib.hid ht
  clear ht
  by_cases l1 : 500 < a.size
  · go_enter Tryd.func6, Tryd.ntmps6
    go_wp2_with (first
      | (go_at_call 9
         refine (go_alive _ HT.out).mono ?_
         rintro e1 w1 ⟨rfl, hb1⟩
         have BEL := Lib.hid hb1
         clear hb1))
    go_ret
    exact ⟨rfl, BEL.out⟩
  have l1' : a.size ≤ 500 := by omega
  by_cases l2 : 500 < b.size
  · clear l1
    go_enter Tryd.func6, Tryd.ntmps6
    go_wp2_with (first
      | (go_at_call 9
         refine (go_alive _ HT.out).mono ?_
         rintro e1 w1 ⟨rfl, hb1⟩
         have BEL := Lib.hid hb1
         clear hb1))
    go_ret
    exact ⟨rfl, BEL.out⟩
  have l2' : b.size ≤ 500 := by omega
  clear l1 l2
  have HSA := Lib.hid (show a.size ≤ maxLen by unfold maxLen; omega)
  have HSB := Lib.hid (show b.size ≤ maxLen by unfold maxLen; omega)
  cases hpa : plainB a.data.toList with
  | false =>
    have HPA := Lib.hid hpa
    clear hpa
    go_enter Tryd.func6, Tryd.ntmps6
    go_wp2_with (first
      | (go_at_call 9
         refine (go_alive _ HT.out).mono ?_
         rintro e1 w1 ⟨rfl, hb1⟩
         have BEL := Lib.hid hb1
         clear hb1)
      | (go_at_call 12
         refine (go_Plain _ (by first | exact HSA.out) _).mono ?_
         rintro e1 w1 ⟨rfl, hb1⟩
         first | rw [HPA.out]
         have BEL2 := Lib.hid (BEL.out.trans (hb1.mono BEL.out.size))
         clear BEL hb1
         have BEL := Lib.hid BEL2.out
         clear BEL2))
    go_ret
    exact ⟨rfl, BEL.out⟩
  | true =>
  cases hpb : plainB b.data.toList with
  | false =>
    have HPA := Lib.hid hpa
    have HPB := Lib.hid hpb
    clear hpa hpb
    go_enter Tryd.func6, Tryd.ntmps6
    go_wp2_with (first
      | (go_at_call 9
         refine (go_alive _ HT.out).mono ?_
         rintro e1 w1 ⟨rfl, hb1⟩
         have BEL := Lib.hid hb1
         clear hb1)
      | (go_at_call 12
         refine (go_Plain _ (by first | exact HSA.out | exact HSB.out) _).mono ?_
         rintro e1 w1 ⟨rfl, hb1⟩
         first | rw [HPA.out] | rw [HPB.out]
         have BEL2 := Lib.hid (BEL.out.trans (hb1.mono BEL.out.size))
         clear BEL hb1
         have BEL := Lib.hid BEL2.out
         clear BEL2))
    go_ret
    exact ⟨rfl, BEL.out⟩
  | true =>
  have HPA := Lib.hid hpa
  have HPB := Lib.hid hpb
  have ha0 : 0 < a.size := by
    have : a.data.toList.length ≠ 0 := fun e => by rw [List.length_eq_zero_iff.1 e] at hpa; cases hpa
    have h3 : a.data.toList.length = a.size := by simp
    omega
  have hb0 : 0 < b.size := by
    have : b.data.toList.length ≠ 0 := fun e => by rw [List.length_eq_zero_iff.1 e] at hpb; cases hpb
    have h3 : b.data.toList.length = b.size := by simp
    omega
  by_cases s0 : a.data.toList = [91, 93]
  · have x0 : (a.toList == [91, 93]) = true := by rw [toList_data, s0]; decide
    clear hpa hpb
    clear s0
    go_enter Tryd.func6, Tryd.ntmps6
    go_wp2_with (first
      | (go_at_call 9
         refine (go_alive _ HT.out).mono ?_
         rintro e1 w1 ⟨rfl, hb1⟩
         have BEL := Lib.hid hb1
         clear hb1)
      | (go_at_call 12
         refine (go_Plain _ (by first | exact HSA.out | exact HSB.out) _).mono ?_
         rintro e1 w1 ⟨rfl, hb1⟩
         first | rw [HPA.out] | rw [HPB.out]
         have BEL2 := Lib.hid (BEL.out.trans (hb1.mono BEL.out.size))
         clear BEL hb1
         have BEL := Lib.hid BEL2.out
         clear BEL2))
    go_ret
    exact ⟨rfl, BEL.out⟩
  have x0 := lit_no s0
  by_cases s1 : b.data.toList = [91, 93]
  · have x1 : (b.toList == [91, 93]) = true := by rw [toList_data, s1]; decide
    clear hpa hpb
    clear s0 s1
    go_enter Tryd.func6, Tryd.ntmps6
    go_wp2_with (first
      | (go_at_call 9
         refine (go_alive _ HT.out).mono ?_
         rintro e1 w1 ⟨rfl, hb1⟩
         have BEL := Lib.hid hb1
         clear hb1)
      | (go_at_call 12
         refine (go_Plain _ (by first | exact HSA.out | exact HSB.out) _).mono ?_
         rintro e1 w1 ⟨rfl, hb1⟩
         first | rw [HPA.out] | rw [HPB.out]
         have BEL2 := Lib.hid (BEL.out.trans (hb1.mono BEL.out.size))
         clear BEL hb1
         have BEL := Lib.hid BEL2.out
         clear BEL2))
    go_ret
    exact ⟨rfl, BEL.out⟩
  have x1 := lit_no s1
  by_cases s2 : a.data.toList = [123, 125]
  · have x2 : (a.toList == [123, 125]) = true := by rw [toList_data, s2]; decide
    clear hpa hpb
    clear s0 s1 s2
    go_enter Tryd.func6, Tryd.ntmps6
    go_wp2_with (first
      | (go_at_call 9
         refine (go_alive _ HT.out).mono ?_
         rintro e1 w1 ⟨rfl, hb1⟩
         have BEL := Lib.hid hb1
         clear hb1)
      | (go_at_call 12
         refine (go_Plain _ (by first | exact HSA.out | exact HSB.out) _).mono ?_
         rintro e1 w1 ⟨rfl, hb1⟩
         first | rw [HPA.out] | rw [HPB.out]
         have BEL2 := Lib.hid (BEL.out.trans (hb1.mono BEL.out.size))
         clear BEL hb1
         have BEL := Lib.hid BEL2.out
         clear BEL2))
    go_ret
    exact ⟨rfl, BEL.out⟩
  have x2 := lit_no s2
  by_cases s3 : b.data.toList = [123, 125]
  · have x3 : (b.toList == [123, 125]) = true := by rw [toList_data, s3]; decide
    clear hpa hpb
    clear s0 s1 s2 s3
    go_enter Tryd.func6, Tryd.ntmps6
    go_wp2_with (first
      | (go_at_call 9
         refine (go_alive _ HT.out).mono ?_
         rintro e1 w1 ⟨rfl, hb1⟩
         have BEL := Lib.hid hb1
         clear hb1)
      | (go_at_call 12
         refine (go_Plain _ (by first | exact HSA.out | exact HSB.out) _).mono ?_
         rintro e1 w1 ⟨rfl, hb1⟩
         first | rw [HPA.out] | rw [HPB.out]
         have BEL2 := Lib.hid (BEL.out.trans (hb1.mono BEL.out.size))
         clear BEL hb1
         have BEL := Lib.hid BEL2.out
         clear BEL2))
    go_ret
    exact ⟨rfl, BEL.out⟩
  have x3 := lit_no s3
  by_cases k0 : sort a[0] = 6
  · have HSRA := Lib.hid k0
    have HSRB := Lib.hid True.intro
    clear hpa hpb k0 s0 s1 s2 s3
    go_enter Tryd.func6, Tryd.ntmps6
    go_wp2_with (first
      | (go_at_call 9
         refine (go_alive _ HT.out).mono ?_
         rintro e1 w1 ⟨rfl, hb1⟩
         have BEL := Lib.hid hb1
         clear hb1)
      | (go_at_call 12
         refine (go_Plain _ (by first | exact HSA.out | exact HSB.out) _).mono ?_
         rintro e1 w1 ⟨rfl, hb1⟩
         first | rw [HPA.out] | rw [HPB.out]
         have BEL2 := Lib.hid (BEL.out.trans (hb1.mono BEL.out.size))
         clear BEL hb1
         have BEL := Lib.hid BEL2.out
         clear BEL2)
      | (go_at_call 10; refine (go_Sort _ _).mono ?_; rintro e1 w1 ⟨rfl, rfl⟩; try rw [HSRA.out]))
    go_ret
    exact ⟨rfl, BEL.out⟩
  by_cases k1 : sort b[0] = 6
  · have HSRB := Lib.hid k1
    have k0b : ((sort a[0] : Int) == 6) = false := by simp; omega
    have HSRA := Lib.hid True.intro
    clear hpa hpb k1 s0 s1 s2 s3
    go_enter Tryd.func6, Tryd.ntmps6
    go_wp2_with (first
      | (go_at_call 9
         refine (go_alive _ HT.out).mono ?_
         rintro e1 w1 ⟨rfl, hb1⟩
         have BEL := Lib.hid hb1
         clear hb1)
      | (go_at_call 12
         refine (go_Plain _ (by first | exact HSA.out | exact HSB.out) _).mono ?_
         rintro e1 w1 ⟨rfl, hb1⟩
         first | rw [HPA.out] | rw [HPB.out]
         have BEL2 := Lib.hid (BEL.out.trans (hb1.mono BEL.out.size))
         clear BEL hb1
         have BEL := Lib.hid BEL2.out
         clear BEL2)
      | (go_at_call 10; refine (go_Sort _ _).mono ?_; rintro e1 w1 ⟨rfl, rfl⟩; try rw [HSRB.out]))
    go_ret
    exact ⟨rfl, BEL.out⟩
  have hA := plain_as (cons_at ha0) hpa s0 s2 k0
  have hB := plain_as (cons_at hb0) hpb s1 s3 k1
  have y0 : ((sort a[0] : Int) == 6) = false := by simp; omega
  have y1 : ((sort b[0] : Int) == 6) = false := by simp; omega
  have d1 : (a ++ ⟨#[32]⟩ ++ b).data.toList = a.data.toList ++ [32] ++ b.data.toList := by simp [ByteArray.data_append]
  have d2 : (a ++ ⟨#[39]⟩ ++ b).data.toList = a.data.toList ++ [39] ++ b.data.toList := by simp [ByteArray.data_append]
  have d3 : (⟨#[65]⟩ ++ a : ByteArray).data.toList = [65] ++ a.data.toList := by simp [ByteArray.data_append]
  have d4 : (⟨#[48]⟩ ++ a : ByteArray).data.toList = [48] ++ a.data.toList := by simp [ByteArray.data_append]
  have d5 : (a ++ b).data.toList = a.data.toList ++ b.data.toList := by simp [ByteArray.data_append]
  have HP1 := Lib.hid (show plainB (a ++ ⟨#[32]⟩ ++ b).data.toList = false by rw [d1]; exact plain_with hA hB 32 (by decide) (by decide))
  have HP2 := Lib.hid (show plainB (a ++ ⟨#[39]⟩ ++ b).data.toList = false by rw [d2]; exact plain_with hA hB 39 (by decide) (by decide))
  have HP3 := Lib.hid (show plainB (⟨#[65]⟩ ++ a : ByteArray).data.toList = false by rw [d3]; exact plain_head hA 65 (by decide) (by decide) (by decide) (by decide))
  have HP4 := Lib.hid (show plainB (⟨#[48]⟩ ++ a : ByteArray).data.toList = false by rw [d4]; exact plain_head hA 48 (by decide) (by decide) (by decide) (by decide))
  have hp5 : plainB (a ++ b).data.toList = ((sort a[0] == sort b[0]) && !comB (a ++ b).data.toList) := by rw [d5]; exact plain_both hA hB
  have HS1 := Lib.hid (show (a ++ ⟨#[32]⟩ ++ b).size ≤ maxLen by unfold maxLen; simp [ByteArray.size_append, show (⟨#[32]⟩ : ByteArray).size = 1 from rfl, show (⟨#[39]⟩ : ByteArray).size = 1 from rfl, show (⟨#[65]⟩ : ByteArray).size = 1 from rfl, show (⟨#[48]⟩ : ByteArray).size = 1 from rfl]; omega)
  have HS2 := Lib.hid (show (a ++ ⟨#[39]⟩ ++ b).size ≤ maxLen by unfold maxLen; simp [ByteArray.size_append, show (⟨#[32]⟩ : ByteArray).size = 1 from rfl, show (⟨#[39]⟩ : ByteArray).size = 1 from rfl, show (⟨#[65]⟩ : ByteArray).size = 1 from rfl, show (⟨#[48]⟩ : ByteArray).size = 1 from rfl]; omega)
  have HS3 := Lib.hid (show (⟨#[65]⟩ ++ a : ByteArray).size ≤ maxLen by unfold maxLen; simp [ByteArray.size_append, show (⟨#[32]⟩ : ByteArray).size = 1 from rfl, show (⟨#[39]⟩ : ByteArray).size = 1 from rfl, show (⟨#[65]⟩ : ByteArray).size = 1 from rfl, show (⟨#[48]⟩ : ByteArray).size = 1 from rfl]; omega)
  have HS4 := Lib.hid (show (⟨#[48]⟩ ++ a : ByteArray).size ≤ maxLen by unfold maxLen; simp [ByteArray.size_append, show (⟨#[32]⟩ : ByteArray).size = 1 from rfl, show (⟨#[39]⟩ : ByteArray).size = 1 from rfl, show (⟨#[65]⟩ : ByteArray).size = 1 from rfl, show (⟨#[48]⟩ : ByteArray).size = 1 from rfl]; omega)
  have HS5 := Lib.hid (show (a ++ b).size ≤ maxLen by unfold maxLen; simp [ByteArray.size_append, show (⟨#[32]⟩ : ByteArray).size = 1 from rfl, show (⟨#[39]⟩ : ByteArray).size = 1 from rfl, show (⟨#[65]⟩ : ByteArray).size = 1 from rfl, show (⟨#[48]⟩ : ByteArray).size = 1 from rfl]; omega)
  have hcx : (((a ++ b).extract 0 2).toList == [47, 42]) = comB (a ++ b).data.toList := by
    rw [toList_data]
    have hl : ¬ (a ++ b).data.toList.length < 2 := by rw [d5]; simp; omega
    have hgen : ∀ x : ByteArray, (x.extract 0 2).data.toList = x.data.toList.take 2 := fun x => by simp [ByteArray.data_extract]
    have he := hgen (a ++ b)
    rw [he]
    match (a ++ b).data.toList, hl with
    | [], h => exact absurd (by simp) h
    | [a], h => exact absurd (by simp) h
    | a :: b :: l, _ => simp [comB]
  have hs8a := sort_hi a[0]
  have hs8b := sort_hi b[0]
  have HSRA := Lib.hid (show ∀ w, Calls Tryd.prog 10 #[.int .u8 a[0].toNat] w (fun e w' => e = .returned (.int .i64 (sort a[0])) ∧ w' = w) from sort_sym a[0])
  have HSRB := Lib.hid (show ∀ w, Calls Tryd.prog 10 #[.int .u8 b[0].toNat] w (fun e w' => e = .returned (.int .i64 (sort b[0])) ∧ w' = w) from sort_sym b[0])
  generalize sort a[0] = sa at *
  generalize sort b[0] = sb at *
  clear hA hB d1 d2 d3 d4 d5 hpa hpb s0 s1 s2 s3 k0 k1
  have hss : ((sa == sb) = true ∧ ((sa : Int) == (sb : Int)) = true) ∨ ((sa == sb) = false ∧ ((sa : Int) == (sb : Int)) = false) := by
    by_cases h : sa = sb
    · exact .inl ⟨by simpa using h, by simp; omega⟩
    · exact .inr ⟨by simpa using h, by simp; omega⟩
  have hab : 2 ≤ a.size + b.size := by omega
  cases hcm : comB (a ++ b).data.toList
  all_goals
    rw [hcm] at hp5 hcx
    rcases hss with ⟨g1, g2⟩ | ⟨g1, g2⟩
    all_goals
      rw [g1] at hp5
      have HP5 := Lib.hid hp5
      clear hp5 hcm g1 hs8a hs8b
      go_enter Tryd.func6, Tryd.ntmps6
      go_wp2_with (first
        | (go_at_call 9
           refine (go_alive _ HT.out).mono ?_
           rintro e1 w1 ⟨rfl, hb1⟩
           have BEL := Lib.hid hb1
           clear hb1)
        | (go_at_call 12
           refine (go_Plain _ (by first | exact HSA.out | exact HSB.out | exact HS1.out | exact HS2.out | exact HS3.out | exact HS4.out | exact HS5.out) _).mono ?_
           rintro e1 w1 ⟨rfl, hb1⟩
           first | rw [HPA.out] | rw [HPB.out] | rw [HP1.out] | rw [HP2.out] | rw [HP3.out] | rw [HP4.out] | rw [HP5.out]
           have BEL2 := Lib.hid (BEL.out.trans (hb1.mono BEL.out.size))
           clear BEL hb1
           have BEL := Lib.hid BEL2.out
           clear BEL2)
        | (go_at_call 10; (with_reducible refine (HSRA.out _).mono ?_); rintro e1 w1 ⟨rfl, rfl⟩)
        | (go_at_call 10; (with_reducible refine (HSRB.out _).mono ?_); rintro e1 w1 ⟨rfl, rfl⟩))
      go_quiet ((first | (go_at_call 10; with_reducible exact Calls.quiet_of_same (HSRA.out _)) | (go_at_call 10; with_reducible exact Calls.quiet_of_same (HSRB.out _))))
      have BELq := Lib.hid (draw_b BEL.out nq)
      clear BEL
      have BEL := Lib.hid BELq.out
      clear BELq
      go_wp2_with (first
        | (go_at_call 12
           refine (go_Plain _ (by first | exact HSA.out | exact HSB.out | exact HS1.out | exact HS2.out | exact HS3.out | exact HS4.out | exact HS5.out) _).mono ?_
           rintro e1 w1 ⟨rfl, hb1⟩
           first | rw [HPA.out] | rw [HPB.out] | rw [HP1.out] | rw [HP2.out] | rw [HP3.out] | rw [HP4.out] | rw [HP5.out]
           have BEL2 := Lib.hid (BEL.out.trans (hb1.mono BEL.out.size))
           clear BEL hb1
           have BEL := Lib.hid BEL2.out
           clear BEL2))
      go_ret
      exact ⟨rfl, BEL.out⟩
end Go.Proofs.YtnjgjclhecedeaaDoor.Nam
