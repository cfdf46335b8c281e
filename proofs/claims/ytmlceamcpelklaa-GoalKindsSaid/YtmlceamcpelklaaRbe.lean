
/-
  Layer 15's reference: Is and Kind, walked over the program.
  Layer 15's reference: body, walked over the program.
  Layer 15's reference: Body, walked over the program.
-/
import Derived.Test.YtmlceamcpelklaaPl6
import Derived.Test.YtmlceamcpelklaaAl6
import Derived.Test.YtmlceamcpelklaaL5C
import Derived.Test.YtmlceamcpelklaaRmay
namespace Go.Proofs.Ytmlceamcpelklaa.Tms
open Go Go.RowKit Go.Proofs.Ytmlceamcpelklaa.Reg
set_option linter.unusedVariables false

/-- a compound term of a name and so many arguments, or an atom -/
def isT (t : Tm) (s : ByteArray) (n : Int) : Bool := (t.s.toList == s.toList) && (((t.args.length : Int) == n) && ((n == 0) && (t.k == 3) || (decide (0 < n) && (t.k == 4))))
set_option maxRecDepth 100000 in
set_option maxHeartbeats 1600000 in
theorem ref_is (t : Tm) (s : ByteArray) (n : Int) (v : Value) (P : Nat → Prop) (w : World) (hM : t.size ≤ 1000000000) (h : IsTm w P v t) :
    Calls Try.prog 66 #[v, .string s, .int .i64 n] w (Says (isT t s n) w) := by
  obtain ⟨a, cap, rfl⟩ := h.form
  have hlen : t.args.length ≤ 1000000000 := by have := len_le t.args; have : sizeL t.args + 1 = t.size := (by obtain ⟨k1, n1, s1, a1⟩ := t; simp [Tm.size, Tm.args]); omega
  have HB := Lib.hid (below_new w (rowT t a cap))
  clear h
  cases h1 : (t.s.toList == s.toList)
  · have e : isT t s n = false := by simp [isT, h1]
    have E := Lib.hid e
    clear e
    go_enter Try.func66, Try.ntmps66
    go_wp2
    go_ret
    exact ⟨by rw [E.out]; rfl, HB.out⟩
  cases h2 : ((t.args.length : Int) == n)
  · have e : isT t s n = false := by simp only [isT, h1, h2, Bool.false_and, Bool.and_false]
    have E := Lib.hid e
    clear e
    go_enter Try.func66, Try.ntmps66
    go_wp2
    go_ret
    exact ⟨by rw [E.out]; rfl, HB.out⟩
  cases h3 : (n == 0)
  · cases h5 : decide (0 < n)
    · have e : isT t s n = false := by simp only [isT, h1, h2, h3, h5, Bool.false_and, Bool.and_false, Bool.or_false]
      have E := Lib.hid e
      clear e
      go_enter Try.func66, Try.ntmps66
      go_wp2
      go_ret
      exact ⟨by rw [E.out]; rfl, HB.out⟩
    · have e : isT t s n = (t.k == 4) := by simp only [isT, h1, h2, h3, h5, Bool.false_and, Bool.true_and, Bool.false_or]
      have E := Lib.hid e
      clear e
      go_enter Try.func66, Try.ntmps66
      go_wp2
      go_ret
      exact ⟨by rw [E.out]; rfl, HB.out⟩
  · cases h4 : (t.k == 3)
    · have h5 : decide (0 < n) = false := by have : n = 0 := by simpa using h3
                                             simp [this]
      have e : isT t s n = false := by simp only [isT, h1, h2, h3, h4, h5, Bool.false_and, Bool.and_false, Bool.or_false]
      have E := Lib.hid e
      clear e
      go_enter Try.func66, Try.ntmps66
      go_wp2
      go_ret
      exact ⟨by rw [E.out]; rfl, HB.out⟩
    · have e : isT t s n = true := by simp only [isT, h1, h2, h3, h4, Bool.true_and, Bool.true_or]
      have E := Lib.hid e
      clear e
      go_enter Try.func66, Try.ntmps66
      go_wp2
      go_ret
      exact ⟨by rw [E.out]; rfl, HB.out⟩

def kindR (t : Tm) : Int :=
  if ¬ (t.k = 3 ∨ t.k = 4) then -1 else if isT t (⟨#[116, 114, 117, 101]⟩ : ByteArray) 0 = true then 1 else if isT t (⟨#[44]⟩ : ByteArray) 2 = true then 2 else if isT t (⟨#[59]⟩ : ByteArray) 2 = true then 3 else if isT t (⟨#[45, 62]⟩ : ByteArray) 2 = true then 4 else if isT t (⟨#[92, 43]⟩ : ByteArray) 1 = true then 5
  else if isT t (⟨#[33]⟩ : ByteArray) 0 = true then 6 else if isT t (⟨#[102, 97, 105, 108]⟩ : ByteArray) 0 = true then 7 else if t.k = 4 ∧ (t.s.toList == [99, 97, 108, 108]) = true then 8 else if isT t (⟨#[99, 97, 116, 99, 104]⟩ : ByteArray) 3 = true then 9 else if isT t (⟨#[116, 104, 114, 111, 119]⟩ : ByteArray) 1 = true then 10 else if isT t (⟨#[102, 105, 110, 100, 97, 108, 108]⟩ : ByteArray) 3 = true then 11 else 0
set_option maxRecDepth 100000 in
set_option maxHeartbeats 8000000 in
theorem ref_kind (t : Tm) (v : Value) (P : Nat → Prop) (w : World) (hM : t.size ≤ 1000000000) (h : IsTm w P v t) :
    Calls Try.prog 25 #[v] w fun e w' => e = .returned (.int .i64 (kindR t)) ∧ Below w.heap.size w w' := by
  obtain ⟨a, cap, rfl⟩ := h.form
  have HV := Lib.hid (Var.new h)
  have HB := Lib.hid (below_new w (rowT t a cap))
  clear h
  obtain ⟨x0, x1, x2, x3⟩ := row4 HV.out.row
  by_cases hk : t.k = 3 ∨ t.k = 4
  case neg =>
    have e : kindR t = -1 := by unfold kindR; rw [if_pos hk]
    have b3 : (t.k != 3) = true := by simp; omega
    have b4 : (t.k != 4) = true := by simp; omega
    have E := Lib.hid e
    clear e hk x1 x2 x3
    go_enter Try.func25, Try.ntmps25
    go_wp2
    go_ret
    exact ⟨by rw [E.out]; rfl, HB.out⟩
  have HE := Lib.hid (show kindR t = _ from by unfold kindR; exact if_neg (fun h => h hk))
  rcases hk with hk | hk
  · have b3 : (t.k != 3) = false := by simp [hk]
    have c4 : (t.k == 4) = false := by simp [hk]
    have HK := Lib.hid hk
    clear hk
    go_enter Try.func25, Try.ntmps25
    go_wp2_with fail
    clear x0 x1 x2 x3
    refine (ref_is t (⟨#[116, 114, 117, 101]⟩ : ByteArray) 0 _ _ _ hM HV.out.is).mono ?_
    rintro e u ⟨rfl, hb⟩
    replace HB := Lib.hid (HB.out.trans (hb.mono HB.out.size))
    replace HV := Lib.hid (HV.out.below hb)
    clear hb
    cases c : isT t (⟨#[116, 114, 117, 101]⟩ : ByteArray) 0
    case true =>
      have E := Lib.hid (HE.out.trans (if_pos c))
      clear c HE
      go_wp2
      go_ret
      exact ⟨by rw [E.out]; rfl, HB.out⟩
    replace HE := Lib.hid (HE.out.trans (if_neg (by rw [c]; decide)))
    clear c
    obtain ⟨x0, x1, x2, x3⟩ := row4 HV.out.row
    go_wp2_with fail
    clear x0 x1 x2 x3
    refine (ref_is t (⟨#[44]⟩ : ByteArray) 2 _ _ _ hM HV.out.is).mono ?_
    rintro e u ⟨rfl, hb⟩
    replace HB := Lib.hid (HB.out.trans (hb.mono HB.out.size))
    replace HV := Lib.hid (HV.out.below hb)
    clear hb
    cases c : isT t (⟨#[44]⟩ : ByteArray) 2
    case true =>
      have E := Lib.hid (HE.out.trans (if_pos c))
      clear c HE
      go_wp2
      go_ret
      exact ⟨by rw [E.out]; rfl, HB.out⟩
    replace HE := Lib.hid (HE.out.trans (if_neg (by rw [c]; decide)))
    clear c
    obtain ⟨x0, x1, x2, x3⟩ := row4 HV.out.row
    go_wp2_with fail
    clear x0 x1 x2 x3
    refine (ref_is t (⟨#[59]⟩ : ByteArray) 2 _ _ _ hM HV.out.is).mono ?_
    rintro e u ⟨rfl, hb⟩
    replace HB := Lib.hid (HB.out.trans (hb.mono HB.out.size))
    replace HV := Lib.hid (HV.out.below hb)
    clear hb
    cases c : isT t (⟨#[59]⟩ : ByteArray) 2
    case true =>
      have E := Lib.hid (HE.out.trans (if_pos c))
      clear c HE
      go_wp2
      go_ret
      exact ⟨by rw [E.out]; rfl, HB.out⟩
    replace HE := Lib.hid (HE.out.trans (if_neg (by rw [c]; decide)))
    clear c
    obtain ⟨x0, x1, x2, x3⟩ := row4 HV.out.row
    go_wp2_with fail
    clear x0 x1 x2 x3
    refine (ref_is t (⟨#[45, 62]⟩ : ByteArray) 2 _ _ _ hM HV.out.is).mono ?_
    rintro e u ⟨rfl, hb⟩
    replace HB := Lib.hid (HB.out.trans (hb.mono HB.out.size))
    replace HV := Lib.hid (HV.out.below hb)
    clear hb
    cases c : isT t (⟨#[45, 62]⟩ : ByteArray) 2
    case true =>
      have E := Lib.hid (HE.out.trans (if_pos c))
      clear c HE
      go_wp2
      go_ret
      exact ⟨by rw [E.out]; rfl, HB.out⟩
    replace HE := Lib.hid (HE.out.trans (if_neg (by rw [c]; decide)))
    clear c
    obtain ⟨x0, x1, x2, x3⟩ := row4 HV.out.row
    go_wp2_with fail
    clear x0 x1 x2 x3
    refine (ref_is t (⟨#[92, 43]⟩ : ByteArray) 1 _ _ _ hM HV.out.is).mono ?_
    rintro e u ⟨rfl, hb⟩
    replace HB := Lib.hid (HB.out.trans (hb.mono HB.out.size))
    replace HV := Lib.hid (HV.out.below hb)
    clear hb
    cases c : isT t (⟨#[92, 43]⟩ : ByteArray) 1
    case true =>
      have E := Lib.hid (HE.out.trans (if_pos c))
      clear c HE
      go_wp2
      go_ret
      exact ⟨by rw [E.out]; rfl, HB.out⟩
    replace HE := Lib.hid (HE.out.trans (if_neg (by rw [c]; decide)))
    clear c
    obtain ⟨x0, x1, x2, x3⟩ := row4 HV.out.row
    go_wp2_with fail
    clear x0 x1 x2 x3
    refine (ref_is t (⟨#[33]⟩ : ByteArray) 0 _ _ _ hM HV.out.is).mono ?_
    rintro e u ⟨rfl, hb⟩
    replace HB := Lib.hid (HB.out.trans (hb.mono HB.out.size))
    replace HV := Lib.hid (HV.out.below hb)
    clear hb
    cases c : isT t (⟨#[33]⟩ : ByteArray) 0
    case true =>
      have E := Lib.hid (HE.out.trans (if_pos c))
      clear c HE
      go_wp2
      go_ret
      exact ⟨by rw [E.out]; rfl, HB.out⟩
    replace HE := Lib.hid (HE.out.trans (if_neg (by rw [c]; decide)))
    clear c
    obtain ⟨x0, x1, x2, x3⟩ := row4 HV.out.row
    go_wp2_with fail
    clear x0 x1 x2 x3
    refine (ref_is t (⟨#[102, 97, 105, 108]⟩ : ByteArray) 0 _ _ _ hM HV.out.is).mono ?_
    rintro e u ⟨rfl, hb⟩
    replace HB := Lib.hid (HB.out.trans (hb.mono HB.out.size))
    replace HV := Lib.hid (HV.out.below hb)
    clear hb
    cases c : isT t (⟨#[102, 97, 105, 108]⟩ : ByteArray) 0
    case true =>
      have E := Lib.hid (HE.out.trans (if_pos c))
      clear c HE
      go_wp2
      go_ret
      exact ⟨by rw [E.out]; rfl, HB.out⟩
    replace HE := Lib.hid (HE.out.trans (if_neg (by rw [c]; decide)))
    clear c
    obtain ⟨x0, x1, x2, x3⟩ := row4 HV.out.row
    replace HE := Lib.hid (HE.out.trans (if_neg (by have := HK.out; omega)))
    go_wp2_with fail
    clear x0 x1 x2 x3
    refine (ref_is t (⟨#[99, 97, 116, 99, 104]⟩ : ByteArray) 3 _ _ _ hM HV.out.is).mono ?_
    rintro e u ⟨rfl, hb⟩
    replace HB := Lib.hid (HB.out.trans (hb.mono HB.out.size))
    replace HV := Lib.hid (HV.out.below hb)
    clear hb
    cases c : isT t (⟨#[99, 97, 116, 99, 104]⟩ : ByteArray) 3
    case true =>
      have E := Lib.hid (HE.out.trans (if_pos c))
      clear c HE
      go_wp2
      go_ret
      exact ⟨by rw [E.out]; rfl, HB.out⟩
    replace HE := Lib.hid (HE.out.trans (if_neg (by rw [c]; decide)))
    clear c
    obtain ⟨x0, x1, x2, x3⟩ := row4 HV.out.row
    go_wp2_with fail
    clear x0 x1 x2 x3
    refine (ref_is t (⟨#[116, 104, 114, 111, 119]⟩ : ByteArray) 1 _ _ _ hM HV.out.is).mono ?_
    rintro e u ⟨rfl, hb⟩
    replace HB := Lib.hid (HB.out.trans (hb.mono HB.out.size))
    replace HV := Lib.hid (HV.out.below hb)
    clear hb
    cases c : isT t (⟨#[116, 104, 114, 111, 119]⟩ : ByteArray) 1
    case true =>
      have E := Lib.hid (HE.out.trans (if_pos c))
      clear c HE
      go_wp2
      go_ret
      exact ⟨by rw [E.out]; rfl, HB.out⟩
    replace HE := Lib.hid (HE.out.trans (if_neg (by rw [c]; decide)))
    clear c
    obtain ⟨x0, x1, x2, x3⟩ := row4 HV.out.row
    go_wp2_with fail
    clear x0 x1 x2 x3
    refine (ref_is t (⟨#[102, 105, 110, 100, 97, 108, 108]⟩ : ByteArray) 3 _ _ _ hM HV.out.is).mono ?_
    rintro e u ⟨rfl, hb⟩
    replace HB := Lib.hid (HB.out.trans (hb.mono HB.out.size))
    replace HV := Lib.hid (HV.out.below hb)
    clear hb
    cases c : isT t (⟨#[102, 105, 110, 100, 97, 108, 108]⟩ : ByteArray) 3
    case true =>
      have E := Lib.hid (HE.out.trans (if_pos c))
      clear c HE
      go_wp2
      go_ret
      exact ⟨by rw [E.out]; rfl, HB.out⟩
    replace HE := Lib.hid (HE.out.trans (if_neg (by rw [c]; decide)))
    clear c
    go_wp2
    go_ret
    exact ⟨by rw [HE.out]; rfl, HB.out⟩
  · have b3 : (t.k != 3) = true := by simp [hk]
    have b4 : (t.k != 4) = false := by simp [hk]
    have c4 : (t.k == 4) = true := by simp [hk]
    have HK := Lib.hid hk
    clear hk
    go_enter Try.func25, Try.ntmps25
    go_wp2_with fail
    clear x0 x1 x2 x3
    refine (ref_is t (⟨#[116, 114, 117, 101]⟩ : ByteArray) 0 _ _ _ hM HV.out.is).mono ?_
    rintro e u ⟨rfl, hb⟩
    replace HB := Lib.hid (HB.out.trans (hb.mono HB.out.size))
    replace HV := Lib.hid (HV.out.below hb)
    clear hb
    cases c : isT t (⟨#[116, 114, 117, 101]⟩ : ByteArray) 0
    case true =>
      have E := Lib.hid (HE.out.trans (if_pos c))
      clear c HE
      go_wp2
      go_ret
      exact ⟨by rw [E.out]; rfl, HB.out⟩
    replace HE := Lib.hid (HE.out.trans (if_neg (by rw [c]; decide)))
    clear c
    obtain ⟨x0, x1, x2, x3⟩ := row4 HV.out.row
    go_wp2_with fail
    clear x0 x1 x2 x3
    refine (ref_is t (⟨#[44]⟩ : ByteArray) 2 _ _ _ hM HV.out.is).mono ?_
    rintro e u ⟨rfl, hb⟩
    replace HB := Lib.hid (HB.out.trans (hb.mono HB.out.size))
    replace HV := Lib.hid (HV.out.below hb)
    clear hb
    cases c : isT t (⟨#[44]⟩ : ByteArray) 2
    case true =>
      have E := Lib.hid (HE.out.trans (if_pos c))
      clear c HE
      go_wp2
      go_ret
      exact ⟨by rw [E.out]; rfl, HB.out⟩
    replace HE := Lib.hid (HE.out.trans (if_neg (by rw [c]; decide)))
    clear c
    obtain ⟨x0, x1, x2, x3⟩ := row4 HV.out.row
    go_wp2_with fail
    clear x0 x1 x2 x3
    refine (ref_is t (⟨#[59]⟩ : ByteArray) 2 _ _ _ hM HV.out.is).mono ?_
    rintro e u ⟨rfl, hb⟩
    replace HB := Lib.hid (HB.out.trans (hb.mono HB.out.size))
    replace HV := Lib.hid (HV.out.below hb)
    clear hb
    cases c : isT t (⟨#[59]⟩ : ByteArray) 2
    case true =>
      have E := Lib.hid (HE.out.trans (if_pos c))
      clear c HE
      go_wp2
      go_ret
      exact ⟨by rw [E.out]; rfl, HB.out⟩
    replace HE := Lib.hid (HE.out.trans (if_neg (by rw [c]; decide)))
    clear c
    obtain ⟨x0, x1, x2, x3⟩ := row4 HV.out.row
    go_wp2_with fail
    clear x0 x1 x2 x3
    refine (ref_is t (⟨#[45, 62]⟩ : ByteArray) 2 _ _ _ hM HV.out.is).mono ?_
    rintro e u ⟨rfl, hb⟩
    replace HB := Lib.hid (HB.out.trans (hb.mono HB.out.size))
    replace HV := Lib.hid (HV.out.below hb)
    clear hb
    cases c : isT t (⟨#[45, 62]⟩ : ByteArray) 2
    case true =>
      have E := Lib.hid (HE.out.trans (if_pos c))
      clear c HE
      go_wp2
      go_ret
      exact ⟨by rw [E.out]; rfl, HB.out⟩
    replace HE := Lib.hid (HE.out.trans (if_neg (by rw [c]; decide)))
    clear c
    obtain ⟨x0, x1, x2, x3⟩ := row4 HV.out.row
    go_wp2_with fail
    clear x0 x1 x2 x3
    refine (ref_is t (⟨#[92, 43]⟩ : ByteArray) 1 _ _ _ hM HV.out.is).mono ?_
    rintro e u ⟨rfl, hb⟩
    replace HB := Lib.hid (HB.out.trans (hb.mono HB.out.size))
    replace HV := Lib.hid (HV.out.below hb)
    clear hb
    cases c : isT t (⟨#[92, 43]⟩ : ByteArray) 1
    case true =>
      have E := Lib.hid (HE.out.trans (if_pos c))
      clear c HE
      go_wp2
      go_ret
      exact ⟨by rw [E.out]; rfl, HB.out⟩
    replace HE := Lib.hid (HE.out.trans (if_neg (by rw [c]; decide)))
    clear c
    obtain ⟨x0, x1, x2, x3⟩ := row4 HV.out.row
    go_wp2_with fail
    clear x0 x1 x2 x3
    refine (ref_is t (⟨#[33]⟩ : ByteArray) 0 _ _ _ hM HV.out.is).mono ?_
    rintro e u ⟨rfl, hb⟩
    replace HB := Lib.hid (HB.out.trans (hb.mono HB.out.size))
    replace HV := Lib.hid (HV.out.below hb)
    clear hb
    cases c : isT t (⟨#[33]⟩ : ByteArray) 0
    case true =>
      have E := Lib.hid (HE.out.trans (if_pos c))
      clear c HE
      go_wp2
      go_ret
      exact ⟨by rw [E.out]; rfl, HB.out⟩
    replace HE := Lib.hid (HE.out.trans (if_neg (by rw [c]; decide)))
    clear c
    obtain ⟨x0, x1, x2, x3⟩ := row4 HV.out.row
    go_wp2_with fail
    clear x0 x1 x2 x3
    refine (ref_is t (⟨#[102, 97, 105, 108]⟩ : ByteArray) 0 _ _ _ hM HV.out.is).mono ?_
    rintro e u ⟨rfl, hb⟩
    replace HB := Lib.hid (HB.out.trans (hb.mono HB.out.size))
    replace HV := Lib.hid (HV.out.below hb)
    clear hb
    cases c : isT t (⟨#[102, 97, 105, 108]⟩ : ByteArray) 0
    case true =>
      have E := Lib.hid (HE.out.trans (if_pos c))
      clear c HE
      go_wp2
      go_ret
      exact ⟨by rw [E.out]; rfl, HB.out⟩
    replace HE := Lib.hid (HE.out.trans (if_neg (by rw [c]; decide)))
    clear c
    obtain ⟨x0, x1, x2, x3⟩ := row4 HV.out.row
    cases cc : (t.s.toList == [99, 97, 108, 108])
    case true =>
      have E := Lib.hid (HE.out.trans (if_pos ⟨HK.out, cc⟩))
      clear HE
      go_wp2
      go_ret
      exact ⟨by rw [E.out]; rfl, HB.out⟩
    replace HE := Lib.hid (HE.out.trans (if_neg (by rw [cc]; simp)))
    go_wp2_with fail
    clear cc
    clear x0 x1 x2 x3
    refine (ref_is t (⟨#[99, 97, 116, 99, 104]⟩ : ByteArray) 3 _ _ _ hM HV.out.is).mono ?_
    rintro e u ⟨rfl, hb⟩
    replace HB := Lib.hid (HB.out.trans (hb.mono HB.out.size))
    replace HV := Lib.hid (HV.out.below hb)
    clear hb
    cases c : isT t (⟨#[99, 97, 116, 99, 104]⟩ : ByteArray) 3
    case true =>
      have E := Lib.hid (HE.out.trans (if_pos c))
      clear c HE
      go_wp2
      go_ret
      exact ⟨by rw [E.out]; rfl, HB.out⟩
    replace HE := Lib.hid (HE.out.trans (if_neg (by rw [c]; decide)))
    clear c
    obtain ⟨x0, x1, x2, x3⟩ := row4 HV.out.row
    go_wp2_with fail
    clear x0 x1 x2 x3
    refine (ref_is t (⟨#[116, 104, 114, 111, 119]⟩ : ByteArray) 1 _ _ _ hM HV.out.is).mono ?_
    rintro e u ⟨rfl, hb⟩
    replace HB := Lib.hid (HB.out.trans (hb.mono HB.out.size))
    replace HV := Lib.hid (HV.out.below hb)
    clear hb
    cases c : isT t (⟨#[116, 104, 114, 111, 119]⟩ : ByteArray) 1
    case true =>
      have E := Lib.hid (HE.out.trans (if_pos c))
      clear c HE
      go_wp2
      go_ret
      exact ⟨by rw [E.out]; rfl, HB.out⟩
    replace HE := Lib.hid (HE.out.trans (if_neg (by rw [c]; decide)))
    clear c
    obtain ⟨x0, x1, x2, x3⟩ := row4 HV.out.row
    go_wp2_with fail
    clear x0 x1 x2 x3
    refine (ref_is t (⟨#[102, 105, 110, 100, 97, 108, 108]⟩ : ByteArray) 3 _ _ _ hM HV.out.is).mono ?_
    rintro e u ⟨rfl, hb⟩
    replace HB := Lib.hid (HB.out.trans (hb.mono HB.out.size))
    replace HV := Lib.hid (HV.out.below hb)
    clear hb
    cases c : isT t (⟨#[102, 105, 110, 100, 97, 108, 108]⟩ : ByteArray) 3
    case true =>
      have E := Lib.hid (HE.out.trans (if_pos c))
      clear c HE
      go_wp2
      go_ret
      exact ⟨by rw [E.out]; rfl, HB.out⟩
    replace HE := Lib.hid (HE.out.trans (if_neg (by rw [c]; decide)))
    clear c
    go_wp2
    go_ret
    exact ⟨by rw [HE.out]; rfl, HB.out⟩
/-- of a term that may be, the kind is the program's -/
theorem kindR_key {t : Tm} (h34 : t.k = 3 ∨ t.k = 4) (N : Int) (e : kindT t = kindOf t.s N) (hi : ∀ i, i < 11 → i ≠ 7 → isT t (kAt i).1 (kAt i).2.1 = isKey t.s N (kKey i))
    (hc : (t.k = 4 ∧ (t.s.toList == [99, 97, 108, 108]) = true) ↔ isKey t.s N (kKey 7) = true) : kindR t = kindT t := by
  rw [e]
  unfold kindR
  rw [if_neg (fun h => h h34)]
  have c0 : isT t (⟨#[116, 114, 117, 101]⟩ : ByteArray) 0 = isKey t.s N (kKey 0) := hi 0 (by decide) (by decide)
  have c3 : isT t (⟨#[44]⟩ : ByteArray) 2 = isKey t.s N (kKey 3) := hi 3 (by decide) (by decide)
  have c4 : isT t (⟨#[59]⟩ : ByteArray) 2 = isKey t.s N (kKey 4) := hi 4 (by decide) (by decide)
  have c5 : isT t (⟨#[45, 62]⟩ : ByteArray) 2 = isKey t.s N (kKey 5) := hi 5 (by decide) (by decide)
  have c6 : isT t (⟨#[92, 43]⟩ : ByteArray) 1 = isKey t.s N (kKey 6) := hi 6 (by decide) (by decide)
  have c2 : isT t (⟨#[33]⟩ : ByteArray) 0 = isKey t.s N (kKey 2) := hi 2 (by decide) (by decide)
  have c1 : isT t (⟨#[102, 97, 105, 108]⟩ : ByteArray) 0 = isKey t.s N (kKey 1) := hi 1 (by decide) (by decide)
  have c8 : isT t (⟨#[99, 97, 116, 99, 104]⟩ : ByteArray) 3 = isKey t.s N (kKey 8) := hi 8 (by decide) (by decide)
  have c9 : isT t (⟨#[116, 104, 114, 111, 119]⟩ : ByteArray) 1 = isKey t.s N (kKey 9) := hi 9 (by decide) (by decide)
  have c10 : isT t (⟨#[102, 105, 110, 100, 97, 108, 108]⟩ : ByteArray) 3 = isKey t.s N (kKey 10) := hi 10 (by decide) (by decide)
  rw [c0]
  by_cases q0 : isKey t.s N (kKey 0) = true
  · rw [if_pos q0]; exact (find_one (by decide) q0).symm
  rw [if_neg q0]
  rw [c3]
  by_cases q3 : isKey t.s N (kKey 3) = true
  · rw [if_pos q3]; exact (find_one (by decide) q3).symm
  rw [if_neg q3]
  rw [c4]
  by_cases q4 : isKey t.s N (kKey 4) = true
  · rw [if_pos q4]; exact (find_one (by decide) q4).symm
  rw [if_neg q4]
  rw [c5]
  by_cases q5 : isKey t.s N (kKey 5) = true
  · rw [if_pos q5]; exact (find_one (by decide) q5).symm
  rw [if_neg q5]
  rw [c6]
  by_cases q6 : isKey t.s N (kKey 6) = true
  · rw [if_pos q6]; exact (find_one (by decide) q6).symm
  rw [if_neg q6]
  rw [c2]
  by_cases q2 : isKey t.s N (kKey 2) = true
  · rw [if_pos q2]; exact (find_one (by decide) q2).symm
  rw [if_neg q2]
  rw [c1]
  by_cases q1 : isKey t.s N (kKey 1) = true
  · rw [if_pos q1]; exact (find_one (by decide) q1).symm
  rw [if_neg q1]
  by_cases q7 : isKey t.s N (kKey 7) = true
  · rw [if_pos (hc.2 q7)]; exact (find_one (by decide) q7).symm
  rw [if_neg (fun h => q7 (hc.1 h))]
  rw [c8]
  by_cases q8 : isKey t.s N (kKey 8) = true
  · rw [if_pos q8]; exact (find_one (by decide) q8).symm
  rw [if_neg q8]
  rw [c9]
  by_cases q9 : isKey t.s N (kKey 9) = true
  · rw [if_pos q9]; exact (find_one (by decide) q9).symm
  rw [if_neg q9]
  rw [c10]
  by_cases q10 : isKey t.s N (kKey 10) = true
  · rw [if_pos q10]; exact (find_one (by decide) q10).symm
  rw [if_neg q10]
  refine (find_non fun i hi => ?_).symm
  match i, hi with
  | 0, _ => exact Bool.eq_false_iff.2 q0
  | 1, _ => exact Bool.eq_false_iff.2 q1
  | 2, _ => exact Bool.eq_false_iff.2 q2
  | 3, _ => exact Bool.eq_false_iff.2 q3
  | 4, _ => exact Bool.eq_false_iff.2 q4
  | 5, _ => exact Bool.eq_false_iff.2 q5
  | 6, _ => exact Bool.eq_false_iff.2 q6
  | 7, _ => exact Bool.eq_false_iff.2 q7
  | 8, _ => exact Bool.eq_false_iff.2 q8
  | 9, _ => exact Bool.eq_false_iff.2 q9
  | 10, _ => exact Bool.eq_false_iff.2 q10
  | k + 11, hk => exact absurd hk (by omega)
theorem kAt_neg (i : Nat) (hi : i < 11) : decide ((kAt i).2.1 < 0) = false := by
  match i, hi with
  | 0, _ => rfl
  | 1, _ => rfl
  | 2, _ => rfl
  | 3, _ => rfl
  | 4, _ => rfl
  | 5, _ => rfl
  | 6, _ => rfl
  | 7, _ => rfl
  | 8, _ => rfl
  | 9, _ => rfl
  | 10, _ => rfl
  | k + 11, hk => exact absurd hk (by omega)
theorem isKey_at (s : ByteArray) (N : Int) (i : Nat) : isKey s N (kKey i) = (s.toList == (kAt i).1.toList && N == (kAt i).2.1) := isKey_key _ _ _ _
theorem kindR_eq {t : Tm} (h : mayT t = true) : kindR t = kindT t := by
  by_cases h34 : t.k = 3 ∨ t.k = 4
  case neg => rw [kindT_neg h34]; unfold kindR; rw [if_pos h34]
  have hal : (t.k = 3 → t.args.length = 0) ∧ (t.k = 4 → 1 ≤ t.args.length) := by
    obtain ⟨k, n, s, a⟩ := t
    simp only [mayT, Bool.and_eq_true, mayB] at h
    simp only [Tm.k, Tm.args]
    constructor
    · rintro rfl; simp at h; rw [h.1.2.2]; rfl
    · rintro rfl; simp at h; exact h.1.2.2.1
  have h7 : (kAt 7).1.toList = [99, 97, 108, 108] := by decide +kernel
  have h71 : (kAt 7).2.1 = 1 := rfl
  rcases h34 with k3 | k4
  · have e : kindT t = kindOf t.s 0 := by unfold kindT; rw [if_pos k3]
    have hl := hal.1 k3
    refine kindR_key (.inl k3) 0 e (fun i hi _ => ?_) ?_
    · rw [isKey_at]
      have := kAt_neg i hi
      unfold isT
      rw [hl, k3]
      generalize (kAt i).2.1 = m at *
      by_cases hm : m = 0
      · subst hm; simp
      · have h1 : ((0 : Int) == m) = false := by simpa using Ne.symm hm
        simp [h1]
    · rw [isKey_at, h7, h71]
      constructor
      · rintro ⟨h, -⟩; omega
      · intro h; simp at h
  · have hl := hal.2 k4
    have k3 : t.k ≠ 3 := by omega
    by_cases hc : (t.s.toList == [99, 97, 108, 108]) = true
    · have e : kindT t = kindOf t.s 1 := by unfold kindT; rw [if_neg k3, if_pos k4, if_neg (by omega), if_pos hc]
      have hs : t.s.toList = [99, 97, 108, 108] := by simpa using hc
      refine kindR_key (.inr k4) 1 e (fun i hi h7i => ?_) ?_
      · have hne : (t.s.toList == (kAt i).1.toList) = false := by
          rw [hs]
          match i, hi, h7i with
          | 0, _, _ => decide +kernel
          | 1, _, _ => decide +kernel
          | 2, _, _ => decide +kernel
          | 3, _, _ => decide +kernel
          | 4, _, _ => decide +kernel
          | 5, _, _ => decide +kernel
          | 6, _, _ => decide +kernel
          | 8, _, _ => decide +kernel
          | 9, _, _ => decide +kernel
          | 10, _, _ => decide +kernel
          | 7, _, h => exact absurd rfl h
          | k + 11, hk, _ => exact absurd hk (by omega)
        rw [isKey_at]
        unfold isT
        rw [hne]
        simp
      · rw [isKey_at, h7, h71]
        simp [k4, hs]
    · have e : kindT t = kindOf t.s t.args.length := by unfold kindT; rw [if_neg k3, if_pos k4, if_neg (by omega), if_neg hc]
      refine kindR_key (.inr k4) t.args.length e (fun i hi _ => ?_) ?_
      · rw [isKey_at]
        unfold isT
        rw [k4]
        generalize (kAt i).2.1 = m at *
        by_cases hm : (t.args.length : Int) = m
        · have h2 : (m == 0) = false := by simp; omega
          have h3 : decide (0 < m) = true := by simp; omega
          simp [hm, h2, h3]
        · have h1 : ((t.args.length : Int) == m) = false := by simpa using hm
          simp [h1]
      · rw [isKey_at, h7]
        simp at hc
        simp [hc]
end Go.Proofs.Ytmlceamcpelklaa.Tms
namespace Go.Proofs.Ytmlceamcpelklaa.Tms
open Go Go.RowKit Go.Proofs.Ytmlceamcpelklaa.Reg
set_option linter.unusedVariables false

/-- what the reference's body leaves: whether it is a body, and then which -/
def RbPost (P : Nat → Prop) (t : Tm) (w : World) (e : Ending) (w' : World) : Prop :=
  ∃ X a c, e = .returned (.tuple #[aggT X a c, .bool (bodyT t).2]) ∧ IsTm w' (fun b => P b ∨ w.heap.size ≤ b) (aggT X a c) X ∧ ((bodyT t).2 = true → X = (bodyT t).1) ∧ Below w.heap.size w w'
/-- the result variable has been written -/
theorem rb_fin {P Q : Nat → Prop} {w wr : World} {X : Tm} {a : Option Addr} {c : Nat} {cs : Array Value} (hi : IsTm wr Q (aggT X a c) X) (hQ : ∀ b, Q b → (P b ∧ b < w.heap.size) ∨ w.heap.size + 1 < b) (hb : Below w.heap.size w wr) :
    IsTm (wr.setRow (w.heap.size + 1) cs) (fun b => P b ∨ w.heap.size ≤ b) (aggT X a c) X ∧ Below w.heap.size w (wr.setRow (w.heap.size + 1) cs) :=
  ⟨hi.imp (fun b h => (hQ b h).elim (fun h => .inl h.1) fun h => .inr (by omega)) fun b h _ => setRow_other _ _ _ _ (by rcases hQ b h with h | h <;> omega), below_setRow hb (by omega) _⟩
theorem two_rows (w : World) (a b : Obj) : (((w.alloc a).alloc b).heap[w.heap.size]? = some a) ∧ (((w.alloc a).alloc b).heap[w.heap.size + 1]? = some b) ∧ Below w.heap.size w ((w.alloc a).alloc b) ∧ ((w.alloc a).alloc b).heap.size = w.heap.size + 1 + 1 := by
  refine ⟨?_, ?_, ((Below.refl _ _).alloc (Nat.le_refl _) _).alloc (by simp) _, by simp⟩
  · rw [heap_alloc_old _ _ (by simp), heap_alloc_new]
  · have := heap_alloc_new (w.alloc a) b; simpa using this
theorem below_none {w : World} {P : Nat → Prop} {v : Value} {t : Tm} (h : IsTm w P v t) : IsTm w (fun b => b < w.heap.size) v t := h.lt.imp (fun _ h => h.2) fun _ _ _ => rfl

set_option maxRecDepth 100000 in
set_option maxHeartbeats 8000000 in
theorem ref_body15 (N : Nat) : ∀ (t : Tm) (v : Value) (P : Nat → Prop) (w : World), t.size ≤ N → t.size ≤ 1000000000 → mayT t = true → IsTm w P v t → Calls Try.prog 65 #[v] w (RbPost P t w) := by
  induction N with
  | zero => intro t v P w hN; have := size_pos t; omega
  | succ N ih =>
    intro t v P w hN hM hmy h1
    have IH := Lib.hid ih
    clear ih
    have hl := h1.lt
    obtain ⟨a, cap, rfl⟩ := h1.form
    obtain ⟨t0, t1, tb, tz⟩ := two_rows w (rowT t a cap) (.cells zeroC 27 (0, 0))
    have T0 := Lib.hid t0
    have T1 := Lib.hid t1
    have TB := Lib.hid tb
    have TZ := Lib.hid tz
    have HL := Lib.hid hl
    have HE := Lib.hid (bodyT_eq t)
    have HMY := Lib.hid hmy
    clear h1 hl hmy t0 t1 tb tz
    obtain ⟨x0, x1, x2, x3⟩ := row4 T0.out
    by_cases k1 : t.k = 1
    · have b1 : (t.k == 1) = true := by simp [k1]
      have HR := Lib.hid (HE.out.trans (if_pos k1))
      clear k1 HE IH
      obtain ⟨r0, r1, r2, rb, rz⟩ := three_rows w (rowT t a cap) (.cells zeroC 27 (0, 0)) (rowT t a cap)
      have R1 := Lib.hid r1
      have R2 := Lib.hid r2
      have RB := Lib.hid rb
      clear r0 r1 r2 rb rz
      go_enter Try.func65, Try.ntmps65
      go_wp2_with (refine wpList_store_row rfl 27 (.tmp 2) (.tmp 14) rfl (w.heap.size + 1) #[.int .i64 4, .int .i64 0, .string (⟨#[99, 97, 108, 108]⟩ : ByteArray), .slice (some ⟨w.heap.size + 1 + 1, 0, none⟩) 1 1] rfl rfl _ _ R1.out size_term rfl (one4 _ _ _ _ _ _) ?_)
      have hz := setRow_heap _ (w.heap.size + 1) _ (#[.int .i64 4, .int .i64 0, .string (⟨#[99, 97, 108, 108]⟩ : ByteArray), .slice (some ⟨w.heap.size + 1 + 1, 0, none⟩) 1 1] : Array Value) _ _ R1.out
      have hsl : IsSl (((w.alloc (rowT t a cap)).alloc (.cells zeroC 27 (0, 0))).alloc (rowT t a cap)) (fun b => (P b ∧ b < w.heap.size) ∨ b = w.heap.size + 1 + 1) (.slice (some ⟨w.heap.size + 1 + 1, 0, none⟩) 1 1) [t] :=
        sl_of_cells (cs := [.int .i64 t.k, .int .i64 t.n, .string t.s, .slice a t.args.length cap]) R2.out (CellsOf.cons ((HL.out.below RB.out).imp (fun _ h => .inl h) fun _ _ _ => rfl) trivial) rfl (.inr rfl)
      obtain ⟨f1, f2⟩ := rb_fin (P := P) (w := w) (X := compT (⟨#[99, 97, 108, 108]⟩ : ByteArray) [t]) (c := 1) (cs := #[.int .i64 4, .int .i64 0, .string (⟨#[99, 97, 108, 108]⟩ : ByteArray), .slice (some ⟨w.heap.size + 1 + 1, 0, none⟩) 1 1]) (comp_is hsl) (fun b h => h.imp (fun h => h) fun h => by omega) RB.out
      refine bodyPost_ret (v := .tuple #[.agg #[.int .i64 4, .int .i64 0, .string (⟨#[99, 97, 108, 108]⟩ : ByteArray), .slice (some ⟨w.heap.size + 1 + 1, 0, none⟩) 1 1], .bool true]) (Push.results_cell_tmp Try.results65 _ _ (w.heap.size + 1) _ _ _ _ _ rfl (by simp) hz Try.underlying27 rfl (by kernel_rfl)) rfl ?_
      exact ⟨compT (⟨#[99, 97, 108, 108]⟩ : ByteArray) [t], _, _, by rw [HR.out]; rfl, f1, fun _ => by rw [HR.out], f2⟩
    have b1 : (t.k == 1) = false := by simpa using k1
    have store : ∀ (u : World), Below w.heap.size w u → u.heap[w.heap.size + 1]? = some (.cells zeroC 27 (0, 0)) → IsTm (u.setRow (w.heap.size + 1) #[.int .i64 t.k, .int .i64 t.n, .string t.s, .slice a t.args.length cap]) (fun b => P b ∨ w.heap.size ≤ b) (aggT t a cap) t ∧ Below w.heap.size w (u.setRow (w.heap.size + 1) #[.int .i64 t.k, .int .i64 t.n, .string t.s, .slice a t.args.length cap]) :=
      fun u hb hr => rb_fin (P := P) (w := w) (HL.out.below hb) (fun b h => .inl h) hb
    have ST := Lib.hid store
    clear store
    by_cases k2 : t.k = 2
    · have b2 : (t.k == 2) = true := by simp [k2]
      have hnp : ¬ isPair t = true := fun h => by have := (pair_args h).1; omega
      have HR : Hid (bodyT t = (t, false)) := Lib.hid (by rw [HE.out, if_neg k1, if_neg hnp, k2]; rfl)
      clear k1 k2 HE IH hnp
      go_enter Try.func65, Try.ntmps65
      go_wp2_with (refine wpList_store_row rfl 27 (.tmp 2) (.tmp 18) rfl (w.heap.size + 1) #[.int .i64 t.k, .int .i64 t.n, .string t.s, .slice a t.args.length cap] rfl rfl _ _ T1.out size_term rfl (one4 _ _ _ _ _ _) ?_)
      have hz := setRow_heap _ (w.heap.size + 1) _ (#[.int .i64 t.k, .int .i64 t.n, .string t.s, .slice a t.args.length cap] : Array Value) _ _ T1.out
      obtain ⟨f1, f2⟩ := ST.out _ TB.out T1.out
      refine bodyPost_ret (v := .tuple #[aggT t a cap, .bool false]) (Push.results_cell_tmp Try.results65 _ _ (w.heap.size + 1) _ _ _ _ _ rfl (by simp) hz Try.underlying27 rfl (by kernel_rfl)) rfl ?_
      exact ⟨t, _, _, by rw [HR.out], f1, (fun h => by rw [HR.out] at h; cases h), f2⟩
    have b2 : (t.k == 2) = false := by simpa using k2
    have HK : Hid (kindR t = kindT t) := Lib.hid (kindR_eq HMY.out)
    cases hp : isPair t
    case false =>
      have HR : Hid (bodyT t = (t, true)) := Lib.hid (by rw [HE.out, if_neg k1, if_neg (by rw [hp]; decide)]; simp [k2])
      have hk3 : ¬ (kindT t = 2 ∨ kindT t = 3 ∨ kindT t = 4) := fun h => by
        have : isPair t = true := by simpa [isPair, or_assoc] using h
        rw [this] at hp; cases hp
      clear HE IH hp k1 k2
      go_enter Try.func65, Try.ntmps65
      go_wp2_with fail
      refine (ref_kind t _ _ _ hM (HL.out.below TB.out)).mono ?_
      rintro e2 w2 ⟨rfl, hb2⟩
      rw [HK.out]
      generalize kindT t = K at *
      have R2 := Lib.hid ((hb2.block (w.heap.size + 1) (by have := TZ.out; omega)).trans T1.out)
      have HB2 := Lib.hid (TB.out.trans (hb2.mono TB.out.size))
      have H0 := Lib.hid ((hb2.block w.heap.size (by have := TZ.out; omega)).trans T0.out)
      clear x0 x1 x2 x3 hb2
      obtain ⟨x0, x1, x2, x3⟩ := row4 H0.out
      by_cases q2 : 2 ≤ K
      · have c2 : decide (2 ≤ K) = true := by simpa using q2
        have c4 : decide (K ≤ 4) = false := by simp; omega
        go_wp2_with (refine wpList_store_row rfl 27 (.tmp 2) (.tmp 53) rfl (w.heap.size + 1) #[.int .i64 t.k, .int .i64 t.n, .string t.s, .slice a t.args.length cap] rfl rfl _ _ R2.out size_term rfl (one4 _ _ _ _ _ _) ?_)
        have hz := setRow_heap _ (w.heap.size + 1) _ (#[.int .i64 t.k, .int .i64 t.n, .string t.s, .slice a t.args.length cap] : Array Value) _ _ R2.out
        obtain ⟨f1, f2⟩ := ST.out _ HB2.out R2.out
        refine bodyPost_ret (v := .tuple #[aggT t a cap, .bool true]) (Push.results_cell_tmp Try.results65 _ _ (w.heap.size + 1) _ _ _ _ _ rfl (by simp) hz Try.underlying27 rfl (by kernel_rfl)) rfl ?_
        exact ⟨t, _, _, by rw [HR.out], f1, fun _ => by rw [HR.out], f2⟩
      · have c2 : decide (2 ≤ K) = false := by simpa using q2
        go_wp2_with (refine wpList_store_row rfl 27 (.tmp 2) (.tmp 53) rfl (w.heap.size + 1) #[.int .i64 t.k, .int .i64 t.n, .string t.s, .slice a t.args.length cap] rfl rfl _ _ R2.out size_term rfl (one4 _ _ _ _ _ _) ?_)
        have hz := setRow_heap _ (w.heap.size + 1) _ (#[.int .i64 t.k, .int .i64 t.n, .string t.s, .slice a t.args.length cap] : Array Value) _ _ R2.out
        obtain ⟨f1, f2⟩ := ST.out _ HB2.out R2.out
        refine bodyPost_ret (v := .tuple #[aggT t a cap, .bool true]) (Push.results_cell_tmp Try.results65 _ _ (w.heap.size + 1) _ _ _ _ _ rfl (by simp) hz Try.underlying27 rfl (by kernel_rfl)) rfl ?_
        exact ⟨t, _, _, by rw [HR.out], f1, fun _ => by rw [HR.out], f2⟩
    case true =>
      obtain ⟨-, hag⟩ := pair_args hp
      have hps := pair_size hp
      have hk3 : kindT t = 2 ∨ kindT t = 3 ∨ kindT t = 4 := by simpa [isPair, or_assoc] using hp
      have hm1 : mayT (lftT t) = true := may_arg HMY.out (by rw [hag]; simp)
      have hm2 : mayT (rgtT t) = true := may_arg HMY.out (by rw [hag]; simp)
      have hcx : ∀ (v : Value) (P : Nat → Prop) (w : World), IsTm w P v (lftT t) → Calls Try.prog 65 #[v] w (RbPost P (lftT t) w) := fun v P w h => IH.out (lftT t) v P w (by omega) (by omega) hm1 h
      have hcy : ∀ (v : Value) (P : Nat → Prop) (w : World), IsTm w P v (rgtT t) → Calls Try.prog 65 #[v] w (RbPost P (rgtT t) w) := fun v P w h => IH.out (rgtT t) v P w (by omega) (by omega) hm2 h
      have hr := HE.out.trans ((if_neg k1).trans (if_pos hp))
      have HLI : Hid (t.args.length = 2) := Lib.hid (by rw [hag]; rfl)
      have hin0 : (0 : Int) < (t.args.length : Int) := by have := HLI.out; omega
      have hin1 : (1 : Int) < (t.args.length : Int) := by have := HLI.out; omega
      have hg0 : ∀ h : 0 < t.args.length, t.args[0] = lftT t := fun h => by simp only [hag]; rfl
      have hg1 : ∀ h : 1 < t.args.length, t.args[1] = rgtT t := fun h => by simp only [hag]; rfl
      clear hps hp HE k1 k2 hm1 hm2 IH hag
      unfold RbPost at hcx hcy
      generalize bodyT (lftT t) = RX at *
      generalize bodyT (rgtT t) = RY at *
      generalize lftT t = X at *
      generalize rgtT t = Y at *
      obtain ⟨BX, ox⟩ := RX
      obtain ⟨BY, oy⟩ := RY
      simp only at hr hcx hcy
      have HCX := Lib.hid hcx
      have HCY := Lib.hid hcy
      have HR := Lib.hid hr
      have HG := Lib.hid (And.intro hg0 hg1)
      clear hcx hcy hr hg0 hg1
      go_enter Try.func65, Try.ntmps65
      go_wp2_with fail
      refine (ref_kind t _ _ _ hM (HL.out.below TB.out)).mono ?_
      rintro e2 w2 ⟨rfl, hb2⟩
      rw [HK.out]
      have c2 : decide (2 ≤ kindT t) = true := by simp; omega
      have c4 : decide (kindT t ≤ 4) = true := by simp; omega
      generalize kindT t = K at *
      have R2 := Lib.hid ((hb2.block (w.heap.size + 1) (by have := TZ.out; omega)).trans T1.out)
      have HB2 := Lib.hid (TB.out.trans (hb2.mono TB.out.size))
      have H0 := Lib.hid ((hb2.block w.heap.size (by have := TZ.out; omega)).trans T0.out)
      have hz2 : w.heap.size + 1 < w2.heap.size := by have := hb2.size; have := TZ.out; omega
      have HL2 := Lib.hid (HL.out.below HB2.out)
      clear x0 x1 x2 x3 hb2 T0 T1 TB TZ hk3
      obtain ⟨x0, x1, x2, x3⟩ := row4 H0.out
      obtain ⟨xb, xo, rfl, hPb, m0⟩ := HL2.out.args.at 0 (by have := HLI.out; omega)
      obtain ⟨xb', xo', e', -, m1⟩ := HL2.out.args.at 1 (by have := HLI.out; omega)
      simp only [Option.some.injEq, Addr.mk.injEq, and_true] at e'
      obtain ⟨rfl, rfl⟩ := e'
      rw [HG.out.1] at m0
      rw [HG.out.2] at m1
      obtain ⟨qa, qc, p0, p1, p2, p3, pi, -⟩ := m0.read
      obtain ⟨ra, rc, q0, q1, q2, q3, qi, -⟩ := m1.read
      simp only [Nat.zero_mul, Nat.one_mul, Nat.add_zero] at p0 p1 p2 p3 q0 q1 q2 q3
      have PI := Lib.hid pi
      have QI := Lib.hid qi
      have hxlt : xb < w2.heap.size := World.block_lt_of_cell? _ _ p0
      have QC : Hid (w2.cell? ⟨xb, xo + 4, none⟩ = some (.int .i64 Y.k) ∧ w2.cell? ⟨xb, xo + 4 + 1, none⟩ = some (.int .i64 Y.n) ∧ w2.cell? ⟨xb, xo + 4 + 2, none⟩ = some (.string Y.s) ∧ w2.cell? ⟨xb, xo + 4 + 3, none⟩ = some (.slice ra Y.args.length rc)) := Lib.hid ⟨q0, q1, q2, q3⟩
      clear pi qi m0 m1 q0 q1 q2 q3 HG x0 x1 x2
      go_wp2_with fail
      refine (HCX.out _ _ _ PI.out).mono ?_
      rintro e3 w3 ⟨Z1, za, zc, rfl, hz1, hx1, hb3⟩
      have V1 := Lib.hid (Var.new hz1)
      have I1 := Lib.hid (hz1.below (below_new w3 (rowT Z1 za zc)))
      have HX1 := Lib.hid hx1
      have HB3 := Lib.hid (hb3.trans ((below_new w3 (rowT Z1 za zc)).mono hb3.size))
      clear p0 p1 p2 p3 x3 hz1 hx1 hb3
      have H0' := Lib.hid ((HB3.out.block w.heap.size (by omega)).trans H0.out)
      obtain ⟨-, -, -, x3⟩ := row4 H0'.out
      have q0 := (HB3.out.cell (p := ⟨xb, xo + 4, none⟩) hxlt).trans QC.out.1
      have q1 := (HB3.out.cell (p := ⟨xb, xo + 4 + 1, none⟩) hxlt).trans QC.out.2.1
      have q2 := (HB3.out.cell (p := ⟨xb, xo + 4 + 2, none⟩) hxlt).trans QC.out.2.2.1
      have q3 := (HB3.out.cell (p := ⟨xb, xo + 4 + 3, none⟩) hxlt).trans QC.out.2.2.2
      go_wp2_with fail
      refine (HCY.out _ _ _ (QI.out.below HB3.out)).mono ?_
      generalize w3.alloc (rowT Z1 za zc) = W3 at *
      generalize w3.heap.size = p1 at *
      rintro e4 w4 ⟨Z2, ya, yc, rfl, hz2', hx2, hb4⟩
      have V2 := Lib.hid (Var.new hz2')
      have I2 := Lib.hid (hz2'.below (below_new w4 (rowT Z2 ya yc)))
      have HX2 := Lib.hid hx2
      have hb43 := hb4.trans ((below_new w4 (rowT Z2 ya yc)).mono hb4.size)
      have HB4 := Lib.hid (HB3.out.trans (hb43.mono HB3.out.size))
      have HB3z := Lib.hid HB3.out.size
      have V1' := Lib.hid (V1.out.below hb43)
      have I1' := Lib.hid (I1.out.below hb43)
      clear q0 q1 q2 q3 x3 hz2' hx2 hb4 hb43 H0' V1
      have H04 := Lib.hid ((HB4.out.block w.heap.size (by omega)).trans H0.out)
      have R4 := Lib.hid ((HB4.out.block (w.heap.size + 1) (by omega)).trans R2.out)
      have HBW := Lib.hid (HB2.out.trans (HB4.out.mono HB2.out.size))
      have hz4 : w2.heap.size ≤ (w4.alloc (rowT Z2 ya yc)).heap.size := HB4.out.size
      clear HB3 HB2 R2 H0 QC PI QI HCX HCY
      obtain ⟨-, -, x2, -⟩ := row4 H04.out
      obtain ⟨y0, y1, y2, y3⟩ := row4 V1'.out.row
      obtain ⟨z0, z1, z2, z3⟩ := row4 V2.out.row
      have hsz : (w4.alloc (rowT Z2 ya yc)).heap.size = w4.heap.size + 1 := by simp
      have hz34 : w2.heap.size ≤ W3.heap.size := HB3z.out
      have hrow := two_sl (P := fun b => (P b ∧ b < w.heap.size) ∨ w2.heap.size ≤ b) (w := w4.alloc (rowT Z2 ya yc)) (x := Z1) (y := Z2) (a := za) (c := zc) (a' := ya) (c' := yc) I1'.out (I2.out.imp (fun b h => h.imp_right fun h => by omega) fun _ _ _ => rfl)
      have hbn := below_new (w4.alloc (rowT Z2 ya yc)) (.cells #[.int .i64 Z1.k, .int .i64 Z1.n, .string Z1.s, .slice za Z1.args.length zc, .int .i64 Z2.k, .int .i64 Z2.n, .string Z2.s, .slice ya Z2.args.length yc] 27 (0, 0))
      rw [hsz] at hrow
      have R5 := Lib.hid ((hbn.block (w.heap.size + 1) (by omega)).trans R4.out)
      have HB5 := Lib.hid (HBW.out.trans (hbn.mono HBW.out.size))
      have SL := Lib.hid (comp_is (s := t.s) (l := [Z1, Z2]) hrow)
      have HX := Lib.hid (And.intro HX1.out HX2.out)
      have hz5 : w2.heap.size ≤ w4.heap.size + 1 := by omega
      clear hsz hrow hbn R4 HBW I1' I2 V1' V2 HX1 HX2 H04
      cases ox
      · have HR2 : Hid (bodyT t = (zeroTm, false)) := Lib.hid (by rw [HR.out]; simp)
        go_wp2_with (refine wpList_store_row rfl 27 (.tmp 2) (.tmp 48) rfl (w.heap.size + 1) #[.int .i64 4, .int .i64 0, .string t.s, .slice (some ⟨w4.heap.size + 1, 0, none⟩) 2 2] rfl rfl _ _ R5.out size_term rfl (one4 _ _ _ _ _ _) ?_)
        have hz := setRow_heap _ (w.heap.size + 1) _ (#[.int .i64 4, .int .i64 0, .string t.s, .slice (some ⟨w4.heap.size + 1, 0, none⟩) 2 2] : Array Value) _ _ R5.out
        obtain ⟨f1, f2⟩ := rb_fin (P := P) (w := w) (X := compT t.s [Z1, Z2]) (c := 2) (cs := #[.int .i64 4, .int .i64 0, .string t.s, .slice (some ⟨w4.heap.size + 1, 0, none⟩) 2 2]) SL.out (fun b h => by
          rcases h with (h | h) | h
          · exact .inl h
          · exact .inr (by omega)
          · exact .inr (by omega)) HB5.out
        refine bodyPost_ret (v := .tuple #[.agg #[.int .i64 4, .int .i64 0, .string t.s, .slice (some ⟨w4.heap.size + 1, 0, none⟩) 2 2], .bool false]) (Push.results_cell_tmp Try.results65 _ _ (w.heap.size + 1) _ _ _ _ _ rfl (by simp) hz Try.underlying27 rfl (by kernel_rfl)) rfl ?_
        exact ⟨compT t.s [Z1, Z2], _, _, by rw [HR2.out]; rfl, f1, (fun h => by rw [HR2.out] at h; cases h), f2⟩
      · have HR2 : Hid (bodyT t = if oy = false then (zeroTm, false) else (compT t.s [BX, BY], true)) := Lib.hid (by rw [HR.out]; simp)
        go_wp2_with (refine wpList_store_row rfl 27 (.tmp 2) (.tmp 48) rfl (w.heap.size + 1) #[.int .i64 4, .int .i64 0, .string t.s, .slice (some ⟨w4.heap.size + 1, 0, none⟩) 2 2] rfl rfl _ _ R5.out size_term rfl (one4 _ _ _ _ _ _) ?_)
        have hz := setRow_heap _ (w.heap.size + 1) _ (#[.int .i64 4, .int .i64 0, .string t.s, .slice (some ⟨w4.heap.size + 1, 0, none⟩) 2 2] : Array Value) _ _ R5.out
        obtain ⟨f1, f2⟩ := rb_fin (P := P) (w := w) (X := compT t.s [Z1, Z2]) (c := 2) (cs := #[.int .i64 4, .int .i64 0, .string t.s, .slice (some ⟨w4.heap.size + 1, 0, none⟩) 2 2]) SL.out (fun b h => by
          rcases h with (h | h) | h
          · exact .inl h
          · exact .inr (by omega)
          · exact .inr (by omega)) HB5.out
        have h2 : (bodyT t).2 = oy := by rw [HR2.out]; cases oy <;> rfl
        refine bodyPost_ret (v := .tuple #[.agg #[.int .i64 4, .int .i64 0, .string t.s, .slice (some ⟨w4.heap.size + 1, 0, none⟩) 2 2], .bool oy]) (Push.results_cell_tmp Try.results65 _ _ (w.heap.size + 1) _ _ _ _ _ rfl (by simp) hz Try.underlying27 rfl (by kernel_rfl)) rfl ?_
        refine ⟨compT t.s [Z1, Z2], _, _, by rw [h2]; rfl, f1, fun h => ?_, f2⟩
        rw [h2] at h
        subst h
        rw [HR2.out]
        have e1 : Z1 = BX := HX.out.1 trivial
        have e2 : Z2 = BY := HX.out.2 (by first | trivial | rfl)
        rw [e1, e2]; rfl
end Go.Proofs.Ytmlceamcpelklaa.Tms
namespace Go.Proofs.Ytmlceamcpelklaa.Tms
open Go Go.RowKit Go.Proofs.Ytmlceamcpelklaa.Reg
set_option linter.unusedVariables false

/-- the reference's Body: a term and what is wrong -/
def RbePost (P : Nat → Prop) (r : Tm × Int) (w : World) (e : Ending) (w' : World) : Prop :=
  ∃ a c, e = .returned (.tuple #[aggT r.1 a c, .int .i64 r.2]) ∧ IsTm w' (fun b => P b ∨ w.heap.size ≤ b) (aggT r.1 a c) r.1 ∧ Below w.heap.size w w'
set_option maxRecDepth 100000 in
set_option maxHeartbeats 8000000 in
theorem ref_Body15 (t : Tm) (v : Value) (P : Nat → Prop) (w : World) (hM : t.size ≤ 100000000) (h1 : IsTm w P v t) : Calls Try.prog 23 #[v] w (RbePost P (bodE t) w) := by
  have hl := h1.lt
  obtain ⟨a, cap, rfl⟩ := h1.form
  obtain ⟨t0, t1, tb, tz⟩ := two_rows w (rowT t a cap) (.cells zeroC 27 (0, 0))
  have T0 := Lib.hid t0
  have T1 := Lib.hid t1
  have TB := Lib.hid tb
  have TZ := Lib.hid tz
  have HL := Lib.hid hl
  have hbs := bodyT_size t
  clear h1 hl t0 t1 tb tz
  obtain ⟨x0, x1, x2, x3⟩ := row4 T0.out
  have zero : ∀ (u : World) (x : Int), Below w.heap.size w u → u.heap[w.heap.size + 1]? = some (.cells zeroC 27 (0, 0)) → RbePost P (zeroTm, x) w (.returned (.tuple #[.agg zeroC, .int .i64 x])) (u.setRow (w.heap.size + 1) zeroC) := fun u x hb hr => by
    obtain ⟨f1, f2⟩ := rb_fin (P := P) (Q := fun _ => False) (w := w) (X := zeroTm) (a := none) (c := 0) (cs := zeroC) (IsTm.mk' (t := zeroTm) (IsSl.nil u _ none 0)) (fun b h => h.elim) hb
    exact ⟨_, _, rfl, f1, f2⟩
  have ZR := Lib.hid zero
  clear zero
  by_cases c1 : checkT t = 0
  case neg =>
    have b1 : (checkT t != 0) = true := by simpa using c1
    have HR : Hid (bodE t = (zeroTm, checkT t)) := Lib.hid (by unfold bodE; rw [if_pos c1])
    clear c1
    go_enter Try.func23, Try.ntmps23
    go_wp2_with fail
    refine (ref_check t _ _ _ (by omega) (HL.out.below TB.out)).mono ?_
    rintro e2 w2 ⟨rfl, hb2⟩
    have R2 := Lib.hid ((hb2.block (w.heap.size + 1) (by have := TZ.out; omega)).trans T1.out)
    have HB2 := Lib.hid (TB.out.trans (hb2.mono TB.out.size))
    clear hb2
    go_wp2_with (refine wpList_store_row rfl 27 (.tmp 2) (.tmp 12) rfl (w.heap.size + 1) zeroC rfl rfl _ _ R2.out size_term rfl (one4 _ _ _ _ _ _) ?_)
    have hz := setRow_heap w2 (w.heap.size + 1) _ zeroC _ _ R2.out
    rw [HR.out]
    exact bodyPost_ret (v := .tuple #[.agg zeroC, .int .i64 (checkT t)]) (Push.results_cell_tmp Try.results23 _ _ (w.heap.size + 1) _ _ _ _ _ rfl (by simp) hz Try.underlying27 rfl (by kernel_rfl)) rfl (ZR.out _ _ HB2.out R2.out)
  have b1 : (checkT t != 0) = false := by simpa using c1
  have HR : Hid (bodE t = if (bodyT t).2 = false then (zeroTm, 13) else if checkT (bodyT t).1 ≠ 0 then (zeroTm, checkT (bodyT t).1) else ((bodyT t).1, 0)) := Lib.hid (by unfold bodE; rw [if_neg (by simpa using c1)])
  have hmy := check_may c1
  clear c1
  go_enter Try.func23, Try.ntmps23
  go_wp2_with fail
  refine (ref_check t _ _ _ (by omega) (HL.out.below TB.out)).mono ?_
  rintro e2 w2 ⟨rfl, hb2⟩
  have R2 := Lib.hid ((hb2.block (w.heap.size + 1) (by have := TZ.out; omega)).trans T1.out)
  have HB2 := Lib.hid (TB.out.trans (hb2.mono TB.out.size))
  have H0 := Lib.hid ((hb2.block w.heap.size (by have := TZ.out; omega)).trans T0.out)
  have hz2 : w.heap.size + 1 < w2.heap.size := by have := hb2.size; have := TZ.out; omega
  clear hb2 x0 x1 x2 x3
  obtain ⟨x0, x1, x2, x3⟩ := row4 H0.out
  go_wp2_with fail
  refine (ref_body15 _ t _ _ _ (Nat.le_refl _) (by omega) hmy (HL.out.below HB2.out)).mono ?_
  unfold RbPost
  generalize bodyT t = RB at *
  obtain ⟨B, ok⟩ := RB
  rintro e3 w3 ⟨X, xa, xc, rfl, hi3, hx3, hb3⟩
  have V3 := Lib.hid (Var.new hi3)
  have I3 := Lib.hid (hi3.below (below_new w3 (rowT X xa xc)))
  have hb32 := hb3.trans ((below_new w3 (rowT X xa xc)).mono hb3.size)
  have R3 := Lib.hid ((hb32.block (w.heap.size + 1) hz2).trans R2.out)
  have HB3 := Lib.hid (HB2.out.trans (hb32.mono HB2.out.size))
  have HX := Lib.hid hx3
  have hz3 : w2.heap.size ≤ w3.heap.size := hb3.size
  clear hb3 hb32 hi3 hx3 x0 x1 x2 x3 H0 R2 HB2
  simp only at HX
  cases ok
  · have HR2 : Hid (bodE t = (zeroTm, 13)) := Lib.hid (by rw [HR.out]; simp)
    go_wp2_with (refine wpList_store_row rfl 27 (.tmp 2) (.tmp 21) rfl (w.heap.size + 1) zeroC rfl rfl _ _ R3.out size_term rfl (one4 _ _ _ _ _ _) ?_)
    have hz := setRow_heap _ (w.heap.size + 1) _ zeroC _ _ R3.out
    rw [HR2.out]
    exact bodyPost_ret (v := .tuple #[.agg zeroC, .int .i64 13]) (Push.results_cell_tmp Try.results23 _ _ (w.heap.size + 1) _ _ _ _ _ rfl (by simp) hz Try.underlying27 rfl (by kernel_rfl)) rfl (ZR.out _ _ HB3.out R3.out)
  · obtain rfl : X = B := HX.out (by first | rfl | trivial)
    have HR2 : Hid (bodE t = if checkT X ≠ 0 then (zeroTm, checkT X) else (X, 0)) := Lib.hid (by rw [HR.out]; simp)
    simp only at hbs
    obtain ⟨y0, y1, y2, y3⟩ := row4 V3.out.row
    go_wp2_with fail
    refine (ref_check X _ _ _ (by omega) V3.out.is).mono ?_
    rintro e4 w4 ⟨rfl, hb4⟩
    have hgr : w3.heap.size < (w3.alloc (rowT X xa xc)).heap.size := by simp
    have R4 := Lib.hid ((hb4.block (w.heap.size + 1) (by omega)).trans R3.out)
    have HB4 := Lib.hid (HB3.out.trans (hb4.mono HB3.out.size))
    have V4 := Lib.hid (V3.out.below hb4)
    have I4 := Lib.hid (I3.out.below hb4)
    clear hb4 y0 y1 y2 y3 V3 I3 R3 HB3
    by_cases c4 : checkT X = 0
    · have b4 : (checkT X != 0) = false := by simpa using c4
      have HR3 : Hid (bodE t = (X, 0)) := Lib.hid (by rw [HR2.out, if_neg (by simpa using c4)])
      obtain ⟨y0, y1, y2, y3⟩ := row4 V4.out.row
      go_wp2_with (refine wpList_store_row rfl 27 (.tmp 2) (.tmp 28) rfl (w.heap.size + 1) #[.int .i64 X.k, .int .i64 X.n, .string X.s, .slice xa X.args.length xc] rfl rfl _ _ R4.out size_term rfl (one4 _ _ _ _ _ _) ?_)
      have hz := setRow_heap w4 (w.heap.size + 1) _ (#[.int .i64 X.k, .int .i64 X.n, .string X.s, .slice xa X.args.length xc] : Array Value) _ _ R4.out
      obtain ⟨f1, f2⟩ := rb_fin (P := P) (w := w) (X := X) (a := xa) (c := xc) (cs := #[.int .i64 X.k, .int .i64 X.n, .string X.s, .slice xa X.args.length xc]) I4.out (fun b h => h.imp (fun h => h) fun h => by omega) HB4.out
      rw [HR3.out]
      exact bodyPost_ret (v := .tuple #[aggT X xa xc, .int .i64 0]) (Push.results_cell_tmp Try.results23 _ _ (w.heap.size + 1) _ _ _ _ _ rfl (by simp) hz Try.underlying27 rfl (by kernel_rfl)) rfl ⟨_, _, rfl, f1, f2⟩
    · have b4 : (checkT X != 0) = true := by simpa using c4
      have HR3 : Hid (bodE t = (zeroTm, checkT X)) := Lib.hid (by rw [HR2.out, if_pos (by simpa using c4)])
      go_wp2_with (refine wpList_store_row rfl 27 (.tmp 2) (.tmp 26) rfl (w.heap.size + 1) zeroC rfl rfl _ _ R4.out size_term rfl (one4 _ _ _ _ _ _) ?_)
      have hz := setRow_heap w4 (w.heap.size + 1) _ zeroC _ _ R4.out
      rw [HR3.out]
      exact bodyPost_ret (v := .tuple #[.agg zeroC, .int .i64 (checkT X)]) (Push.results_cell_tmp Try.results23 _ _ (w.heap.size + 1) _ _ _ _ _ rfl (by simp) hz Try.underlying27 rfl (by kernel_rfl)) rfl (ZR.out _ _ HB4.out R4.out)
end Go.Proofs.Ytmlceamcpelklaa.Tms
