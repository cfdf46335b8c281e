
/-
  Layer 1: digits and numbers of them (plain); num.Parse and the reference's Parse, walked over the program.
-/
import Derived.Test.YtkhchmgdaolojaaDoorNuA
namespace Go.Proofs.YtkhchmgdaolojaaDoor.Num
open Go Go.RowKit Go.Proofs.YtkhchmgdaolojaaDoor.Reg
set_option linter.unusedVariables false
set_option linter.unusedSimpArgs false

/-- what a byte stands for; 36: nothing -/
def digN (n : Nat) : Nat := if 48 ≤ n ∧ n ≤ 57 then n - 48 else if 97 ≤ n ∧ n ≤ 122 then n - 97 + 10 else if 65 ≤ n ∧ n ≤ 90 then n - 65 + 10 else 36
/-- the reference's; 99: nothing -/
def digRN (n : Nat) : Nat := if 48 ≤ n ∧ n ≤ 57 then n - 48 else if 97 ≤ n ∧ n ≤ 122 then n - 97 + 10 else if 65 ≤ n ∧ n ≤ 90 then n - 65 + 10 else 99
theorem digN_num {n : Nat} (h : 48 ≤ n) (h2 : n ≤ 57) : digN n = n - 48 ∧ digRN n = n - 48 := by unfold digN digRN; simp [h, h2]
theorem digN_low {n : Nat} (h : 97 ≤ n) (h2 : n ≤ 122) : digN n = n - 97 + 10 ∧ digRN n = n - 97 + 10 := by
  have h3 : ¬ (48 ≤ n ∧ n ≤ 57) := by omega
  unfold digN digRN; rw [if_neg h3, if_pos ⟨h, h2⟩, if_neg h3, if_pos ⟨h, h2⟩]; exact ⟨rfl, rfl⟩
theorem digN_high {n : Nat} (h : 65 ≤ n) (h2 : n ≤ 90) : digN n = n - 65 + 10 ∧ digRN n = n - 65 + 10 := by
  have h3 : ¬ (48 ≤ n ∧ n ≤ 57) := by omega
  have h4 : ¬ (97 ≤ n ∧ n ≤ 122) := by omega
  unfold digN digRN; rw [if_neg h3, if_neg h4, if_pos ⟨h, h2⟩, if_neg h3, if_neg h4, if_pos ⟨h, h2⟩]; exact ⟨rfl, rfl⟩
theorem digN_none {n : Nat} (h3 : ¬ (48 ≤ n ∧ n ≤ 57)) (h4 : ¬ (97 ≤ n ∧ n ≤ 122)) (h5 : ¬ (65 ≤ n ∧ n ≤ 90)) : digN n = 36 ∧ digRN n = 99 := by
  unfold digN digRN; rw [if_neg h3, if_neg h4, if_neg h5, if_neg h3, if_neg h4, if_neg h5]; exact ⟨rfl, rfl⟩
theorem digN_ways (n : Nat) : (48 ≤ n ∧ n ≤ 57 ∧ digN n = n - 48 ∧ digRN n = n - 48) ∨ (97 ≤ n ∧ n ≤ 122 ∧ digN n = n - 97 + 10 ∧ digRN n = n - 97 + 10) ∨ (65 ≤ n ∧ n ≤ 90 ∧ digN n = n - 65 + 10 ∧ digRN n = n - 65 + 10) ∨ (¬ (48 ≤ n ∧ n ≤ 57) ∧ ¬ (97 ≤ n ∧ n ≤ 122) ∧ ¬ (65 ≤ n ∧ n ≤ 90) ∧ digN n = 36 ∧ digRN n = 99) := by
  by_cases h1 : 48 ≤ n ∧ n ≤ 57
  · exact .inl ⟨h1.1, h1.2, digN_num h1.1 h1.2⟩
  by_cases h2 : 97 ≤ n ∧ n ≤ 122
  · exact .inr (.inl ⟨h2.1, h2.2, digN_low h2.1 h2.2⟩)
  by_cases h3 : 65 ≤ n ∧ n ≤ 90
  · exact .inr (.inr (.inl ⟨h3.1, h3.2, digN_high h3.1 h3.2⟩))
  · exact .inr (.inr (.inr ⟨h1, h2, h3, digN_none h1 h2 h3⟩))
def dig (c : UInt8) : Nat := digN c.toNat
def digR (c : UInt8) : Nat := digRN c.toNat
theorem dig_hi (c : UInt8) : dig c ≤ 36 := by have := c.toNat_lt; unfold dig; rcases digN_ways c.toNat with h | h | h | h <;> omega
theorem digR_in {c : UInt8} {b : Int} (h0 : b ≤ 36) (h : (dig c : Int) < b) : digR c = dig c := by unfold dig digR at *; rcases digN_ways c.toNat with h | h | h | h <;> omega
theorem digR_out {c : UInt8} {b : Int} (h0 : b ≤ 36) (h : ¬ (dig c : Int) < b) : ¬ (digR c : Int) < b := by unfold dig digR at *; rcases digN_ways c.toNat with h | h | h | h <;> omega
/-- the number of some digits -/
def val (b : Nat) (l : List UInt8) : Nat := l.foldl (fun v c => v * b + dig c) 0
theorem val_snoc (b : Nat) (l : List UInt8) (c : UInt8) : val b (l ++ [c]) = val b l * b + dig c := by unfold val; rw [List.foldl_append]; rfl
theorem val_grow {b : Nat} (hb : 1 ≤ b) (l m : List UInt8) : val b l ≤ val b (l ++ m) := by
  induction m generalizing l with
  | nil => simp
  | cons c m ih =>
    have h1 := ih (l ++ [c])
    rw [val_snoc, List.append_assoc] at h1
    have h2 : val b l * 1 ≤ val b l * b := Nat.mul_le_mul_left _ hb
    simp only [List.cons_append, List.nil_append] at h1
    omega
def badB (b : Int) (l : List UInt8) : Bool := l.any fun c => decide (b ≤ dig c)
def parseT (l : List UInt8) (b : Int) : Int × Int :=
  if b < 2 ∨ 36 < b then (0, 2) else if l = [] ∨ badB b l = true then (0, 6) else if 9223372036854775808 < val b.toNat l then (0, 11) else (wrap64 (val b.toNat l), 0)
theorem over_iff {v d b : Nat} (hd : d ≤ 36) (hb : 2 ≤ b) : (9223372036854775808 - (d : Int)) / (b : Int) < (v : Int) ↔ 9223372036854775808 < v * b + d := by
  rw [Int.ediv_lt_iff_lt_mul (by omega)]
  have : (v : Int) * (b : Int) = ((v * b : Nat) : Int) := by simp
  rw [this]
  omega

theorem go_digit (c : UInt8) (w : World) : Calls Tryd.prog 78 #[.int .u8 c.toNat] w (fun e w' => e = .returned (.int .i64 (dig c)) ∧ w = w') := by
  have hc : c.toNat < 256 := c.toNat_lt
  have hw := Lib.hid (digN_ways c.toNat)
  unfold dig
  generalize c.toNat = n at *
  go_enter Tryd.func78, Tryd.ntmps78
  go_wp2
  all_goals
    go_ret
    exact ⟨ret_int (by rcases hw.out with h | h | h | h <;> omega), rfl⟩
theorem ref_digit (c : UInt8) (w : World) : Calls Tryd.prog 80 #[.int .u8 c.toNat] w (fun e w' => e = .returned (.int .i64 (digR c)) ∧ w = w') := by
  have hc : c.toNat < 256 := c.toNat_lt
  have hw := Lib.hid (digN_ways c.toNat)
  unfold digR
  generalize c.toNat = n at *
  go_enter Tryd.func80, Tryd.ntmps80
  go_wp2
  all_goals
    go_ret
    exact ⟨ret_int (by rcases hw.out with h | h | h | h <;> omega), rfl⟩

/-- the bytes that have been read -/
theorem take_snoc (s : ByteArray) (k : Nat) (h : k < s.size) : s.data.toList.take (k + 1) = s.data.toList.take k ++ [s[k]] := by
  rw [List.take_succ_eq_append_getElem (by simpa using h)]; rfl
theorem bad_snoc (b : Int) (l : List UInt8) (c : UInt8) : badB b (l ++ [c]) = (badB b l || decide (b ≤ dig c)) := by unfold badB; simp
/-- of the first k bytes: none is bad; the number of these, or that it is too great -/
structure PaRel (s : ByteArray) (b : Nat) (w : World) (v o i : Value) (wr : World) : Prop where
  at_ : ∃ k n : Nat, ∃ ov : Bool, k ≤ s.size ∧ i = .int .i64 k ∧ v = .int .u64 (n : Int) ∧ o = .bool ov ∧ badB b (s.data.toList.take k) = false ∧
    (ov = false → n = val b (s.data.toList.take k) ∧ n ≤ 9223372036854775808) ∧ (ov = true → 9223372036854775808 < val b (s.data.toList.take k))
  same : w = wr
theorem PaRel.start (s : ByteArray) (b : Nat) (w : World) : PaRel s b w (.int .u64 0) (.bool false) (.int .i64 0) w :=
  ⟨⟨0, 0, false, Nat.zero_le _, rfl, rfl, rfl, rfl, fun _ => ⟨rfl, by omega⟩, fun h => by cases h⟩, rfl⟩
theorem bad_of {b : Int} {s : ByteArray} {k : Nat} (h : k < s.size) (hb : ¬ (dig s[k] : Int) < b) : s.data.toList ≠ [] ∧ badB b s.data.toList = true := by
  have hm : s[k] ∈ s.data.toList := by
    have : s[k] = s.data.toList[k]'(by simpa using h) := rfl
    rw [this]; exact List.getElem_mem _
  exact ⟨(fun e => by rw [e] at hm; cases hm), (by unfold badB; rw [List.any_eq_true]; exact ⟨_, hm, by simpa using hb⟩)⟩
theorem parse_arg {l : List UInt8} {b : Int} (h : b < 2 ∨ 36 < b) : parseT l b = (0, 2) := if_pos h
theorem parse_form {l : List UInt8} {b : Int} (h : ¬ (b < 2 ∨ 36 < b)) (hl : l = [] ∨ badB b l = true) : parseT l b = (0, 6) := by unfold parseT; rw [if_neg h, if_pos hl]
theorem parse_over {l : List UInt8} {b : Int} (h : ¬ (b < 2 ∨ 36 < b)) (h1 : l ≠ []) (h2 : badB b l = false) (hv : 9223372036854775808 < val b.toNat l) : parseT l b = (0, 11) := by
  unfold parseT; rw [if_neg h, if_neg (by rintro (e | e); exact h1 e; rw [h2] at e; cases e), if_pos hv]
theorem parse_val {l : List UInt8} {b : Int} (h : ¬ (b < 2 ∨ 36 < b)) (h1 : l ≠ []) (h2 : badB b l = false) (hv : val b.toNat l ≤ 9223372036854775808) : parseT l b = (wrap64 (val b.toNat l), 0) := by
  unfold parseT; rw [if_neg h, if_neg (by rintro (e | e); exact h1 e; rw [h2] at e; cases e), if_neg (by omega)]
theorem mul_wrap {v b d : Nat} (h : v * b + d ≤ 9223372036854775808) : IntKind.u64.wrap (IntKind.u64.wrap ((v : Int) * (b : Int)) + (d : Int)) = ((v * b + d : Nat) : Int) := by
  have e : (v : Int) * (b : Int) = ((v * b : Nat) : Int) := by simp
  rw [e]
  generalize v * b = m at *
  rw [IntWalk.u64_in ((m : Nat) : Int) (by omega), IntWalk.u64_in _ (by omega)]; omega
set_option maxRecDepth 100000 in
theorem go_Parse (s : ByteArray) (hs : s.size ≤ maxLen) (z : Int) (hz : Fit z) (w : World) : Calls Tryd.prog 65 #[.string s, .int .i64 z] w (NPost (parseT s.data.toList z) w) := by
  by_cases hzz : z < 2 ∨ 36 < z
  · have HR := Lib.hid (parse_arg (l := s.data.toList) hzz)
    rcases hzz with h | h
    all_goals
      clear hz hs
      go_enter Tryd.func65, Tryd.ntmps65
      go_wp2
      go_ret2
      exact npost' HR.out
  have HZ := Lib.hid hzz
  obtain ⟨b, rfl⟩ : ∃ b : Nat, z = b := ⟨z.toNat, by omega⟩
  have hb0 : 2 ≤ (b : Int) := by omega
  have hb1 : (b : Int) ≤ 36 := by omega
  clear hzz hz
  unfold maxLen at hs
  by_cases he : s.data.toList = []
  · have HR := Lib.hid (parse_form HZ.out (.inl he))
    have hsz : s.size = 0 := by have := congrArg List.length he; simpa using this
    have hsl : s = ⟨#[]⟩ := by obtain ⟨⟨l⟩⟩ := s; simp at he; subst he; rfl
    subst hsl
    clear he hsz
    go_enter Tryd.func65, Tryd.ntmps65
    go_wp2
    go_ret2
    exact npost' HR.out
  have HE := Lib.hid he
  have he0 : (s.toList == []) = false := bytes_no (fun e => he (by rw [e]))
  have he1 : s.toList ≠ [] := fun e => by rw [e] at he0; cases he0
  have he2 : s.toList.isEmpty = false := by cases h : s.toList with
    | nil => exact absurd h he1
    | cons => rfl
  have he3 : (!s.toList.isEmpty) = true := by rw [he2]; rfl
  have HST := Lib.hid (PaRel.start s b w)
  clear he he1
  go_enter Tryd.func65, Tryd.ntmps65
  go_wp2
  go_loopw [6, 7, 8] (fun v o i wr => PaRel s b w v o i wr) (fun _ _ i _ => s.size - (intOf i).toNat)
  case atStart => exact HST.out
  case round =>
    obtain ⟨⟨k, n, ov, hk, rfl, rfl, rfl, hbad, hv0, hv1⟩, rfl⟩ := hrel
    have HBAD := Lib.hid hbad
    have HV0 := Lib.hid hv0
    have HV1 := Lib.hid hv1
    clear hbad hv0 hv1 HST
    by_cases hlt : k < s.size
    · have HSN := Lib.hid (take_snoc s k hlt)
      have hd0 := dig_hi s[k]
      by_cases hdb : (dig s[k] : Int) < b
      · have HB2 : Hid (badB b (s.data.toList.take (k + 1)) = false) := Lib.hid (by rw [HSN.out, bad_snoc, HBAD.out]; simp; omega)
        have HVS : Hid (val b (s.data.toList.take (k + 1)) = val b (s.data.toList.take k) * b + dig s[k]) := Lib.hid (by rw [HSN.out, val_snoc])
        cases ov with
        | true =>
          have hg := val_grow (b := b) (by omega) (s.data.toList.take k) [s[k]]
          rw [← HSN.out] at hg
          have HG := Lib.hid (Nat.lt_of_lt_of_le (HV1.out rfl) hg)
          clear hg
          go_wp2_with (go_at_call 78; refine (go_digit _ _).mono ?_; rintro e1 w1 ⟨rfl, rfl⟩)
          go_roundw
          case rel => exact ⟨⟨k + 1, n, true, by omega, by go_num, rfl, rfl, HB2.out, (fun h => by cases h), fun _ => HG.out⟩, rfl⟩
          case measure => simp [intOf]; omega
        | false =>
          obtain ⟨hn, hn1⟩ := HV0.out rfl
          have HN := Lib.hid hn
          have hiff := over_iff (v := n) (d := dig s[k]) (b := b) hd0 (by omega)
          have hq0 : 0 ≤ (9223372036854775808 - (dig s[k] : Int)) := by omega
          by_cases hov : (9223372036854775808 - (dig s[k] : Int)) / (b : Int) < (n : Int)
          · have HOV := Lib.hid (hiff.1 hov)
            clear hn hiff
            go_wp2_with (go_at_call 78; refine (go_digit _ _).mono ?_; rintro e1 w1 ⟨rfl, rfl⟩)
            go_roundw
            case rel => exact ⟨⟨k + 1, n, true, by omega, by go_num, rfl, rfl, HB2.out, (fun h => by cases h), fun _ => by rw [HVS.out, ← HN.out]; exact HOV.out⟩, rfl⟩
            case measure => simp [intOf]; omega
          · have HOV := Lib.hid (show n * b + dig s[k] ≤ 9223372036854775808 by have := mt hiff.2 hov; omega)
            have HMW := Lib.hid (mul_wrap HOV.out)
            clear hn hiff
            go_wp2_with (go_at_call 78; refine (go_digit _ _).mono ?_; rintro e1 w1 ⟨rfl, rfl⟩)
            go_roundw
            case rel => exact ⟨⟨k + 1, n * b + dig s[k], false, by omega, by go_num, by first | rw [HMW.out] | (congr 1; exact HMW.out), rfl, HB2.out, (fun _ => ⟨by rw [HVS.out, ← HN.out], HOV.out⟩), (fun h => by cases h)⟩, rfl⟩
            case measure => simp [intOf]; omega
      · have HR := Lib.hid (parse_form HZ.out (.inr (bad_of hlt hdb).2))
        go_wp2_with (go_at_call 78; refine (go_digit _ _).mono ?_; rintro e1 w1 ⟨rfl, rfl⟩)
        go_ret2
        exact npost' HR.out
    · obtain rfl : k = s.size := by omega
      have HT : Hid (s.data.toList.take s.size = s.data.toList) := Lib.hid (List.take_of_length_le (by simp))
      cases ov with
      | true =>
        have HR := Lib.hid (parse_over HZ.out HE.out (by rw [← HT.out]; exact HBAD.out) (by have := HV1.out rfl; rw [HT.out] at this; exact this))
        clear hlt
        go_wp2
        go_ret2
        exact npost' HR.out
      | false =>
        have hv := HV0.out rfl
        rw [HT.out] at hv
        have HR := Lib.hid (parse_val HZ.out HE.out (by rw [← HT.out]; exact HBAD.out) (by rw [Int.toNat_natCast, ← hv.1]; exact hv.2))
        have HN := Lib.hid hv.1
        clear hlt hv
        go_wp2
        go_ret2
        exact npost' (by rw [HR.out, Int.toNat_natCast, HN.out])
/-- of the first k bytes none is bad -/
structure PfRel (s : ByteArray) (b : Nat) (w : World) (i : Value) (wr : World) : Prop where
  at_ : ∃ k : Nat, k ≤ s.size ∧ i = .int .i64 k ∧ badB b (s.data.toList.take k) = false
  same : w = wr
/-- the number of the first k bytes -/
structure PvRel (s : ByteArray) (b : Nat) (w : World) (v i : Value) (wr : World) : Prop where
  at_ : ∃ k n : Nat, k ≤ s.size ∧ i = .int .i64 k ∧ v = .int .u64 (n : Int) ∧ Hid (n = val b (s.data.toList.take k)) ∧ n ≤ 9223372036854775808
  same : w = wr
theorem not_bad {b : Int} {s : ByteArray} (h : badB b s.data.toList = false) {k : Nat} (hk : k < s.size) : (dig s[k] : Int) < b :=
  Classical.byContradiction fun e => by rw [(bad_of hk e).2] at h; cases h
set_option maxRecDepth 100000 in
theorem ref_Parse (s : ByteArray) (hs : s.size ≤ maxLen) (z : Int) (hz : Fit z) (w : World) : Calls Tryd.prog 69 #[.string s, .int .i64 z] w (NPost (parseT s.data.toList z) w) := by
  by_cases hzz : z < 2 ∨ 36 < z
  · have HR := Lib.hid (parse_arg (l := s.data.toList) hzz)
    rcases hzz with h | h
    all_goals
      clear hz hs
      go_enter Tryd.func69, Tryd.ntmps69
      go_wp2
      go_ret2
      exact npost' HR.out
  have HZ := Lib.hid hzz
  obtain ⟨b, rfl⟩ : ∃ b : Nat, z = b := ⟨z.toNat, by omega⟩
  have hb0 : 2 ≤ (b : Int) := by omega
  have hb1 : (b : Int) ≤ 36 := by omega
  clear hzz hz
  unfold maxLen at hs
  by_cases he : s.data.toList = []
  · have HR := Lib.hid (parse_form HZ.out (.inl he))
    have hsl : s = ⟨#[]⟩ := by obtain ⟨⟨l⟩⟩ := s; simp at he; subst he; rfl
    subst hsl
    clear he
    go_enter Tryd.func69, Tryd.ntmps69
    go_wp2
    go_loopw [6] (fun i wr => i = .int .i64 0 ∧ w = wr) (fun i _ => (intOf i).toNat)
    case atStart => exact ⟨rfl, rfl⟩
    case round =>
      obtain ⟨rfl, rfl⟩ := hrel
      go_wp2
      go_ret2
      exact npost' HR.out
  have HE := Lib.hid he
  have hne : ((s.size : Int) == 0) = false := by
    have h1 : s.size ≠ 0 := fun e => he (by obtain ⟨⟨l⟩⟩ := s; have h2 : l.length = 0 := e; simpa using h2)
    simpa using h1
  have HST := Lib.hid (show PfRel s b w (.int .i64 0) w from ⟨⟨0, Nat.zero_le _, rfl, rfl⟩, rfl⟩)
  clear he
  go_enter Tryd.func69, Tryd.ntmps69
  go_wp2
  go_loopw [6] (fun i wr => PfRel s b w i wr) (fun i _ => s.size - (intOf i).toNat)
  case atStart => exact HST.out
  case round =>
    obtain ⟨⟨k, hk, rfl, hbad⟩, rfl⟩ := hrel
    have HBAD := Lib.hid hbad
    clear hbad HST
    by_cases hlt : k < s.size
    · have HSN := Lib.hid (take_snoc s k hlt)
      by_cases hdb : (dig s[k] : Int) < b
      · have HB2 : Hid (badB b (s.data.toList.take (k + 1)) = false) := Lib.hid (by rw [HSN.out, bad_snoc, HBAD.out]; simp; omega)
        have HDR := Lib.hid (digR_in hb1 hdb)
        go_wp2_with (go_at_call 80; refine (ref_digit _ _).mono ?_; rintro e1 w1 ⟨rfl, rfl⟩; rw [HDR.out])
        go_roundw
        case rel => exact ⟨⟨k + 1, by omega, by go_num, HB2.out⟩, rfl⟩
        case measure => simp [intOf]; omega
      · have HR := Lib.hid (parse_form HZ.out (.inr (bad_of hlt hdb).2))
        have hdr := digR_out hb1 hdb
        go_wp2_with (go_at_call 80; refine (ref_digit _ _).mono ?_; rintro e1 w1 ⟨rfl, rfl⟩)
        go_ret2
        exact npost' HR.out
    · obtain rfl : k = s.size := by omega
      have HT : Hid (s.data.toList.take s.size = s.data.toList) := Lib.hid (List.take_of_length_le (by simp))
      have HB : Hid (badB b s.data.toList = false) := Lib.hid (by rw [← HT.out]; exact HBAD.out)
      have HST := Lib.hid (show PvRel s b w (.int .u64 0) (.int .i64 0) w from ⟨⟨0, 0, Nat.zero_le _, rfl, rfl, Lib.hid rfl, by omega⟩, rfl⟩)
      clear hlt HBAD
      go_wp2
      go_loopw [7, 8] (fun v i wr => PvRel s b w v i wr) (fun _ i _ => s.size - (intOf i).toNat)
      case atStart => exact HST.out
      case round =>
        obtain ⟨⟨k, n, hk, rfl, rfl, HN, hn1⟩, rfl⟩ := hrel
        clear HST
        by_cases hlt : k < s.size
        · have HSN := Lib.hid (take_snoc s k hlt)
          have hdb := not_bad HB.out hlt
          have hd0 := dig_hi s[k]
          have HDR := Lib.hid (digR_in hb1 hdb)
          have HVS : Hid (val b (s.data.toList.take (k + 1)) = val b (s.data.toList.take k) * b + dig s[k]) := Lib.hid (by rw [HSN.out, val_snoc])
          have hiff := over_iff (v := n) (d := dig s[k]) (b := b) hd0 (by omega)
          have hq0 : 0 ≤ (9223372036854775808 - (dig s[k] : Int)) := by omega
          by_cases hov : (9223372036854775808 - (dig s[k] : Int)) / (b : Int) < (n : Int)
          · have HR := Lib.hid (parse_over HZ.out HE.out HB.out (by
              have h1 := hiff.1 hov
              rw [HN.out, ← HVS.out] at h1
              have h2 := val_grow (b := b) (by omega) (s.data.toList.take (k + 1)) (s.data.toList.drop (k + 1))
              rw [List.take_append_drop] at h2
              rw [Int.toNat_natCast]; omega))
            clear hiff
            go_wp2_with (go_at_call 80; refine (ref_digit _ _).mono ?_; rintro e1 w1 ⟨rfl, rfl⟩; rw [HDR.out])
            go_ret2
            exact npost' HR.out
          · have HOV := Lib.hid (show n * b + dig s[k] ≤ 9223372036854775808 by have := mt hiff.2 hov; omega)
            have HMW := Lib.hid (mul_wrap HOV.out)
            clear hiff
            go_wp2_with (go_at_call 80; refine (ref_digit _ _).mono ?_; rintro e1 w1 ⟨rfl, rfl⟩; rw [HDR.out])
            go_roundw
            case rel => exact ⟨⟨k + 1, n * b + dig s[k], by omega, by go_num, by first | rw [HMW.out] | (congr 1; exact HMW.out), Lib.hid (by rw [HVS.out, ← HN.out]), HOV.out⟩, rfl⟩
            case measure => simp [intOf]; omega
        · obtain rfl : k = s.size := by omega
          have HR := Lib.hid (parse_val HZ.out HE.out HB.out (by rw [Int.toNat_natCast, ← HT.out, ← HN.out]; exact hn1))
          have HN2 := Lib.hid (show n = val b s.data.toList by rw [HN.out, HT.out])
          clear hlt
          go_wp2
          go_ret2
          exact npost' (by rw [HR.out, Int.toNat_natCast, HN2.out])
end Go.Proofs.YtkhchmgdaolojaaDoor.Num
