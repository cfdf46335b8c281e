
/-
  Layer 2's reference: Get, walked over the program (printed by gen_nas.py).
-/
import Derived.Test.YtohfgfmekciekaaDoorNaQ
import Derived.Deep.Cut
import Derived.Deep.CutRange
import Derived.Deep.DeepCutAuto
namespace Go.Proofs.YtohfgfmekciekaaDoor.Nam
open Go Go.RowKit Go.Proofs.YtohfgfmekciekaaDoor.Reg Go.Proofs.YtohfgfmekciekaaDoor.Byt
set_option linter.unusedVariables false
set_option linter.unusedSimpArgs false

theorem idx_0 (w : World) : (Instr.index 48 (.agg #[.int .i64 10, .int .i64 13, .int .i64 9, .int .i64 7, .int .i64 8, .int .i64 12, .int .i64 11, .int .i64 0]) (.int .i64 0)).run Tryd.prog w = .ok (.int .i64 10) w := by kernel_rfl
theorem idx_1 (w : World) : (Instr.index 48 (.agg #[.int .i64 10, .int .i64 13, .int .i64 9, .int .i64 7, .int .i64 8, .int .i64 12, .int .i64 11, .int .i64 0]) (.int .i64 1)).run Tryd.prog w = .ok (.int .i64 13) w := by kernel_rfl
theorem idx_2 (w : World) : (Instr.index 48 (.agg #[.int .i64 10, .int .i64 13, .int .i64 9, .int .i64 7, .int .i64 8, .int .i64 12, .int .i64 11, .int .i64 0]) (.int .i64 2)).run Tryd.prog w = .ok (.int .i64 9) w := by kernel_rfl
theorem idx_3 (w : World) : (Instr.index 48 (.agg #[.int .i64 10, .int .i64 13, .int .i64 9, .int .i64 7, .int .i64 8, .int .i64 12, .int .i64 11, .int .i64 0]) (.int .i64 3)).run Tryd.prog w = .ok (.int .i64 7) w := by kernel_rfl
theorem idx_4 (w : World) : (Instr.index 48 (.agg #[.int .i64 10, .int .i64 13, .int .i64 9, .int .i64 7, .int .i64 8, .int .i64 12, .int .i64 11, .int .i64 0]) (.int .i64 4)).run Tryd.prog w = .ok (.int .i64 8) w := by kernel_rfl
theorem idx_5 (w : World) : (Instr.index 48 (.agg #[.int .i64 10, .int .i64 13, .int .i64 9, .int .i64 7, .int .i64 8, .int .i64 12, .int .i64 11, .int .i64 0]) (.int .i64 5)).run Tryd.prog w = .ok (.int .i64 12) w := by kernel_rfl
theorem idx_6 (w : World) : (Instr.index 48 (.agg #[.int .i64 10, .int .i64 13, .int .i64 9, .int .i64 7, .int .i64 8, .int .i64 12, .int .i64 11, .int .i64 0]) (.int .i64 6)).run Tryd.prog w = .ok (.int .i64 11) w := by kernel_rfl
theorem idx_7 (w : World) : (Instr.index 48 (.agg #[.int .i64 10, .int .i64 13, .int .i64 9, .int .i64 7, .int .i64 8, .int .i64 12, .int .i64 11, .int .i64 0]) (.int .i64 7)).run Tryd.prog w = .ok (.int .i64 0) w := by kernel_rfl
def letN : Nat → Nat
  | 0 => 110 | 1 => 114 | 2 => 116 | 3 => 97 | 4 => 98 | 5 => 102 | 6 => 118 | _ => 48
def valN : Nat → Int
  | 0 => 10 | 1 => 13 | 2 => 9 | 3 => 7 | 4 => 8 | 5 => 12 | 6 => 11 | _ => 0
/-- what the first letters tell of a byte; -1: nothing -/
def plE (e : Nat) (z : Bool) : Nat → Int
  | 0 => -1
  | i + 1 => if e = letN i ∧ (i < 7 ∨ z = true) then valN i else plE e z i
theorem plE_no {e : Nat} {z : Bool} {i : Nat} (h : e ≠ letN i) : plE e z (i + 1) = plE e z i := by simp only [plE]; rw [if_neg (fun q => h q.1)]
theorem plE_yes {e : Nat} {z : Bool} {i : Nat} (h : e = letN i) (hi : i < 7 ∨ z = true) : plE e z (i + 1) = valN i := by simp only [plE]; rw [if_pos ⟨h, hi⟩]
theorem plE_zero {z : Bool} (h : z = false) : plE 48 z 8 = -1 := by subst h; rfl
theorem plE_none {e : Nat} {z : Bool} (h : e ≠ 110 ∧ e ≠ 114 ∧ e ≠ 116 ∧ e ≠ 97 ∧ e ≠ 98 ∧ e ≠ 102 ∧ e ≠ 118 ∧ (e ≠ 48 ∨ z = false)) : plE e z 8 = -1 := by
  obtain ⟨h0, h1, h2, h3, h4, h5, h6, h7⟩ := h
  rcases h7 with h7 | h7
  · rw [plE_no (i := 7) h7, plE_no (i := 6) h6, plE_no (i := 5) h5, plE_no (i := 4) h4, plE_no (i := 3) h3, plE_no (i := 2) h2, plE_no (i := 1) h1, plE_no (i := 0) h0]; rfl
  · have : plE e z 8 = plE e z 7 := by simp only [plE]; rw [if_neg (by rintro ⟨-, q | q⟩; exact absurd q (by omega); rw [h7] at q; cases q)]
    rw [this, plE_no (i := 6) h6, plE_no (i := 5) h5, plE_no (i := 4) h4, plE_no (i := 3) h3, plE_no (i := 2) h2, plE_no (i := 1) h1, plE_no (i := 0) h0]; rfl
theorem digR_oct (c : UInt8) : (octB c = true ∧ 0 ≤ digR c 8) ∨ (octB c = false ∧ digR c 8 = -1) := by
  have hc := c.toNat_lt
  have ho := octB_iff c
  unfold digR dig
  by_cases h : 48 ≤ c.toNat ∧ c.toNat ≤ 55
  · refine .inl ⟨ho.2 h, ?_⟩
    rcases digN_ways c.toNat with q | q | q | q <;> split <;> omega
  · refine .inr ⟨by cases e : octB c with | false => rfl | true => exact absurd (ho.1 e) h, ?_⟩
    rcases digN_ways c.toNat with q | q | q | q <;> rw [if_neg (by omega)]
theorem getD_at {s : ByteArray} {k : Nat} (h : k < s.size) : s.data.toList.getD k 0 = s[k] := by
  rw [List.getD_eq_getElem?_getD, List.getElem?_eq_getElem (by simpa using h)]; rfl
theorem plE_last {e : Nat} {z : Bool} (h : z = false) : plE e z 8 = plE e z 7 := by
  simp only [plE]; rw [if_neg (by rintro ⟨-, q | q⟩; exact absurd q (by omega); rw [h] at q; cases q)]
theorem ne_ten {c : UInt8} (h : c.toNat ≠ 10) : c ≠ 10 := fun q => h (by rw [q]; rfl)
theorem known_no {c : UInt8} (h : c.toNat ≠ 110 ∧ c.toNat ≠ 114 ∧ c.toNat ≠ 116 ∧ c.toNat ≠ 97 ∧ c.toNat ≠ 98 ∧ c.toNat ≠ 102 ∧ c.toNat ≠ 118 ∧ c.toNat ≠ 92 ∧ c.toNat ≠ 39 ∧ c.toNat ≠ 34 ∧ c.toNat ≠ 96) : knownL c = none := by
  rcases known_ways c with q | rfl | rfl | rfl | rfl | rfl | rfl | rfl | rfl | rfl | rfl | rfl
  · exact q
  all_goals (exfalso; revert h; decide)
theorem ix_at : ∀ (i : Nat) (h : i < 8), ((ByteArray.mk #[110, 114, 116, 97, 98, 102, 118, 48])[i]'h).toNat = letN i
  | 0, _ => rfl | 1, _ => rfl | 2, _ => rfl | 3, _ => rfl | 4, _ => rfl | 5, _ => rfl | 6, _ => rfl | 7, _ => rfl
theorem idx_any : ∀ (i : Nat) (h : i < 8) (w : World), (Instr.index 48 (.agg #[.int .i64 10, .int .i64 13, .int .i64 9, .int .i64 7, .int .i64 8, .int .i64 12, .int .i64 11, .int .i64 0]) (.int .i64 i)).run Tryd.prog w = .ok (.int .i64 (valN i)) w
  | 0, _, w => idx_0 w | 1, _, w => idx_1 w | 2, _, w => idx_2 w | 3, _, w => idx_3 w | 4, _, w => idx_4 w | 5, _, w => idx_5 w | 6, _, w => idx_6 w | 7, _, w => idx_7 w
structure WLR (e : Nat) (z : Bool) (w : World) (p j : Value) (wq : World) : Prop where
  same : w = wq
  at_ : ∃ i : Nat, i ≤ 8 ∧ j = .int .i64 i ∧ p = .int .i64 (plE e z i)
set_option maxRecDepth 100000 in
set_option maxHeartbeats 4000000 in
theorem ref_Get (s : ByteArray) (q : UInt8) (hs : s.size ≤ 100000) (w : World) : Calls Tryd.prog 17 #[.string s, .int .u8 q.toNat] w (GtPost (getL q (s.size + 1) s.data.toList [] 0) w) := by
  have hqlt := q.toNat_lt
  have HST : Hid (GtRel q s w (.slice none 0 0) (.int .i64 0) w) := Lib.hid ⟨Below.refl _ _, 0, [], Nat.zero_le _, Nat.le_refl _, rfl, OwnB.nil _ _, Lib.hid rfl⟩
  go_enter Tryd.func17, Tryd.ntmps17
  go_wp2
  go_loopw [7, 8] (fun v i wr => GtRel q s w v i wr) (fun _ i _ => s.size - (intOf i).toNat)
  case atStart => exact HST.out
  case round =>
    obtain ⟨hbel, k, out, hk, hout, rfl, hown, HG⟩ := hrel
    clear HST
    have HB := Lib.hid hbel
    have HO := Lib.hid hown
    clear hbel hown
    by_cases hlt : k < s.size
    · have HD := Lib.hid (drop_at hlt)
      have HLD := Lib.hid (len_drop s k)
      have hn := s[k].toNat_lt
      by_cases hcq : s[k].toNat = q.toNat
      · have pq : ((s[k].toNat : Int) == (q.toNat : Int)) = true := by simp; omega
        have hq : s[k] = q := UInt8.toNat_inj.1 hcq
        by_cases hl1 : k + 1 < s.size
        · have HD1 := Lib.hid (drop_at hl1)
          have e1 : (k : Int) + 1 < (s.size : Int) := by omega
          by_cases hdq : s[k + 1].toNat = q.toNat
          · have p2 : ((s[k + 1].toNat : Int) != (q.toNat : Int)) = false := by simp; omega
            have HR := Lib.hid (show getL q (s.size + 1) s.data.toList [] 0 = getL q (s.size + 1) (s.data.toList.drop (k + 2)) (out ++ [q]) (k + 2) by rw [HG.out, HD.out, HD1.out, get_two hq (UInt8.toNat_inj.1 hdq) (by have := HLD.out; rw [HD.out, HD1.out] at this; exact this), hq])
            have hii : ((k : Int) + 1 + 1) = (k : Int) + 2 := by omega
            clear hcq hq hdq
            go_wp2_with (first
              | (with_reducible show wpList _ _ _ (⟨some 169, _, _, _, _, _⟩ :: _) _ _
                 refine wpList_appL rfl (.tmp 166) (.tmp 168) rfl w.heap.size _ _ [q] _ _ _ _ rfl (HO.out.below (box_b _ _)) rfl (heap_alloc_new _ _) (by first | (simp; done) | (simp; omega)) (by have := HB.out.size; first | (simp; done) | (simp; omega)) ?_
                 intro v2 w2 ho2 hb2
                 have HO2 := Lib.hid ho2
                 have HB2 := Lib.hid ((HB.out.trans ((box_b _ _).mono HB.out.size)).trans hb2)
                 clear HO HB ho2 hb2
                 have HO := Lib.hid HO2.out
                 have HB := Lib.hid HB2.out
                 clear HO2 HB2))
            go_roundw
            case rel => exact ⟨HB.out, k + 2, _, by omega, by simp; omega, by first | go_num | (congr 1; omega), HO.out, HR⟩
            case measure => simp [intOf]; omega
          · have p2 : ((s[k + 1].toNat : Int) != (q.toNat : Int)) = true := by simp; omega
            have HR := Lib.hid (show getL q (s.size + 1) s.data.toList [] 0 = some (out, k + 1) by rw [HG.out, HD.out, HD1.out]; exact get_end hq (.inr ⟨_, _, rfl, fun e => hdq (by rw [e])⟩) (by omega))
            clear hcq hq hdq
            go_wp2_with (first
              | (with_reducible show wpList _ _ _ (⟨some 164, _, _, _, _, _⟩ :: _) _ _
                 refine wpList_strB rfl _ rfl w.heap.size _ _ rfl HO.out ?_))
            go_ret3
            exact gt_some HR.out (by omega) HB.out
        · have e1 : (s.size : Int) ≤ (k : Int) + 1 := by omega
          have HR := Lib.hid (show getL q (s.size + 1) s.data.toList [] 0 = some (out, k + 1) by rw [HG.out, HD.out, List.drop_of_length_le (by simp; omega)]; exact get_end hq (.inl rfl) (by omega))
          clear hcq hq
          go_wp2_with (first
            | (with_reducible show wpList _ _ _ (⟨some 164, _, _, _, _, _⟩ :: _) _ _
               refine wpList_strB rfl _ rfl w.heap.size _ _ rfl HO.out ?_))
          go_ret3
          exact gt_some HR.out (by omega) HB.out
      have pq : ((s[k].toNat : Int) == (q.toNat : Int)) = false := by simp; omega
      have hq : s[k] ≠ q := fun e => hcq (by rw [e])
      by_cases h10 : s[k].toNat = 10
      · have p10 : ((s[k].toNat : Int) == 10) = true := by simp; omega
        have HR := Lib.hid (show getL q (s.size + 1) s.data.toList [] 0 = none by rw [HG.out, HD.out]; exact get_lf hq (eq_nat h10))
        clear hcq hq h10
        go_wp2
        go_ret3
        exact gt_none HR.out HB.out
      have p10 : ((s[k].toNat : Int) == 10) = false := by simp; omega
      have h10q : s[k] ≠ 10 := fun e => h10 (by rw [e]; rfl)
      by_cases h92 : s[k].toNat = 92
      · have p92 : ((s[k].toNat : Int) != 92) = false := by simp; omega
        have h92q : s[k] = 92 := eq_nat h92
        by_cases hl1 : k + 1 < s.size
        · have HD1 := Lib.hid (drop_at hl1)
          have e1 : (k : Int) + 1 < (s.size : Int) := by omega
          have hF2 : (s[k] :: s[k + 1] :: s.data.toList.drop (k + 1 + 1)).length < s.size + 1 := by have := HLD.out; rw [HD.out, HD1.out] at this; exact this
          have HF2 := Lib.hid hF2
          have HQ := Lib.hid hq
          have H92 := Lib.hid h92q
          clear hcq hq h10 h10q h92 h92q hF2
          obtain ⟨m, hm⟩ : ∃ m : Bool, m = (decide (k + 2 < s.size) && decide (0 ≤ digR (s.data.toList.getD (k + 2) 0) 8)) := ⟨_, rfl⟩
          have HM := Lib.hid hm
          clear hm
          go_upto_region 9 with fail
          go_cut [11] from 34 to 46 (fun v wx => v = .bool m ∧ wx = wr)
          case first =>
            by_cases hl2 : k + 2 < s.size
            · have g2 : (k : Int) + 1 + 1 < (s.size : Int) := by omega
              have hgd : s.data.toList.getD (k + 2) 0 = s[k + 2] := getD_at hl2
              rcases digR_oct s[k + 2] with ⟨ho, hd⟩ | ⟨ho, hd⟩
              · have HMT := Lib.hid (show m = true by rw [HM.out, hgd]; simp [hl2, hd])
                clear ho hgd
                go_wp2_with (go_at_call 27; refine (ref_digit _ 8 (by decide) (by decide) _).mono ?_; rintro e1 w1 ⟨rfl, rfl⟩)
                go_meet
                case rel => exact ⟨by rw [HMT.out], rfl⟩
              · have HMT := Lib.hid (show m = false by rw [HM.out, hgd, hd]; simp)
                have HDV := Lib.hid hd
                clear ho hgd hd
                go_wp2_with (go_at_call 27; refine (ref_digit _ 8 (by decide) (by decide) _).mono ?_; rintro e1 w1 ⟨rfl, rfl⟩; rw [HDV.out])
                go_meet
                case rel => exact ⟨by rw [HMT.out], rfl⟩
            · have g2 : (s.size : Int) ≤ (k : Int) + 1 + 1 := by omega
              have HMT := Lib.hid (show m = false by rw [HM.out]; simp [hl2])
              clear hl2
              go_wp2
              go_meet
              case rel => exact ⟨by rw [HMT.out], rfl⟩
          case rest =>
            obtain ⟨rfl, rfl⟩ := hcut
            obtain ⟨z, hz⟩ : ∃ z : Bool, z = zeroB (s.data.toList.drop (k + 2)) := ⟨_, rfl⟩
            have HZ := Lib.hid hz
            clear hz
            have HP0 := Lib.hid (show plE s[k + 1].toNat z 0 = -1 from rfl)
            go_wp2_with fail
            go_loopw [12, 13] (fun p j wq => WLR s[k + 1].toNat z wc p j wq) (fun _ j _ => 8 - (intOf j).toNat)
            case atStart => exact ⟨rfl, 0, by omega, rfl, rfl⟩
            case round =>
              obtain ⟨rfl, i, hi, rfl, rfl⟩ := hrel
              rcases (by omega : i < 7 ∨ i = 7 ∨ i = 8) with h7 | rfl | rfl
              · have hi8 : i < 8 := by omega
                have y := Lib.hid (ix_at i hi8)
                have hsz : (ByteArray.mk #[110, 114, 116, 97, 98, 102, 118, 48]).size = 8 := rfl
                by_cases he : s[k + 1].toNat = letN i
                · have pe : ((s[k + 1].toNat : Int) == (((ByteArray.mk #[110, 114, 116, 97, 98, 102, 118, 48])[i]'(by rw [hsz]; exact hi8)).toNat : Int)) = true := by rw [y.out]; simp; omega
                  have HV := Lib.hid (plE_yes (z := z) (i := i) he (.inl h7))
                  have x := idx_any i hi8
                  clear he
                  go_wp2
                  go_roundw
                  case rel => exact ⟨rfl, i + 1, by omega, by first | rfl | go_num, by rw [HV.out]⟩
                  case measure => simp [intOf]; omega
                · have pe : ((s[k + 1].toNat : Int) == (((ByteArray.mk #[110, 114, 116, 97, 98, 102, 118, 48])[i]'(by rw [hsz]; exact hi8)).toNat : Int)) = false := by rw [y.out]; simp; omega
                  have HV := Lib.hid (plE_no (z := z) (i := i) he)
                  clear he
                  go_wp2
                  go_roundw
                  case rel => exact ⟨rfl, i + 1, by omega, by first | rfl | go_num, by rw [HV.out]⟩
                  case measure => simp [intOf]; omega
              · have hc : ((7 : Nat) : Int) = 7 := rfl
                rw [hc]
                clear hc
                have y : (ByteArray.mk #[110, 114, 116, 97, 98, 102, 118, 48])[7].toNat = 48 := rfl
                by_cases he : s[k + 1].toNat = 48
                · have e48 : ((s[k + 1].toNat : Int) == 48) = true := by simp; omega
                  have x := idx_7
                  by_cases hl2 : k + 2 < s.size
                  · have g2 : (k : Int) + 1 + 1 < (s.size : Int) := by omega
                    have HD2 := Lib.hid (drop_at hl2)
                    rcases digR_oct s[k + 2] with ⟨ho, hd⟩ | ⟨ho, hd⟩
                    · obtain rfl : m = true := by rw [HM.out, getD_at hl2]; simp [hl2, hd]
                      have HV := Lib.hid (plE_last (e := s[k + 1].toNat) (z := z) (by rw [HZ.out, HD2.out]; show (!octB s[k + 2] && s[k + 2] != 92) = false; rw [ho]; rfl))
                      clear he ho hd
                      go_wp2
                      go_roundw
                      case rel => exact ⟨rfl, 8, by omega, by first | rfl | go_num, by first | rw [HV.out]; rfl | rw [HV.out]⟩
                      case measure => simp [intOf]
                    · obtain rfl : m = false := by rw [HM.out, getD_at hl2, hd]; simp
                      by_cases h9 : s[k + 2].toNat = 92
                      · have e9 : ((s[k + 2].toNat : Int) == 92) = true := by simp; omega
                        have HV := Lib.hid (plE_last (e := s[k + 1].toNat) (z := z) (by rw [HZ.out, HD2.out]; show (!octB s[k + 2] && s[k + 2] != 92) = false; rw [show s[k + 2] = 92 from eq_nat h9]; rfl))
                        clear he ho hd h9
                        go_wp2
                        go_roundw
                        case rel => exact ⟨rfl, 8, by omega, by first | rfl | go_num, by first | rw [HV.out]; rfl | rw [HV.out]⟩
                        case measure => simp [intOf]
                      · have e9 : ((s[k + 2].toNat : Int) == 92) = false := by simp; omega
                        have HV := Lib.hid (plE_yes (z := z) (i := 7) he (.inr (by rw [HZ.out, HD2.out]; show (!octB s[k + 2] && s[k + 2] != 92) = true; rw [ho]; have : ¬ s[k + 2] = 92 := fun q => h9 (by rw [q]; rfl); simp [this])))
                        clear he ho hd h9
                        go_wp2
                        go_roundw
                        case rel => exact ⟨rfl, 8, by omega, by first | rfl | go_num, by first | rw [HV.out]; rfl | rw [HV.out]⟩
                        case measure => simp [intOf]
                  · have g2 : (s.size : Int) ≤ (k : Int) + 1 + 1 := by omega
                    obtain rfl : m = false := by rw [HM.out]; simp [hl2]
                    have HV := Lib.hid (plE_yes (z := z) (i := 7) he (.inr (by rw [HZ.out, List.drop_of_length_le (by simp; omega)]; rfl)))
                    clear he
                    go_wp2
                    go_roundw
                    case rel => exact ⟨rfl, 8, by omega, by first | rfl | go_num, by first | rw [HV.out]; rfl | rw [HV.out]⟩
                    case measure => simp [intOf]
                · have e48 : ((s[k + 1].toNat : Int) == 48) = false := by simp; omega
                  have HV := Lib.hid (plE_no (z := z) (i := 7) he)
                  clear he
                  go_wp2
                  go_roundw
                  case rel => exact ⟨rfl, 8, by omega, by first | rfl | go_num, by first | rw [HV.out]; rfl | rw [HV.out]⟩
                  case measure => simp [intOf]
              · have hc : ((8 : Nat) : Int) = 8 := rfl
                rw [hc]
                clear hc hi
                by_cases hpl : ∃ c2 : UInt8, plE s[k + 1].toNat z 8 = c2.toNat ∧ escL (s[k + 1] :: s.data.toList.drop (k + 1 + 1)) = some (c2.toNat, 1) ∧ s[k + 1].toNat ≠ 10
                · obtain ⟨c2, hpv, hpe, he10⟩ := hpl
                  have HV := Lib.hid hpv
                  have HR := Lib.hid (show getL q (s.size + 1) s.data.toList [] 0 = getL q (s.size + 1) (s.data.toList.drop (k + 1 + 1)) (out ++ [c2]) (k + 1 + 1) by rw [HG.out, HD.out, HD1.out, get_esc HQ.out H92.out (ne_ten he10) (hpe) HF2.out, ← HD1.out, List.drop_drop, show UInt8.ofNat c2.toNat = c2 by simp])
                  rw [HV.out]
                  have hm2 := c2.toNat_lt
                  clear hpv hpe he10
                  go_wp2_with (first
          | (with_reducible show wpList _ _ _ (⟨some 88, _, _, _, _, _⟩ :: _) _ _
             refine wpList_appL rfl (.tmp 84) (.tmp 87) rfl w.heap.size _ _ [c2] _ _ _ _ rfl (HO.out.below (box_b _ _)) rfl (heap_alloc_new _ _) (by first | (simp; done) | (simp; omega)) (by have := HB.out.size; first | (simp; done) | (simp; omega)) ?_
             intro v2 w2 ho2 hb2
             have HO2 := Lib.hid ho2
             have HB2 := Lib.hid ((HB.out.trans ((box_b _ _).mono HB.out.size)).trans hb2)
             clear HO HB ho2 hb2
             have HO := Lib.hid HO2.out
             have HB := Lib.hid HB2.out
             clear HO2 HB2))
                  go_roundw
                  case rel => exact ⟨HB.out, k + 1 + 1, _, by omega, by simp; omega, by first | go_num | (congr 1; omega), HO.out, HR⟩
                  case measure => simp [intOf]; omega
                have he110 : s[k + 1].toNat ≠ 110 := fun he => hpl ⟨10, by rw [he]; rfl, by rw [escL_known (n := 10) (by rw [show s[k + 1] = 110 from eq_nat he]; rfl)]; rfl, by rw [he]; decide⟩
                have he114 : s[k + 1].toNat ≠ 114 := fun he => hpl ⟨13, by rw [he]; rfl, by rw [escL_known (n := 13) (by rw [show s[k + 1] = 114 from eq_nat he]; rfl)]; rfl, by rw [he]; decide⟩
                have he116 : s[k + 1].toNat ≠ 116 := fun he => hpl ⟨9, by rw [he]; rfl, by rw [escL_known (n := 9) (by rw [show s[k + 1] = 116 from eq_nat he]; rfl)]; rfl, by rw [he]; decide⟩
                have he97 : s[k + 1].toNat ≠ 97 := fun he => hpl ⟨7, by rw [he]; rfl, by rw [escL_known (n := 7) (by rw [show s[k + 1] = 97 from eq_nat he]; rfl)]; rfl, by rw [he]; decide⟩
                have he98 : s[k + 1].toNat ≠ 98 := fun he => hpl ⟨8, by rw [he]; rfl, by rw [escL_known (n := 8) (by rw [show s[k + 1] = 98 from eq_nat he]; rfl)]; rfl, by rw [he]; decide⟩
                have he102 : s[k + 1].toNat ≠ 102 := fun he => hpl ⟨12, by rw [he]; rfl, by rw [escL_known (n := 12) (by rw [show s[k + 1] = 102 from eq_nat he]; rfl)]; rfl, by rw [he]; decide⟩
                have he118 : s[k + 1].toNat ≠ 118 := fun he => hpl ⟨11, by rw [he]; rfl, by rw [escL_known (n := 11) (by rw [show s[k + 1] = 118 from eq_nat he]; rfl)]; rfl, by rw [he]; decide⟩
                have he48 : ¬ (s[k + 1].toNat = 48 ∧ z = true) := by
                  rintro ⟨he, rfl⟩
                  exact hpl ⟨0, by rw [he]; rfl, by rw [escL_0 (by rw [show s[k + 1] = 48 from eq_nat he]; rfl) (by rw [show s[k + 1] = 48 from eq_nat he]; decide) ⟨eq_nat he, HZ.out.symm⟩]; rfl, by rw [he]; decide⟩
                clear hpl
                have HV := Lib.hid (show plE s[k + 1].toNat z 8 = -1 from plE_none ⟨he110, he114, he116, he97, he98, he102, he118, by by_cases q : s[k + 1].toNat = 48; exact .inr (by cases z with | false => rfl | true => exact absurd ⟨q, rfl⟩ he48); exact .inl q⟩)
                rw [HV.out]
                by_cases he92 : s[k + 1].toNat = 92
                · have e92 : ((s[k + 1].toNat : Int) == 92) = true := by simp; omega
                  have HR := Lib.hid (show getL q (s.size + 1) s.data.toList [] 0 = getL q (s.size + 1) (s.data.toList.drop (k + 1 + 1)) (out ++ [92]) (k + 1 + 1) by rw [HG.out, HD.out, HD1.out, get_esc HQ.out H92.out (ne_ten (by first | exact he10 | omega)) (escL_known (n := 92) (by rw [show s[k + 1] = 92 from eq_nat he92]; rfl)) HF2.out, ← HD1.out, List.drop_drop]; rfl)
                  rw [show (92 : UInt8) = s[k + 1] from (eq_nat he92).symm] at HR
                  clear he92
                  go_wp2_with (first
          | (with_reducible show wpList _ _ _ (⟨some 109, _, _, _, _, _⟩ :: _) _ _
             refine wpList_appL rfl (.tmp 106) (.tmp 108) rfl w.heap.size _ _ [s[k + 1]] _ _ _ _ rfl (HO.out.below (box_b _ _)) rfl (heap_alloc_new _ _) (by first | (simp; done) | (simp; omega)) (by have := HB.out.size; first | (simp; done) | (simp; omega)) ?_
             intro v2 w2 ho2 hb2
             have HO2 := Lib.hid ho2
             have HB2 := Lib.hid ((HB.out.trans ((box_b _ _).mono HB.out.size)).trans hb2)
             clear HO HB ho2 hb2
             have HO := Lib.hid HO2.out
             have HB := Lib.hid HB2.out
             clear HO2 HB2))
                  go_roundw
                  case rel => exact ⟨HB.out, k + 1 + 1, _, by omega, by simp; omega, by first | go_num | (congr 1; omega), HO.out, HR⟩
                  case measure => simp [intOf]; omega
                have e92 : ((s[k + 1].toNat : Int) == 92) = false := by simp; omega
                by_cases he39 : s[k + 1].toNat = 39
                · have e39 : ((s[k + 1].toNat : Int) == 39) = true := by simp; omega
                  have HR := Lib.hid (show getL q (s.size + 1) s.data.toList [] 0 = getL q (s.size + 1) (s.data.toList.drop (k + 1 + 1)) (out ++ [39]) (k + 1 + 1) by rw [HG.out, HD.out, HD1.out, get_esc HQ.out H92.out (ne_ten (by first | exact he10 | omega)) (escL_known (n := 39) (by rw [show s[k + 1] = 39 from eq_nat he39]; rfl)) HF2.out, ← HD1.out, List.drop_drop]; rfl)
                  rw [show (39 : UInt8) = s[k + 1] from (eq_nat he39).symm] at HR
                  clear he39
                  go_wp2_with (first
          | (with_reducible show wpList _ _ _ (⟨some 109, _, _, _, _, _⟩ :: _) _ _
             refine wpList_appL rfl (.tmp 106) (.tmp 108) rfl w.heap.size _ _ [s[k + 1]] _ _ _ _ rfl (HO.out.below (box_b _ _)) rfl (heap_alloc_new _ _) (by first | (simp; done) | (simp; omega)) (by have := HB.out.size; first | (simp; done) | (simp; omega)) ?_
             intro v2 w2 ho2 hb2
             have HO2 := Lib.hid ho2
             have HB2 := Lib.hid ((HB.out.trans ((box_b _ _).mono HB.out.size)).trans hb2)
             clear HO HB ho2 hb2
             have HO := Lib.hid HO2.out
             have HB := Lib.hid HB2.out
             clear HO2 HB2))
                  go_roundw
                  case rel => exact ⟨HB.out, k + 1 + 1, _, by omega, by simp; omega, by first | go_num | (congr 1; omega), HO.out, HR⟩
                  case measure => simp [intOf]; omega
                have e39 : ((s[k + 1].toNat : Int) == 39) = false := by simp; omega
                by_cases he34 : s[k + 1].toNat = 34
                · have e34 : ((s[k + 1].toNat : Int) == 34) = true := by simp; omega
                  have HR := Lib.hid (show getL q (s.size + 1) s.data.toList [] 0 = getL q (s.size + 1) (s.data.toList.drop (k + 1 + 1)) (out ++ [34]) (k + 1 + 1) by rw [HG.out, HD.out, HD1.out, get_esc HQ.out H92.out (ne_ten (by first | exact he10 | omega)) (escL_known (n := 34) (by rw [show s[k + 1] = 34 from eq_nat he34]; rfl)) HF2.out, ← HD1.out, List.drop_drop]; rfl)
                  rw [show (34 : UInt8) = s[k + 1] from (eq_nat he34).symm] at HR
                  clear he34
                  go_wp2_with (first
          | (with_reducible show wpList _ _ _ (⟨some 109, _, _, _, _, _⟩ :: _) _ _
             refine wpList_appL rfl (.tmp 106) (.tmp 108) rfl w.heap.size _ _ [s[k + 1]] _ _ _ _ rfl (HO.out.below (box_b _ _)) rfl (heap_alloc_new _ _) (by first | (simp; done) | (simp; omega)) (by have := HB.out.size; first | (simp; done) | (simp; omega)) ?_
             intro v2 w2 ho2 hb2
             have HO2 := Lib.hid ho2
             have HB2 := Lib.hid ((HB.out.trans ((box_b _ _).mono HB.out.size)).trans hb2)
             clear HO HB ho2 hb2
             have HO := Lib.hid HO2.out
             have HB := Lib.hid HB2.out
             clear HO2 HB2))
                  go_roundw
                  case rel => exact ⟨HB.out, k + 1 + 1, _, by omega, by simp; omega, by first | go_num | (congr 1; omega), HO.out, HR⟩
                  case measure => simp [intOf]; omega
                have e34 : ((s[k + 1].toNat : Int) == 34) = false := by simp; omega
                by_cases he96 : s[k + 1].toNat = 96
                · have e96 : ((s[k + 1].toNat : Int) == 96) = true := by simp; omega
                  have HR := Lib.hid (show getL q (s.size + 1) s.data.toList [] 0 = getL q (s.size + 1) (s.data.toList.drop (k + 1 + 1)) (out ++ [96]) (k + 1 + 1) by rw [HG.out, HD.out, HD1.out, get_esc HQ.out H92.out (ne_ten (by first | exact he10 | omega)) (escL_known (n := 96) (by rw [show s[k + 1] = 96 from eq_nat he96]; rfl)) HF2.out, ← HD1.out, List.drop_drop]; rfl)
                  rw [show (96 : UInt8) = s[k + 1] from (eq_nat he96).symm] at HR
                  clear he96
                  go_wp2_with (first
          | (with_reducible show wpList _ _ _ (⟨some 109, _, _, _, _, _⟩ :: _) _ _
             refine wpList_appL rfl (.tmp 106) (.tmp 108) rfl w.heap.size _ _ [s[k + 1]] _ _ _ _ rfl (HO.out.below (box_b _ _)) rfl (heap_alloc_new _ _) (by first | (simp; done) | (simp; omega)) (by have := HB.out.size; first | (simp; done) | (simp; omega)) ?_
             intro v2 w2 ho2 hb2
             have HO2 := Lib.hid ho2
             have HB2 := Lib.hid ((HB.out.trans ((box_b _ _).mono HB.out.size)).trans hb2)
             clear HO HB ho2 hb2
             have HO := Lib.hid HO2.out
             have HB := Lib.hid HB2.out
             clear HO2 HB2))
                  go_roundw
                  case rel => exact ⟨HB.out, k + 1 + 1, _, by omega, by simp; omega, by first | go_num | (congr 1; omega), HO.out, HR⟩
                  case measure => simp [intOf]; omega
                have e96 : ((s[k + 1].toNat : Int) == 96) = false := by simp; omega
                by_cases he10 : s[k + 1].toNat = 10
                · have e10 : ((s[k + 1].toNat : Int) == 10) = true := by simp; omega
                  have HR := Lib.hid (show getL q (s.size + 1) s.data.toList [] 0 = getL q (s.size + 1) (s.data.toList.drop (k + 2)) out (k + 2) by rw [HG.out, HD.out, HD1.out, get_fold HQ.out H92.out (eq_nat he10) HF2.out])
                  clear he10
                  go_wp2
                  go_roundw
                  case rel => exact ⟨HB.out, k + 2, _, by omega, by omega, by first | go_num | (congr 1; omega), HO.out, HR⟩
                  case measure => simp [intOf]; omega
                have e10 : ((s[k + 1].toNat : Int) == 10) = false := by simp; omega
                have hkn : knownL s[k + 1] = none := known_no ⟨he110, he114, he116, he97, he98, he102, he118, he92, he39, he34, he96⟩
                by_cases he120 : s[k + 1].toNat = 120
                · have e120 : ((s[k + 1].toNat : Int) == 120) = true := by simp; omega
                  have hx := ext_drop (s := s) (k := k + 1 + 1) (by omega)
                  cases hcd : codeL 16 0 0 (s.extract (k + 1 + 1) s.size).data.toList with
                  | none =>
                    have HC := Lib.hid hcd
                    have HR := Lib.hid (show getL q (s.size + 1) s.data.toList [] 0 = none by rw [HG.out, HD.out, HD1.out]; exact get_bad HQ.out H92.out (fun q => he10 (by rw [q]; rfl)) (by rw [escL_x hkn (eq_nat he120), ← hx, hcd]; rfl))
                    clear hcd hx hkn he120
                    go_wp2_with (first
          | (go_at_call 28
             refine (ref_number 16 (by decide) (by decide) _ (by unfold maxLen; simp [ByteArray.size_extract]; omega) _).mono ?_
             rintro e1 w1 ⟨-, h2, rfl⟩
             obtain rfl := h2 HC.out; clear h2))
                    go_ret3
                    exact gt_none HR.out HB.out
                  | some pp =>
                    obtain ⟨mm, j⟩ := pp
                    obtain ⟨hj1, hm1, hj0⟩ := codeL_le hcd (by omega)
                    rw [hx] at hj1
                    simp only [List.length_drop, Array.length_toList, ByteArray.size_data] at hj1
                    have HC := Lib.hid hcd
                    have HR := Lib.hid (show getL q (s.size + 1) s.data.toList [] 0 = getL q (s.size + 1) (s.data.toList.drop (k + 1 + (j + 1))) (out ++ [UInt8.ofNat mm]) (k + 1 + (j + 1)) by rw [HG.out, HD.out, HD1.out, get_esc HQ.out H92.out (ne_ten (by first | exact he10 | omega)) (by rw [escL_x hkn (eq_nat he120), ← hx, hcd]; rfl) HF2.out, ← HD1.out, List.drop_drop])
                    obtain ⟨c2, hc2⟩ : ∃ c2 : UInt8, c2.toNat = mm := ⟨UInt8.ofNat mm, by simp; omega⟩
                    subst hc2
                    rw [show UInt8.ofNat c2.toNat = c2 by simp] at HR
                    have hm2 := c2.toNat_lt
                    clear hcd hx hm1 hkn he120
                    go_wp2_with (first
          | (go_at_call 28
             refine (ref_number 16 (by decide) (by decide) _ (by unfold maxLen; simp [ByteArray.size_extract]; omega) _).mono ?_
             rintro e1 w1 ⟨h1, -, rfl⟩
             obtain rfl := h1 _ _ HC.out; clear h1)
          | (with_reducible show wpList _ _ _ (⟨some 144, _, _, _, _, _⟩ :: _) _ _
             refine wpList_appL rfl (.tmp 140) (.tmp 143) rfl w.heap.size _ _ [c2] _ _ _ _ rfl (HO.out.below (box_b _ _)) rfl (heap_alloc_new _ _) (by first | (simp; done) | (simp; omega)) (by have := HB.out.size; first | (simp; done) | (simp; omega)) ?_
             intro v2 w2 ho2 hb2
             have HO2 := Lib.hid ho2
             have HB2 := Lib.hid ((HB.out.trans ((box_b _ _).mono HB.out.size)).trans hb2)
             clear HO HB ho2 hb2
             have HO := Lib.hid HO2.out
             have HB := Lib.hid HB2.out
             clear HO2 HB2))
                    go_roundw
                    case rel => exact ⟨HB.out, k + 1 + (j + 1), _, by omega, by simp; omega, by first | go_num | (congr 1; omega), HO.out, HR⟩
                    case measure => simp [intOf]; omega
                have e120 : ((s[k + 1].toNat : Int) == 120) = false := by simp; omega
                have h120q : s[k + 1] ≠ 120 := fun q => he120 (by rw [q]; rfl)
                have h0q : ¬ (s[k + 1] = 48 ∧ zeroB (s.data.toList.drop (k + 2)) = true) := fun q => he48 ⟨by rw [q.1]; rfl, by rw [HZ.out]; exact q.2⟩
                rcases digR_oct s[k + 1] with ⟨ho, hd⟩ | ⟨ho, hd⟩
                · have hx := ext_drop (s := s) (k := k + 1) (by omega)
                  cases hcd : codeL 8 0 0 (s.extract (k + 1) s.size).data.toList with
                  | none =>
                    have HC := Lib.hid hcd
                    have HR := Lib.hid (show getL q (s.size + 1) s.data.toList [] 0 = none by rw [HG.out, HD.out, HD1.out]; exact get_bad HQ.out H92.out (fun q => he10 (by rw [q]; rfl)) (by rw [escL_oct hkn h120q h0q ho, ← HD1.out, ← hx, hcd]))
                    clear hcd hx hkn ho h120q h0q
                    go_wp2_with (first
          | (go_at_call 27; refine (ref_digit _ 8 (by decide) (by decide) _).mono ?_; rintro e1 w1 ⟨rfl, rfl⟩)
          | (go_at_call 28
             refine (ref_number 8 (by decide) (by decide) _ (by unfold maxLen; simp [ByteArray.size_extract]; omega) _).mono ?_
             rintro e1 w1 ⟨-, h2, rfl⟩
             obtain rfl := h2 HC.out; clear h2))
                    go_ret3
                    exact gt_none HR.out HB.out
                  | some pp =>
                    obtain ⟨mm, j⟩ := pp
                    obtain ⟨hj1, hm1, hj0⟩ := codeL_le hcd (by omega)
                    rw [hx] at hj1
                    simp only [List.length_drop, Array.length_toList, ByteArray.size_data] at hj1
                    have HC := Lib.hid hcd
                    have HR := Lib.hid (show getL q (s.size + 1) s.data.toList [] 0 = getL q (s.size + 1) (s.data.toList.drop (k + 1 + j)) (out ++ [UInt8.ofNat mm]) (k + 1 + j) by rw [HG.out, HD.out, HD1.out, get_esc HQ.out H92.out (ne_ten (by first | exact he10 | omega)) (by rw [escL_oct hkn h120q h0q ho, ← HD1.out, ← hx, hcd]) HF2.out, ← HD1.out, List.drop_drop])
                    obtain ⟨c2, hc2⟩ : ∃ c2 : UInt8, c2.toNat = mm := ⟨UInt8.ofNat mm, by simp; omega⟩
                    subst hc2
                    rw [show UInt8.ofNat c2.toNat = c2 by simp] at HR
                    have hm2 := c2.toNat_lt
                    clear hcd hx hm1 hkn ho h120q h0q
                    go_wp2_with (first
          | (go_at_call 27; refine (ref_digit _ 8 (by decide) (by decide) _).mono ?_; rintro e1 w1 ⟨rfl, rfl⟩)
          | (go_at_call 28
             refine (ref_number 8 (by decide) (by decide) _ (by unfold maxLen; simp [ByteArray.size_extract]; omega) _).mono ?_
             rintro e1 w1 ⟨h1, -, rfl⟩
             obtain rfl := h1 _ _ HC.out; clear h1)
          | (with_reducible show wpList _ _ _ (⟨some 144, _, _, _, _, _⟩ :: _) _ _
             refine wpList_appL rfl (.tmp 140) (.tmp 143) rfl w.heap.size _ _ [c2] _ _ _ _ rfl (HO.out.below (box_b _ _)) rfl (heap_alloc_new _ _) (by first | (simp; done) | (simp; omega)) (by have := HB.out.size; first | (simp; done) | (simp; omega)) ?_
             intro v2 w2 ho2 hb2
             have HO2 := Lib.hid ho2
             have HB2 := Lib.hid ((HB.out.trans ((box_b _ _).mono HB.out.size)).trans hb2)
             clear HO HB ho2 hb2
             have HO := Lib.hid HO2.out
             have HB := Lib.hid HB2.out
             clear HO2 HB2))
                    go_roundw
                    case rel => exact ⟨HB.out, k + 1 + j, _, by omega, by simp; omega, by first | go_num | (congr 1; omega), HO.out, HR⟩
                    case measure => simp [intOf]; omega
                · have HR := Lib.hid (show getL q (s.size + 1) s.data.toList [] 0 = none by rw [HG.out, HD.out, HD1.out]; exact get_bad HQ.out H92.out (fun q => he10 (by rw [q]; rfl)) (escL_no hkn h120q h0q ho))
                  have HDV := Lib.hid hd
                  clear hkn h120q h0q ho hd
                  go_wp2_with (first
          | (go_at_call 27; refine (ref_digit _ 8 (by decide) (by decide) _).mono ?_; rintro e1 w1 ⟨rfl, rfl⟩; rw [HDV.out]))
                  go_ret3
                  exact gt_none HR.out HB.out
        · have e1 : (s.size : Int) ≤ (k : Int) + 1 := by omega
          have HR := Lib.hid (show getL q (s.size + 1) s.data.toList [] 0 = none by rw [HG.out, HD.out, List.drop_of_length_le (by simp; omega)]; exact get_cut hq h92q)
          clear hcq hq h10 h10q h92 h92q
          go_wp2
          go_ret3
          exact gt_none HR.out HB.out
      · have p92 : ((s[k].toNat : Int) != 92) = true := by simp; omega
        have HR := Lib.hid (show getL q (s.size + 1) s.data.toList [] 0 = getL q (s.size + 1) (s.data.toList.drop (k + 1)) (out ++ [s[k]]) (k + 1) by rw [HG.out, HD.out, get_one hq h10q (fun e => h92 (by rw [e]; rfl)) (by have := HLD.out; rw [HD.out] at this; exact this)])
        clear hcq hq h10 h10q h92
        go_wp2_with (first
          | (with_reducible show wpList _ _ _ (⟨some 181, _, _, _, _, _⟩ :: _) _ _
             refine wpList_appL rfl (.tmp 178) (.tmp 180) rfl w.heap.size _ _ [s[k]] _ _ _ _ rfl (HO.out.below (box_b _ _)) rfl (heap_alloc_new _ _) (by first | (simp; done) | (simp; omega)) (by have := HB.out.size; first | (simp; done) | (simp; omega)) ?_
             intro v2 w2 ho2 hb2
             have HO2 := Lib.hid ho2
             have HB2 := Lib.hid ((HB.out.trans ((box_b _ _).mono HB.out.size)).trans hb2)
             clear HO HB ho2 hb2
             have HO := Lib.hid HO2.out
             have HB := Lib.hid HB2.out
             clear HO2 HB2))
        go_roundw
        case rel => exact ⟨HB.out, k + 1, _, by omega, by simp; omega, by first | go_num | (congr 1; omega), HO.out, HR⟩
        case measure => simp [intOf]; omega
    · obtain rfl : k = s.size := by omega
      have HR := Lib.hid (show getL q (s.size + 1) s.data.toList [] 0 = none by rw [HG.out, List.drop_of_length_le (by simp)]; rfl)
      clear hlt
      go_wp2
      go_ret3
      exact gt_none HR.out HB.out
end Go.Proofs.YtohfgfmekciekaaDoor.Nam
