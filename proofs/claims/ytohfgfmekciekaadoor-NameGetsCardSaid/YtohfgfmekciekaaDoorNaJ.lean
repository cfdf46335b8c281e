
/-
  Layer 2: Get, walked over the program (printed by gen_naj.py).
-/
import Derived.Test.YtohfgfmekciekaaDoorNaI
namespace Go.Proofs.YtohfgfmekciekaaDoor.Nam
open Go Go.RowKit Go.Proofs.YtohfgfmekciekaaDoor.Reg Go.Proofs.YtohfgfmekciekaaDoor.Byt Go.Proofs.YtohfgfmekciekaaDoor.Maps
set_option linter.unusedVariables false
set_option linter.unusedSimpArgs false

theorem getL_fuel {q : UInt8} : ∀ (f f' : Nat) (l out : List UInt8) (n : Nat), l.length < f → l.length < f' → getL q f l out n = getL q f' l out n
  | 0, _, _, _, _, h, _ => by omega
  | _ + 1, 0, _, _, _, _, h => by omega
  | f + 1, f' + 1, [], out, n, _, _ => by simp [getL]
  | f + 1, f' + 1, c :: l, out, n, h, h' => by
    simp only [List.length_cons] at h h'
    simp only [getL]
    split
    · cases l with
      | nil => rfl
      | cons d l =>
        simp only [List.length_cons] at h h'
        simp only
        split
        · exact getL_fuel f f' l _ _ (by omega) (by omega)
        · rfl
    · split
      · rfl
      · split
        · exact getL_fuel f f' l _ _ (by omega) (by omega)
        · cases l with
          | nil => rfl
          | cons d l =>
            simp only [List.length_cons] at h h'
            simp only
            split
            · exact getL_fuel f f' l _ _ (by omega) (by omega)
            · cases escL (d :: l) with
              | none => rfl
              | some p =>
                obtain ⟨b, k⟩ := p
                simp only
                exact getL_fuel f f' _ _ _ (by simp only [List.length_drop, List.length_cons]; omega) (by simp only [List.length_drop, List.length_cons]; omega)
section
variable {q c d : UInt8} {l out : List UInt8} {n F : Nat}
theorem get_end (h : c = q) (hl : l = [] ∨ ∃ d l', l = d :: l' ∧ d ≠ q) (hF : 0 < F) : getL q F (c :: l) out n = some (out, n + 1) := by
  obtain ⟨f, rfl⟩ : ∃ f, F = f + 1 := ⟨F - 1, by omega⟩
  rcases hl with rfl | ⟨d, l', rfl, hd⟩
  · simp only [getL]; rw [if_pos h]
  · simp only [getL]; rw [if_pos h, if_neg hd]
theorem get_two (h : c = q) (hd : d = q) (hF : (c :: d :: l).length < F) : getL q F (c :: d :: l) out n = getL q F l (out ++ [c]) (n + 2) := by
  obtain ⟨f, rfl⟩ : ∃ f, F = f + 1 := ⟨F - 1, by omega⟩
  simp only [List.length_cons] at hF
  conv => lhs; simp only [getL]
  rw [if_pos h, if_pos hd]
  exact getL_fuel _ _ _ _ _ (by omega) (by omega)
theorem get_lf (h : c ≠ q) (h10 : c = 10) : getL q F (c :: l) out n = none := by
  cases F with
  | zero => rfl
  | succ f => simp only [getL]; rw [if_neg h, if_pos h10]
theorem get_one (h : c ≠ q) (h10 : c ≠ 10) (h92 : c ≠ 92) (hF : (c :: l).length < F) : getL q F (c :: l) out n = getL q F l (out ++ [c]) (n + 1) := by
  obtain ⟨f, rfl⟩ : ∃ f, F = f + 1 := ⟨F - 1, by omega⟩
  simp only [List.length_cons] at hF
  conv => lhs; simp only [getL]
  rw [if_neg h, if_neg h10, if_pos h92]
  exact getL_fuel _ _ _ _ _ (by omega) (by omega)
theorem get_cut (h : c ≠ q) (h92 : c = 92) : getL q F [c] out n = none := by
  cases F with
  | zero => rfl
  | succ f => simp only [getL]; rw [if_neg h, if_neg (by rw [h92]; decide), if_neg (by simpa using h92)]
theorem get_fold (h : c ≠ q) (h92 : c = 92) (hd : d = 10) (hF : (c :: d :: l).length < F) : getL q F (c :: d :: l) out n = getL q F l out (n + 2) := by
  obtain ⟨f, rfl⟩ : ∃ f, F = f + 1 := ⟨F - 1, by omega⟩
  simp only [List.length_cons] at hF
  conv => lhs; simp only [getL]
  rw [if_neg h, if_neg (by rw [h92]; decide), if_neg (by simpa using h92), if_pos hd]
  exact getL_fuel _ _ _ _ _ (by omega) (by omega)
theorem get_bad (h : c ≠ q) (h92 : c = 92) (hd : d ≠ 10) (he : escL (d :: l) = none) : getL q F (c :: d :: l) out n = none := by
  cases F with
  | zero => rfl
  | succ f => simp only [getL]; rw [if_neg h, if_neg (by rw [h92]; decide), if_neg (by simpa using h92), if_neg hd, he]
theorem get_esc {b k : Nat} (h : c ≠ q) (h92 : c = 92) (hd : d ≠ 10) (he : escL (d :: l) = some (b, k)) (hF : (c :: d :: l).length < F) : getL q F (c :: d :: l) out n = getL q F ((d :: l).drop k) (out ++ [UInt8.ofNat b]) (n + 1 + k) := by
  obtain ⟨f, rfl⟩ : ∃ f, F = f + 1 := ⟨F - 1, by omega⟩
  simp only [List.length_cons] at hF
  conv => lhs; simp only [getL]
  rw [if_neg h, if_neg (by rw [h92]; decide), if_neg (by simpa using h92), if_neg hd, he]
  exact getL_fuel _ _ _ _ _ (by simp only [List.length_drop, List.length_cons]; omega) (by simp only [List.length_drop, List.length_cons]; omega)
end
/-- an escape's byte is one, and it takes no more than there is -/
theorem escL_le {l : List UInt8} {b k : Nat} (h : escL l = some (b, k)) : b ≤ 255 ∧ k ≤ l.length ∧ 0 < k := by
  cases l with
  | nil => cases h
  | cons c l =>
    simp only [List.length_cons]
    cases hk : knownL c with
    | some n =>
      rw [escL_known hk] at h
      cases h
      refine ⟨?_, by omega, by omega⟩
      rcases known_ways c with h | rfl | rfl | rfl | rfl | rfl | rfl | rfl | rfl | rfl | rfl | rfl
      · rw [h] at hk; cases hk
      all_goals (cases hk; decide)
    | none =>
      by_cases hx : c = 120
      · rw [escL_x hk hx] at h
        cases hc : codeL 16 0 0 l with
        | none => rw [hc] at h; cases h
        | some p =>
          obtain ⟨m, j⟩ := p
          rw [hc] at h
          simp only [Option.map_some, Option.some.injEq, Prod.mk.injEq] at h
          have := codeL_le hc (by omega)
          omega
      · by_cases hz : c = 48 ∧ zeroB l = true
        · rw [escL_0 hk hx hz] at h; cases h; omega
        · cases ho : octB c with
          | true =>
            rw [escL_oct hk hx hz ho] at h
            have := codeL_le h (by omega)
            simp only [List.length_cons] at this
            omega
          | false => rw [escL_no hk hx hz ho] at h; cases h
def GtPost (r : Option (List UInt8 × Nat)) (w : World) (e : Ending) (w' : World) : Prop :=
  (∀ l n, r = some (l, n) → e = .returned (.tuple #[.string ⟨l.toArray⟩, .int .i64 n, .int .i64 0])) ∧ (r = none → e = .returned (.tuple #[.string ⟨#[]⟩, .int .i64 0, .int .i64 5])) ∧ Below w.heap.size w w'
theorem gt_some {r : Option (List UInt8 × Nat)} {l : List UInt8} {n : Nat} {a : Int} {w w' : World} (h : r = some (l, n)) (ha : a = n) (hb : Below w.heap.size w w') : GtPost r w (.returned (.tuple #[.string ⟨l.toArray⟩, .int .i64 a, .int .i64 0])) w' := by
  subst h ha
  exact ⟨fun l' n' e => (by cases e; rfl), fun e => (by cases e), hb⟩
theorem gt_none {r : Option (List UInt8 × Nat)} {w w' : World} (h : r = none) (hb : Below w.heap.size w w') : GtPost r w (.returned (.tuple #[.string ⟨#[]⟩, .int .i64 0, .int .i64 5])) w' := by
  subst h
  exact ⟨fun l' n' e => (by cases e), fun e => rfl, hb⟩
structure GtRel (q : UInt8) (s : ByteArray) (w1 : World) (v i : Value) (wr : World) : Prop where
  bel : Below w1.heap.size w1 wr
  at_ : ∃ (k : Nat) (out : List UInt8), k ≤ s.size ∧ out.length ≤ k ∧ i = .int .i64 k ∧ OwnB wr w1.heap.size v out ∧ Hid (getL q (s.size + 1) s.data.toList [] 0 = getL q (s.size + 1) (s.data.toList.drop k) out k)
theorem len_drop (s : ByteArray) (k : Nat) : (s.data.toList.drop k).length < s.size + 1 := by simp; omega
theorem ext_drop {s : ByteArray} {k : Nat} (h : k ≤ s.size) : (s.extract k s.size).data.toList = s.data.toList.drop k := by
  simp [ByteArray.data_extract]
  try exact List.take_of_length_le (by simp)
set_option maxRecDepth 100000 in
set_option maxHeartbeats 4000000 in
theorem go_Get (s : ByteArray) (q : UInt8) (hs : s.size ≤ 100000) (w : World) : Calls Tryd.prog 16 #[.string s, .int .u8 q.toNat] w (GtPost (getL q (s.size + 1) s.data.toList [] 0) w) := by
  have hqlt := q.toNat_lt
  go_enter Tryd.func16, Tryd.ntmps16
  go_wp2_with (go_at_call 25; refine (go_escapes _).mono ?_; rintro e1 w1 ⟨b, rfl, hm, hbel⟩; have HM := Lib.hid hm; have HW := Lib.hid hbel; clear hm hbel)
  have HBK := Lib.hid ((Array.getElem?_eq_some_iff.1 HM.out).1)
  have HST : Hid (GtRel q s w1 (.slice none 0 0) (.int .i64 0) w1) := Lib.hid ⟨Below.refl _ _, 0, [], Nat.zero_le _, Nat.le_refl _, rfl, OwnB.nil _ _, Lib.hid rfl⟩
  go_loopw [7, 9] (fun v i wr => GtRel q s w1 v i wr) (fun _ i _ => s.size - (intOf i).toNat)
  case atStart => exact HST.out
  case round =>
    obtain ⟨hbel, k, out, hk, hout, rfl, hown, HG⟩ := hrel
    clear HST
    have HB := Lib.hid hbel
    have HO := Lib.hid hown
    clear hbel hown
    by_cases hlt : k < s.size
    · have HD := Lib.hid (drop_at hlt)
      have HLD := Lib.hid (len_drop s k)
      have hn := s[k].toNat_lt
      by_cases hcq : s[k].toNat = q.toNat
      · have pq : ((s[k].toNat : Int) == (q.toNat : Int)) = true := by simp; omega
        have hq : s[k] = q := UInt8.toNat_inj.1 hcq
        by_cases hl1 : k + 1 < s.size
        · have HD1 := Lib.hid (drop_at hl1)
          have e1 : ((k : Int) + 1 == (s.size : Int)) = false := by simp; omega
          by_cases hdq : s[k + 1].toNat = q.toNat
          · have p2 : ((s[k + 1].toNat : Int) != (q.toNat : Int)) = false := by simp; omega
            have HR := Lib.hid (show getL q (s.size + 1) s.data.toList [] 0 = getL q (s.size + 1) (s.data.toList.drop (k + 2)) (out ++ [s[k]]) (k + 2) by rw [HG.out, HD.out, HD1.out, get_two hq (UInt8.toNat_inj.1 hdq) (by have := HLD.out; rw [HD.out, HD1.out] at this; exact this)])
            have hii : ((k : Int) + 1 + 1) = (k : Int) + 2 := by omega
            clear hcq hq hdq
            go_wp2_with (first
              | (with_reducible show wpList _ _ _ (⟨some 66, _, _, _, _, _⟩ :: _) _ _
                 refine wpList_appL rfl (.tmp 63) (.tmp 65) rfl w1.heap.size _ _ [s[k]] _ _ _ _ rfl (HO.out.below (box_b _ _)) rfl (heap_alloc_new _ _) (by first | (simp; done) | (simp; omega)) (by have := HB.out.size; first | (simp; done) | (simp; omega)) ?_
                 intro v2 w2 ho2 hb2
                 have HO2 := Lib.hid ho2
                 have HB2 := Lib.hid ((HB.out.trans ((box_b _ _).mono HB.out.size)).trans hb2)
                 clear HO HB ho2 hb2
                 have HO := Lib.hid HO2.out
                 have HB := Lib.hid HB2.out
                 clear HO2 HB2))
            go_roundw
            case rel => exact ⟨HB.out, k + 2, _, by omega, by simp; omega, by first | go_num | (congr 1; omega), HO.out, HR⟩
            case measure => simp [intOf]; omega
          · have p2 : ((s[k + 1].toNat : Int) != (q.toNat : Int)) = true := by simp; omega
            have HR := Lib.hid (show getL q (s.size + 1) s.data.toList [] 0 = some (out, k + 1) by rw [HG.out, HD.out, HD1.out]; exact get_end hq (.inr ⟨_, _, rfl, fun e => hdq (by rw [e])⟩) (by omega))
            clear hcq hq hdq
            go_wp2_with (first
              | (with_reducible show wpList _ _ _ (⟨some 59, _, _, _, _, _⟩ :: _) _ _
                 refine wpList_strB rfl _ rfl w1.heap.size _ _ rfl HO.out ?_))
            go_ret3
            exact gt_some HR.out (by omega) (HW.out.trans (HB.out.mono HW.out.size))
        · have e1 : ((k : Int) + 1 == (s.size : Int)) = true := by simp; omega
          have HR := Lib.hid (show getL q (s.size + 1) s.data.toList [] 0 = some (out, k + 1) by rw [HG.out, HD.out, List.drop_of_length_le (by simp; omega)]; exact get_end hq (.inl rfl) (by omega))
          clear hcq hq
          go_wp2_with (first
            | (with_reducible show wpList _ _ _ (⟨some 59, _, _, _, _, _⟩ :: _) _ _
               refine wpList_strB rfl _ rfl w1.heap.size _ _ rfl HO.out ?_))
          go_ret3
          exact gt_some HR.out (by omega) (HW.out.trans (HB.out.mono HW.out.size))
      have pq : ((s[k].toNat : Int) == (q.toNat : Int)) = false := by simp; omega
      have hq : s[k] ≠ q := fun e => hcq (by rw [e])
      by_cases h10 : s[k].toNat = 10
      · have p10 : ((s[k].toNat : Int) == 10) = true := by simp; omega
        have HR := Lib.hid (show getL q (s.size + 1) s.data.toList [] 0 = none by rw [HG.out, HD.out]; exact get_lf hq (eq_nat h10))
        clear hcq hq h10
        go_wp2
        go_ret3
        exact gt_none HR.out (HW.out.trans (HB.out.mono HW.out.size))
      have p10 : ((s[k].toNat : Int) == 10) = false := by simp; omega
      have h10q : s[k] ≠ 10 := fun e => h10 (by rw [e]; rfl)
      by_cases h92 : s[k].toNat = 92
      · have p92 : ((s[k].toNat : Int) != 92) = false := by simp; omega
        have h92q : s[k] = 92 := eq_nat h92
        by_cases hl1 : k + 1 < s.size
        · have HD1 := Lib.hid (drop_at hl1)
          have e1 : ((k : Int) + 1 == (s.size : Int)) = false := by simp; omega
          have hF2 : (s[k] :: s[k + 1] :: s.data.toList.drop (k + 1 + 1)).length < s.size + 1 := by have := HLD.out; rw [HD.out, HD1.out] at this; exact this
          by_cases hd10 : s[k + 1].toNat = 10
          · have p2 : ((s[k + 1].toNat : Int) == 10) = true := by simp; omega
            have HR := Lib.hid (show getL q (s.size + 1) s.data.toList [] 0 = getL q (s.size + 1) (s.data.toList.drop (k + 2)) out (k + 2) by rw [HG.out, HD.out, HD1.out, get_fold hq h92q (eq_nat hd10) hF2])
            clear hcq hq h10 h10q h92 h92q hd10 hF2
            go_wp2
            go_roundw
            case rel => exact ⟨HB.out, k + 2, _, by omega, by omega, by first | go_num | (congr 1; omega), HO.out, HR⟩
            case measure => simp [intOf]; omega
          · have p2 : ((s[k + 1].toNat : Int) == 10) = false := by simp; omega
            have hd10q : s[k + 1] ≠ 10 := fun e => hd10 (by rw [e]; rfl)
            have hx := ext_drop (s := s) (k := k + 1) (by omega)
            cases he : escL (s.extract (k + 1) s.size).data.toList with
            | none =>
              have HR := Lib.hid (show getL q (s.size + 1) s.data.toList [] 0 = none by rw [HG.out, HD.out, HD1.out]; exact get_bad hq h92q hd10q (by rw [← HD1.out, ← hx]; exact he))
              have HE := Lib.hid he
              clear hcq hq h10 h10q h92 h92q hd10 hd10q hF2 he hx
              go_wp2_with (first
                | (go_at_call 26
                   refine (go_escape _ (by simp [ByteArray.size_extract]; omega) (by simp [ByteArray.size_extract]; omega) b _ ((HB.out.block b HBK.out).trans HM.out)).mono ?_
                   rintro e1 w2 ⟨-, h2, rfl⟩
                   obtain ⟨n1, k1, rfl⟩ := h2 HE.out))
              go_ret3
              exact gt_none HR.out (HW.out.trans (HB.out.mono HW.out.size))
            | some p =>
              obtain ⟨m, j⟩ := p
              obtain ⟨hm1, hj1, hj0⟩ := escL_le he
              rw [hx] at hj1
              simp only [List.length_drop, Array.length_toList, ByteArray.size_data] at hj1
              have HR := Lib.hid (show getL q (s.size + 1) s.data.toList [] 0 = getL q (s.size + 1) (s.data.toList.drop (k + 1 + j)) (out ++ [UInt8.ofNat m]) (k + 1 + j) by rw [HG.out, HD.out, HD1.out, get_esc hq h92q hd10q (by rw [← HD1.out, ← hx]; exact he) hF2, ← HD1.out, List.drop_drop])
              have HE := Lib.hid he
              obtain ⟨c2, hc2⟩ : ∃ c2 : UInt8, c2.toNat = m := ⟨UInt8.ofNat m, by simp; omega⟩
              subst hc2
              rw [show UInt8.ofNat c2.toNat = c2 by simp] at HR
              have hm2 := c2.toNat_lt
              clear hcq hq h10 h10q h92 h92q hd10 hd10q hF2 he hx hm1
              go_wp2_with (first
                | (go_at_call 26
                   refine (go_escape _ (by simp [ByteArray.size_extract]; omega) (by simp [ByteArray.size_extract]; omega) b _ ((HB.out.block b HBK.out).trans HM.out)).mono ?_
                   rintro e1 w2 ⟨h1, -, rfl⟩
                   obtain rfl := h1 _ _ HE.out; clear h1)
                | (with_reducible show wpList _ _ _ (⟨some 42, _, _, _, _, _⟩ :: _) _ _
                   refine wpList_appL rfl (.tmp 38) (.tmp 41) rfl w1.heap.size _ _ [c2] _ _ _ _ rfl (HO.out.below (box_b _ _)) rfl (heap_alloc_new _ _) (by first | (simp; done) | (simp; omega)) (by have := HB.out.size; first | (simp; done) | (simp; omega)) ?_
                   intro v2 w2 ho2 hb2
                   have HO2 := Lib.hid ho2
                   have HB2 := Lib.hid ((HB.out.trans ((box_b _ _).mono HB.out.size)).trans hb2)
                   clear HO HB ho2 hb2
                   have HO := Lib.hid HO2.out
                   have HB := Lib.hid HB2.out
                   clear HO2 HB2))
              go_roundw
              case rel => exact ⟨HB.out, k + 1 + j, _, by omega, by simp; omega, by first | go_num | (congr 1; omega), HO.out, HR⟩
              case measure => simp [intOf]; omega
        · have e1 : ((k : Int) + 1 == (s.size : Int)) = true := by simp; omega
          have HR := Lib.hid (show getL q (s.size + 1) s.data.toList [] 0 = none by rw [HG.out, HD.out, List.drop_of_length_le (by simp; omega)]; exact get_cut hq h92q)
          clear hcq hq h10 h10q h92 h92q
          go_wp2
          go_ret3
          exact gt_none HR.out (HW.out.trans (HB.out.mono HW.out.size))
      · have p92 : ((s[k].toNat : Int) != 92) = true := by simp; omega
        have HR := Lib.hid (show getL q (s.size + 1) s.data.toList [] 0 = getL q (s.size + 1) (s.data.toList.drop (k + 1)) (out ++ [s[k]]) (k + 1) by rw [HG.out, HD.out, get_one hq h10q (fun e => h92 (by rw [e]; rfl)) (by have := HLD.out; rw [HD.out] at this; exact this)])
        clear hcq hq h10 h10q h92
        go_wp2_with (first
          | (with_reducible show wpList _ _ _ (⟨some 76, _, _, _, _, _⟩ :: _) _ _
             refine wpList_appL rfl (.tmp 73) (.tmp 75) rfl w1.heap.size _ _ [s[k]] _ _ _ _ rfl (HO.out.below (box_b _ _)) rfl (heap_alloc_new _ _) (by first | (simp; done) | (simp; omega)) (by have := HB.out.size; first | (simp; done) | (simp; omega)) ?_
             intro v2 w2 ho2 hb2
             have HO2 := Lib.hid ho2
             have HB2 := Lib.hid ((HB.out.trans ((box_b _ _).mono HB.out.size)).trans hb2)
             clear HO HB ho2 hb2
             have HO := Lib.hid HO2.out
             have HB := Lib.hid HB2.out
             clear HO2 HB2))
        go_roundw
        case rel => exact ⟨HB.out, k + 1, _, by omega, by simp; omega, by first | go_num | (congr 1; omega), HO.out, HR⟩
        case measure => simp [intOf]; omega
    · obtain rfl : k = s.size := by omega
      have HR := Lib.hid (show getL q (s.size + 1) s.data.toList [] 0 = none by rw [HG.out, List.drop_of_length_le (by simp)]; rfl)
      clear hlt
      go_wp2
      go_ret3
      exact gt_none HR.out (HW.out.trans (HB.out.mono HW.out.size))
end Go.Proofs.YtohfgfmekciekaaDoor.Nam
