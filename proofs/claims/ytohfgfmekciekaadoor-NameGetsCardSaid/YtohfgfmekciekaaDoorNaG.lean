
/-
  Layer 2: Put, the program's and the reference's, walked over the program (printed by gen_nag.py).
-/
import Derived.Test.YtohfgfmekciekaaDoorNaF
namespace Go.Proofs.YtohfgfmekciekaaDoor.Nam
open Go Go.RowKit Go.Proofs.YtohfgfmekciekaaDoor.Reg Go.Proofs.YtohfgfmekciekaaDoor.Byt
set_option linter.unusedVariables false
set_option linter.unusedSimpArgs false

theorem esc_len (c : UInt8) : (esc c).length ≤ 5 := by
  unfold esc hexL
  (repeat' split) <;> simp
theorem flat_len (l : List UInt8) : (l.flatMap esc).length ≤ 5 * l.length := by
  induction l with
  | nil => simp
  | cons c l ih => have := esc_len c; simp only [List.flatMap_cons, List.length_append, List.length_cons]; omega
structure PuRel (s : ByteArray) (w : World) (v i : Value) (wr : World) : Prop where
  bel : Below w.heap.size w wr
  at_ : ∃ k : Nat, k ≤ s.size ∧ i = .int .i64 k ∧ OwnB wr w.heap.size v (39 :: (s.data.toList.take k).flatMap esc)
theorem take_esc {s : ByteArray} {k : Nat} (h : k < s.size) : (39 :: (s.data.toList.take (k + 1)).flatMap esc : List UInt8) = (39 :: (s.data.toList.take k).flatMap esc) ++ esc s[k] := by
  rw [take_snoc s k h, List.flatMap_append]; simp
def Texts (l : List UInt8) (w : World) (e : Ending) (w' : World) : Prop := e = .returned (.string ⟨l.toArray⟩) ∧ Below w.heap.size w w'
theorem texts {s : ByteArray} {l : List UInt8} {w w' : World} (h : s = ⟨l.toArray⟩) (hb : Below w.heap.size w w') : Texts l w (.returned (.string s)) w' := by subst h; exact ⟨rfl, hb⟩
theorem put_plain {l : List UInt8} (h : plainB l = true) : putL l = l := if_pos h
theorem put_quote {l : List UInt8} (h : plainB l = false) : putL l = 39 :: quoteL l := if_neg (by rw [h]; decide)
theorem esc_self {c : UInt8} (h : c = 39 ∨ c = 92) : esc c = [92, c] := if_pos h
theorem esc_lf : esc 10 = [92, 110] := by decide
theorem esc_tab : esc 9 = [92, 116] := by decide
theorem ne_nat {c : UInt8} {n : Nat} (h : c.toNat ≠ n) (hn : n < 256) : c ≠ UInt8.ofNat n := fun e => h (by rw [e]; simp; omega)
theorem eq_nat {c : UInt8} {n : Nat} (h : c.toNat = n) : c = UInt8.ofNat n := by rw [← h]; simp
theorem esc_hex {c : UInt8} (h : (c.toNat < 32 ∧ c.toNat ≠ 9 ∧ c.toNat ≠ 10) ∨ c.toNat = 127) : esc c = [92, 120] ++ hexL c.toNat ++ [92] := by
  unfold esc
  rw [if_neg (by rintro (e | e) <;> rw [e] at h <;> revert h <;> decide), if_neg (by rintro e; rw [e] at h; revert h; decide), if_neg (by rintro e; rw [e] at h; revert h; decide), if_pos ?_]
  rcases h with h | h
  · exact .inl h.1
  · exact .inr (eq_nat h)
theorem esc_plain {c : UInt8} (h1 : c.toNat ≠ 39) (h2 : c.toNat ≠ 92) (h3 : 32 ≤ c.toNat) (h4 : c.toNat ≠ 127) : esc c = [c] := by
  unfold esc
  rw [if_neg (by rintro (e | e) <;> rw [e] at h1 h2 <;> revert h1 h2 <;> decide), if_neg (by rintro e; rw [e] at h3; revert h3; decide), if_neg (by rintro e; rw [e] at h3; revert h3; decide), if_neg (by
    rintro (e | e)
    · omega
    · rw [e] at h4; exact h4 rfl)]
theorem sized {n : Nat} {k : Nat} {l : List UInt8} (h : l.length = k) (hk : k ≤ n) : l.length ≤ n := by omega
set_option maxRecDepth 100000 in
set_option maxHeartbeats 2000000 in
theorem go_Put (s : ByteArray) (hs : s.size ≤ 100000) (w : World) (ht : Tab w) : Calls Tryd.prog 14 #[.string s] w (Texts (putL s.data.toList) w) := by
  have HT := Lib.hid ht
  clear ht
  have HS := Lib.hid (show s.size ≤ maxLen by unfold maxLen; omega)
  cases hp : plainB s.data.toList with
  | true =>
    have HP := Lib.hid hp
    have HR := Lib.hid (put_plain hp)
    clear hp
    go_enter Tryd.func14, Tryd.ntmps14
    go_wp2_with (go_at_call 12; refine (go_Plain s HS.out _).mono ?_; rintro e1 w1 ⟨rfl, hb1⟩; rw [HP.out]; have HB := Lib.hid hb1; clear hb1)
    go_ret
    exact texts (by rw [HR.out]) HB.out
  | false =>
    have HP := Lib.hid hp
    have HR := Lib.hid (put_quote hp)
    clear hp
    go_enter Tryd.func14, Tryd.ntmps14
    go_wp2_with (first
      | (go_at_call 12; refine (go_Plain s HS.out _).mono ?_; rintro e1 w1 ⟨rfl, hb1⟩; rw [HP.out]; have HB := Lib.hid hb1; clear hb1)
      | (with_reducible show wpList _ _ _ (⟨some 12, _, _, _, _, _⟩ :: _) _ _
         refine wpList_makeB rfl _ _ rfl w.heap.size (s.size + 2) rfl rfl (by omega) HB.out.size ?_
         intro v2 w2 ho2 hb2
         have HO := Lib.hid ho2
         have HB2 := Lib.hid (HB.out.trans hb2)
         clear HB ho2 hb2
         have HB := Lib.hid HB2.out
         clear HB2)
      | (with_reducible show wpList _ _ _ (⟨some 15, _, _, _, _, _⟩ :: _) _ _
         refine wpList_appL rfl (.tmp 13) (.tmp 14) rfl w.heap.size _ _ [39] _ _ _ _ rfl (HO.out.below (box_b _ _)) rfl (heap_alloc_new _ _) (by first | (simp; done) | (simp; omega)) (by have := HB.out.size; first | (simp; done) | (simp; omega)) ?_
         intro v2 w2 ho2 hb2
         have HO2 := Lib.hid ho2
         have HB2 := Lib.hid ((HB.out.trans ((box_b _ _).mono HB.out.size)).trans hb2)
         clear HO HB ho2 hb2
         have HO := Lib.hid HO2.out
         have HB := Lib.hid HB2.out
         clear HO2 HB2))
    go_loopw [3, 4] (fun v i wr => PuRel s w v i wr) (fun _ i _ => s.size - (intOf i).toNat)
    case atStart => exact ⟨HB.out, 0, Nat.zero_le _, rfl, HO.out⟩
    case round =>
      obtain ⟨hbel, k, hk, rfl, hown⟩ := hrel
      clear HO HB
      have HB := Lib.hid hbel
      have HO := Lib.hid hown
      have hfl : ((s.data.toList.take k).flatMap esc).length ≤ 500000 := by
        have h1 := flat_len (s.data.toList.take k)
        have h2 : (s.data.toList.take k).length ≤ k := List.length_take_le _ _
        omega
      clear hbel hown
      generalize hL : (39 :: (s.data.toList.take k).flatMap esc : List UInt8) = L at *
      have hLL : L.length ≤ 500001 := by rw [← hL]; simp only [List.length_cons]; omega
      have HL := Lib.hid hL
      clear hL hfl
      by_cases hlt : k < s.size
      · have HTK := Lib.hid (take_esc hlt)
        have hn := s[k].toNat_lt
        rcases (by omega : (s[k].toNat = 39) ∨ (s[k].toNat = 92) ∨ (s[k].toNat = 10) ∨ (s[k].toNat = 9) ∨ (s[k].toNat < 32 ∧ s[k].toNat ≠ 9 ∧ s[k].toNat ≠ 10) ∨ (s[k].toNat = 127) ∨ (s[k].toNat ≠ 39 ∧ s[k].toNat ≠ 92 ∧ 32 ≤ s[k].toNat ∧ s[k].toNat ≠ 127)) with hway | hway | hway | hway | hway | hway | hway
        · have p39 : ((s[k].toNat : Int) == 39) = true := by simp; omega
          have HE := Lib.hid (esc_self (.inl (eq_nat hway)))
          clear hway
          go_wp2_with (first
            | (with_reducible show wpList _ _ _ (⟨some 39, _, _, _, _, _⟩ :: _) _ _
               refine wpList_appL rfl (.tmp 36) (.tmp 38) rfl w.heap.size _ _ [92, s[k]] _ _ _ _ rfl (HO.out.below (box_b _ _)) rfl (heap_alloc_new _ _) (by first | (simp; done) | (simp; omega)) (by have := HB.out.size; first | (simp; done) | (simp; omega)) ?_
               intro v2 w2 ho2 hb2
               have HO2 := Lib.hid ho2
               have HB2 := Lib.hid ((HB.out.trans ((box_b _ _).mono HB.out.size)).trans hb2)
               clear HO HB ho2 hb2
               have HO := Lib.hid HO2.out
               have HB := Lib.hid HB2.out
               clear HO2 HB2))
          go_roundw
          case rel => exact ⟨HB.out, k + 1, by omega, by go_num, by rw [HTK.out, HE.out, HL.out]; first | exact HO.out | (rw [← List.append_assoc, ← List.append_assoc]; exact HO.out) | (simp only [List.append_assoc] at *; exact HO.out)⟩
          case measure => simp [intOf]; omega
        · have p39 : ((s[k].toNat : Int) == 39) = false := by simp; omega
          have p92 : ((s[k].toNat : Int) == 92) = true := by simp; omega
          have HE := Lib.hid (esc_self (.inr (eq_nat hway)))
          clear hway
          go_wp2_with (first
            | (with_reducible show wpList _ _ _ (⟨some 39, _, _, _, _, _⟩ :: _) _ _
               refine wpList_appL rfl (.tmp 36) (.tmp 38) rfl w.heap.size _ _ [92, s[k]] _ _ _ _ rfl (HO.out.below (box_b _ _)) rfl (heap_alloc_new _ _) (by first | (simp; done) | (simp; omega)) (by have := HB.out.size; first | (simp; done) | (simp; omega)) ?_
               intro v2 w2 ho2 hb2
               have HO2 := Lib.hid ho2
               have HB2 := Lib.hid ((HB.out.trans ((box_b _ _).mono HB.out.size)).trans hb2)
               clear HO HB ho2 hb2
               have HO := Lib.hid HO2.out
               have HB := Lib.hid HB2.out
               clear HO2 HB2))
          go_roundw
          case rel => exact ⟨HB.out, k + 1, by omega, by go_num, by rw [HTK.out, HE.out, HL.out]; first | exact HO.out | (rw [← List.append_assoc, ← List.append_assoc]; exact HO.out) | (simp only [List.append_assoc] at *; exact HO.out)⟩
          case measure => simp [intOf]; omega
        · have p39 : ((s[k].toNat : Int) == 39) = false := by simp; omega
          have p92 : ((s[k].toNat : Int) == 92) = false := by simp; omega
          have p10 : ((s[k].toNat : Int) == 10) = true := by simp; omega
          have HE := Lib.hid ((congrArg esc (eq_nat hway)).trans esc_lf)
          clear hway
          go_wp2_with (first
            | (with_reducible show wpList _ _ _ (⟨some 45, _, _, _, _, _⟩ :: _) _ _
               refine wpList_appL rfl (.tmp 43) (.tmp 44) rfl w.heap.size _ _ [92, 110] _ _ _ _ rfl (HO.out.below (box_b _ _)) rfl (heap_alloc_new _ _) (by first | (simp; done) | (simp; omega)) (by have := HB.out.size; first | (simp; done) | (simp; omega)) ?_
               intro v2 w2 ho2 hb2
               have HO2 := Lib.hid ho2
               have HB2 := Lib.hid ((HB.out.trans ((box_b _ _).mono HB.out.size)).trans hb2)
               clear HO HB ho2 hb2
               have HO := Lib.hid HO2.out
               have HB := Lib.hid HB2.out
               clear HO2 HB2))
          go_roundw
          case rel => exact ⟨HB.out, k + 1, by omega, by go_num, by rw [HTK.out, HE.out, HL.out]; first | exact HO.out | (rw [← List.append_assoc, ← List.append_assoc]; exact HO.out) | (simp only [List.append_assoc] at *; exact HO.out)⟩
          case measure => simp [intOf]; omega
        · have p39 : ((s[k].toNat : Int) == 39) = false := by simp; omega
          have p92 : ((s[k].toNat : Int) == 92) = false := by simp; omega
          have p10 : ((s[k].toNat : Int) == 10) = false := by simp; omega
          have p9 : ((s[k].toNat : Int) == 9) = true := by simp; omega
          have HE := Lib.hid ((congrArg esc (eq_nat hway)).trans esc_tab)
          clear hway
          go_wp2_with (first
            | (with_reducible show wpList _ _ _ (⟨some 51, _, _, _, _, _⟩ :: _) _ _
               refine wpList_appL rfl (.tmp 49) (.tmp 50) rfl w.heap.size _ _ [92, 116] _ _ _ _ rfl (HO.out.below (box_b _ _)) rfl (heap_alloc_new _ _) (by first | (simp; done) | (simp; omega)) (by have := HB.out.size; first | (simp; done) | (simp; omega)) ?_
               intro v2 w2 ho2 hb2
               have HO2 := Lib.hid ho2
               have HB2 := Lib.hid ((HB.out.trans ((box_b _ _).mono HB.out.size)).trans hb2)
               clear HO HB ho2 hb2
               have HO := Lib.hid HO2.out
               have HB := Lib.hid HB2.out
               clear HO2 HB2))
          go_roundw
          case rel => exact ⟨HB.out, k + 1, by omega, by go_num, by rw [HTK.out, HE.out, HL.out]; first | exact HO.out | (rw [← List.append_assoc, ← List.append_assoc]; exact HO.out) | (simp only [List.append_assoc] at *; exact HO.out)⟩
          case measure => simp [intOf]; omega
        · have p39 : ((s[k].toNat : Int) == 39) = false := by simp; omega
          have p92 : ((s[k].toNat : Int) == 92) = false := by simp; omega
          have p10 : ((s[k].toNat : Int) == 10) = false := by simp; omega
          have p9 : ((s[k].toNat : Int) == 9) = false := by simp; omega
          have hx2 : (hexL s[k].toNat).length ≤ 2 := by unfold hexL; split <;> simp
          have l32 : (s[k].toNat : Int) < 32 := by omega
          have HNN := Lib.hid (show (s[k].toNat < 32 ∧ s[k].toNat ≠ 9 ∧ s[k].toNat ≠ 10) ∨ s[k].toNat = 127 from .inl hway)
          have HE := Lib.hid (esc_hex (.inl hway))
          clear hway
          go_wp2_with (first
            | (with_reducible show wpList _ _ _ (⟨some 61, _, _, _, _, _⟩ :: _) _ _
               refine wpList_appL rfl (.tmp 59) (.tmp 60) rfl w.heap.size _ _ [92, 120] _ _ _ _ rfl (HO.out.below (box_b _ _)) rfl (heap_alloc_new _ _) (by first | (simp; done) | (simp; omega)) (by have := HB.out.size; first | (simp; done) | (simp; omega)) ?_
               intro v2 w2 ho2 hb2
               have HO2 := Lib.hid ho2
               have HB2 := Lib.hid ((HB.out.trans ((box_b _ _).mono HB.out.size)).trans hb2)
               clear HO HB ho2 hb2
               have HO := Lib.hid HO2.out
               have HB := Lib.hid HB2.out
               clear HO2 HB2)
            | (go_at_call 23
               refine (app_hex s[k].toNat HNN.out w.heap.size _ _ _ (HT.out.on HB.out) HO.out HB.out.size (by simp; omega)).mono ?_
               rintro e1 w1 ⟨v1, rfl, ho2, hb2⟩
               have HO2 := Lib.hid ho2
               have HB2 := Lib.hid (HB.out.trans hb2)
               clear HO HB ho2 hb2
               have HO := Lib.hid HO2.out
               have HB := Lib.hid HB2.out
               clear HO2 HB2)
            | (with_reducible show wpList _ _ _ (⟨some 68, _, _, _, _, _⟩ :: _) _ _
               refine wpList_appL rfl (.tmp 66) (.tmp 67) rfl w.heap.size _ _ [92] _ _ _ _ rfl (HO.out.below (box_b _ _)) rfl (heap_alloc_new _ _) (by first | (simp; done) | (simp; omega)) (by have := HB.out.size; first | (simp; done) | (simp; omega)) ?_
               intro v2 w2 ho2 hb2
               have HO2 := Lib.hid ho2
               have HB2 := Lib.hid ((HB.out.trans ((box_b _ _).mono HB.out.size)).trans hb2)
               clear HO HB ho2 hb2
               have HO := Lib.hid HO2.out
               have HB := Lib.hid HB2.out
               clear HO2 HB2))
          go_roundw
          case rel => exact ⟨HB.out, k + 1, by omega, by go_num, by rw [HTK.out, HE.out, HL.out]; first | exact HO.out | (rw [← List.append_assoc, ← List.append_assoc]; exact HO.out) | (simp only [List.append_assoc] at *; exact HO.out)⟩
          case measure => simp [intOf]; omega
        · have p39 : ((s[k].toNat : Int) == 39) = false := by simp; omega
          have p92 : ((s[k].toNat : Int) == 92) = false := by simp; omega
          have p10 : ((s[k].toNat : Int) == 10) = false := by simp; omega
          have p9 : ((s[k].toNat : Int) == 9) = false := by simp; omega
          have hx2 : (hexL s[k].toNat).length ≤ 2 := by unfold hexL; split <;> simp
          have l32 : 32 ≤ (s[k].toNat : Int) := by omega
          have p127 : ((s[k].toNat : Int) == 127) = true := by simp; omega
          have HNN := Lib.hid (show (s[k].toNat < 32 ∧ s[k].toNat ≠ 9 ∧ s[k].toNat ≠ 10) ∨ s[k].toNat = 127 from .inr hway)
          have HE := Lib.hid (esc_hex (.inr hway))
          clear hway
          go_wp2_with (first
            | (with_reducible show wpList _ _ _ (⟨some 61, _, _, _, _, _⟩ :: _) _ _
               refine wpList_appL rfl (.tmp 59) (.tmp 60) rfl w.heap.size _ _ [92, 120] _ _ _ _ rfl (HO.out.below (box_b _ _)) rfl (heap_alloc_new _ _) (by first | (simp; done) | (simp; omega)) (by have := HB.out.size; first | (simp; done) | (simp; omega)) ?_
               intro v2 w2 ho2 hb2
               have HO2 := Lib.hid ho2
               have HB2 := Lib.hid ((HB.out.trans ((box_b _ _).mono HB.out.size)).trans hb2)
               clear HO HB ho2 hb2
               have HO := Lib.hid HO2.out
               have HB := Lib.hid HB2.out
               clear HO2 HB2)
            | (go_at_call 23
               refine (app_hex s[k].toNat HNN.out w.heap.size _ _ _ (HT.out.on HB.out) HO.out HB.out.size (by simp; omega)).mono ?_
               rintro e1 w1 ⟨v1, rfl, ho2, hb2⟩
               have HO2 := Lib.hid ho2
               have HB2 := Lib.hid (HB.out.trans hb2)
               clear HO HB ho2 hb2
               have HO := Lib.hid HO2.out
               have HB := Lib.hid HB2.out
               clear HO2 HB2)
            | (with_reducible show wpList _ _ _ (⟨some 68, _, _, _, _, _⟩ :: _) _ _
               refine wpList_appL rfl (.tmp 66) (.tmp 67) rfl w.heap.size _ _ [92] _ _ _ _ rfl (HO.out.below (box_b _ _)) rfl (heap_alloc_new _ _) (by first | (simp; done) | (simp; omega)) (by have := HB.out.size; first | (simp; done) | (simp; omega)) ?_
               intro v2 w2 ho2 hb2
               have HO2 := Lib.hid ho2
               have HB2 := Lib.hid ((HB.out.trans ((box_b _ _).mono HB.out.size)).trans hb2)
               clear HO HB ho2 hb2
               have HO := Lib.hid HO2.out
               have HB := Lib.hid HB2.out
               clear HO2 HB2))
          go_roundw
          case rel => exact ⟨HB.out, k + 1, by omega, by go_num, by rw [HTK.out, HE.out, HL.out]; first | exact HO.out | (rw [← List.append_assoc, ← List.append_assoc]; exact HO.out) | (simp only [List.append_assoc] at *; exact HO.out)⟩
          case measure => simp [intOf]; omega
        · have p39 : ((s[k].toNat : Int) == 39) = false := by simp; omega
          have p92 : ((s[k].toNat : Int) == 92) = false := by simp; omega
          have p10 : ((s[k].toNat : Int) == 10) = false := by simp; omega
          have p9 : ((s[k].toNat : Int) == 9) = false := by simp; omega
          have l32 : 32 ≤ (s[k].toNat : Int) := by omega
          have p127 : ((s[k].toNat : Int) == 127) = false := by simp; omega
          have HE := Lib.hid (esc_plain hway.1 hway.2.1 hway.2.2.1 hway.2.2.2)
          clear hway
          go_wp2_with (first
            | (with_reducible show wpList _ _ _ (⟨some 28, _, _, _, _, _⟩ :: _) _ _
               refine wpList_appL rfl (.tmp 25) (.tmp 27) rfl w.heap.size _ _ [s[k]] _ _ _ _ rfl (HO.out.below (box_b _ _)) rfl (heap_alloc_new _ _) (by first | (simp; done) | (simp; omega)) (by have := HB.out.size; first | (simp; done) | (simp; omega)) ?_
               intro v2 w2 ho2 hb2
               have HO2 := Lib.hid ho2
               have HB2 := Lib.hid ((HB.out.trans ((box_b _ _).mono HB.out.size)).trans hb2)
               clear HO HB ho2 hb2
               have HO := Lib.hid HO2.out
               have HB := Lib.hid HB2.out
               clear HO2 HB2))
          go_roundw
          case rel => exact ⟨HB.out, k + 1, by omega, by go_num, by rw [HTK.out, HE.out, HL.out]; first | exact HO.out | (rw [← List.append_assoc, ← List.append_assoc]; exact HO.out) | (simp only [List.append_assoc] at *; exact HO.out)⟩
          case measure => simp [intOf]; omega
      · obtain rfl : k = s.size := by omega
        have HQ : Hid (39 :: quoteL s.data.toList = L ++ [39]) := Lib.hid (by rw [← HL.out, List.take_of_length_le (by simp)]; rfl)
        clear hlt
        go_wp2_with (first
          | (with_reducible show wpList _ _ _ (⟨some 71, _, _, _, _, _⟩ :: _) _ _
             refine wpList_appL rfl (.tmp 69) (.tmp 70) rfl w.heap.size _ _ [39] _ _ _ _ rfl (HO.out.below (box_b _ _)) rfl (heap_alloc_new _ _) (by first | (simp; done) | (simp; omega)) (by have := HB.out.size; first | (simp; done) | (simp; omega)) ?_
             intro v2 w2 ho2 hb2
             have HO2 := Lib.hid ho2
             have HB2 := Lib.hid ((HB.out.trans ((box_b _ _).mono HB.out.size)).trans hb2)
             clear HO HB ho2 hb2
             have HO := Lib.hid HO2.out
             have HB := Lib.hid HB2.out
             clear HO2 HB2)
          | (with_reducible show wpList _ _ _ (⟨some 72, _, _, _, _, _⟩ :: _) _ _
             refine wpList_strB rfl _ rfl w.heap.size _ _ rfl HO.out ?_))
        go_ret
        exact texts (by rw [HR.out, HQ.out]) HB.out
set_option maxRecDepth 100000 in
set_option maxHeartbeats 2000000 in
theorem ref_Put (s : ByteArray) (hs : s.size ≤ 100000) (w : World) : Calls Tryd.prog 15 #[.string s] w (Texts (putL s.data.toList) w) := by
  have HS := Lib.hid (show s.size ≤ maxLen by unfold maxLen; omega)
  cases hp : plainB s.data.toList with
  | true =>
    have HP := Lib.hid hp
    have HR := Lib.hid (put_plain hp)
    clear hp
    go_enter Tryd.func15, Tryd.ntmps15
    go_wp2_with (go_at_call 13; refine (ref_Plain s HS.out _).mono ?_; rintro e1 w1 ⟨rfl, rfl⟩; rw [HP.out])
    go_ret
    exact texts (by rw [HR.out]) (Below.refl _ _)
  | false =>
    have HP := Lib.hid hp
    have HR := Lib.hid (put_quote hp)
    clear hp
    have HB := Lib.hid (Below.refl w.heap.size w)
    have HO : Hid (OwnB w w.heap.size (.slice none 0 0) []) := Lib.hid (OwnB.nil _ _)
    go_enter Tryd.func15, Tryd.ntmps15
    go_wp2_with (first
      | (go_at_call 13; refine (ref_Plain s HS.out _).mono ?_; rintro e1 w1 ⟨rfl, rfl⟩; rw [HP.out])
      | (with_reducible show wpList _ _ _ (⟨some 11, _, _, _, _, _⟩ :: _) _ _
         refine wpList_appL rfl (.tmp 9) (.tmp 10) rfl w.heap.size _ _ [39] _ _ _ _ rfl (HO.out.below (box_b _ _)) rfl (heap_alloc_new _ _) (by first | (simp; done) | (simp; omega)) (by have := HB.out.size; first | (simp; done) | (simp; omega)) ?_
         intro v2 w2 ho2 hb2
         have HO2 := Lib.hid ho2
         have HB2 := Lib.hid ((HB.out.trans ((box_b _ _).mono HB.out.size)).trans hb2)
         clear HO HB ho2 hb2
         have HO := Lib.hid HO2.out
         have HB := Lib.hid HB2.out
         clear HO2 HB2))
    go_loopw [3, 4] (fun v i wr => PuRel s w v i wr) (fun _ i _ => s.size - (intOf i).toNat)
    case atStart => exact ⟨HB.out, 0, Nat.zero_le _, rfl, HO.out⟩
    case round =>
      obtain ⟨hbel, k, hk, rfl, hown⟩ := hrel
      clear HO HB
      have HB := Lib.hid hbel
      have HO := Lib.hid hown
      have hfl : ((s.data.toList.take k).flatMap esc).length ≤ 500000 := by
        have h1 := flat_len (s.data.toList.take k)
        have h2 : (s.data.toList.take k).length ≤ k := List.length_take_le _ _
        omega
      clear hbel hown
      generalize hL : (39 :: (s.data.toList.take k).flatMap esc : List UInt8) = L at *
      have hLL : L.length ≤ 500001 := by rw [← hL]; simp only [List.length_cons]; omega
      have HL := Lib.hid hL
      clear hL hfl
      by_cases hlt : k < s.size
      · have HTK := Lib.hid (take_esc hlt)
        have hn := s[k].toNat_lt
        rcases (by omega : (s[k].toNat = 39) ∨ (s[k].toNat = 92) ∨ (s[k].toNat = 10) ∨ (s[k].toNat = 9) ∨ (s[k].toNat < 32 ∧ s[k].toNat ≠ 9 ∧ s[k].toNat ≠ 10) ∨ (s[k].toNat = 127) ∨ (s[k].toNat ≠ 39 ∧ s[k].toNat ≠ 92 ∧ 32 ≤ s[k].toNat ∧ s[k].toNat ≠ 127)) with hway | hway | hway | hway | hway | hway | hway
        · have p39 : ((s[k].toNat : Int) == 39) = true := by simp; omega
          have HE := Lib.hid (esc_self (.inl (eq_nat hway)))
          clear hway
          go_wp2_with (first
            | (with_reducible show wpList _ _ _ (⟨some 35, _, _, _, _, _⟩ :: _) _ _
               refine wpList_appL rfl (.tmp 32) (.tmp 34) rfl w.heap.size _ _ [92, s[k]] _ _ _ _ rfl (HO.out.below (box_b _ _)) rfl (heap_alloc_new _ _) (by first | (simp; done) | (simp; omega)) (by have := HB.out.size; first | (simp; done) | (simp; omega)) ?_
               intro v2 w2 ho2 hb2
               have HO2 := Lib.hid ho2
               have HB2 := Lib.hid ((HB.out.trans ((box_b _ _).mono HB.out.size)).trans hb2)
               clear HO HB ho2 hb2
               have HO := Lib.hid HO2.out
               have HB := Lib.hid HB2.out
               clear HO2 HB2))
          go_roundw
          case rel => exact ⟨HB.out, k + 1, by omega, by go_num, by rw [HTK.out, HE.out, HL.out]; first | exact HO.out | (rw [← List.append_assoc, ← List.append_assoc]; exact HO.out) | (simp only [List.append_assoc] at *; exact HO.out)⟩
          case measure => simp [intOf]; omega
        · have p39 : ((s[k].toNat : Int) == 39) = false := by simp; omega
          have p92 : ((s[k].toNat : Int) == 92) = true := by simp; omega
          have HE := Lib.hid (esc_self (.inr (eq_nat hway)))
          clear hway
          go_wp2_with (first
            | (with_reducible show wpList _ _ _ (⟨some 35, _, _, _, _, _⟩ :: _) _ _
               refine wpList_appL rfl (.tmp 32) (.tmp 34) rfl w.heap.size _ _ [92, s[k]] _ _ _ _ rfl (HO.out.below (box_b _ _)) rfl (heap_alloc_new _ _) (by first | (simp; done) | (simp; omega)) (by have := HB.out.size; first | (simp; done) | (simp; omega)) ?_
               intro v2 w2 ho2 hb2
               have HO2 := Lib.hid ho2
               have HB2 := Lib.hid ((HB.out.trans ((box_b _ _).mono HB.out.size)).trans hb2)
               clear HO HB ho2 hb2
               have HO := Lib.hid HO2.out
               have HB := Lib.hid HB2.out
               clear HO2 HB2))
          go_roundw
          case rel => exact ⟨HB.out, k + 1, by omega, by go_num, by rw [HTK.out, HE.out, HL.out]; first | exact HO.out | (rw [← List.append_assoc, ← List.append_assoc]; exact HO.out) | (simp only [List.append_assoc] at *; exact HO.out)⟩
          case measure => simp [intOf]; omega
        · have p39 : ((s[k].toNat : Int) == 39) = false := by simp; omega
          have p92 : ((s[k].toNat : Int) == 92) = false := by simp; omega
          have p10 : ((s[k].toNat : Int) == 10) = true := by simp; omega
          have HE := Lib.hid ((congrArg esc (eq_nat hway)).trans esc_lf)
          clear hway
          go_wp2_with (first
            | (with_reducible show wpList _ _ _ (⟨some 41, _, _, _, _, _⟩ :: _) _ _
               refine wpList_appL rfl (.tmp 39) (.tmp 40) rfl w.heap.size _ _ [92, 110] _ _ _ _ rfl (HO.out.below (box_b _ _)) rfl (heap_alloc_new _ _) (by first | (simp; done) | (simp; omega)) (by have := HB.out.size; first | (simp; done) | (simp; omega)) ?_
               intro v2 w2 ho2 hb2
               have HO2 := Lib.hid ho2
               have HB2 := Lib.hid ((HB.out.trans ((box_b _ _).mono HB.out.size)).trans hb2)
               clear HO HB ho2 hb2
               have HO := Lib.hid HO2.out
               have HB := Lib.hid HB2.out
               clear HO2 HB2))
          go_roundw
          case rel => exact ⟨HB.out, k + 1, by omega, by go_num, by rw [HTK.out, HE.out, HL.out]; first | exact HO.out | (rw [← List.append_assoc, ← List.append_assoc]; exact HO.out) | (simp only [List.append_assoc] at *; exact HO.out)⟩
          case measure => simp [intOf]; omega
        · have p39 : ((s[k].toNat : Int) == 39) = false := by simp; omega
          have p92 : ((s[k].toNat : Int) == 92) = false := by simp; omega
          have p10 : ((s[k].toNat : Int) == 10) = false := by simp; omega
          have p9 : ((s[k].toNat : Int) == 9) = true := by simp; omega
          have HE := Lib.hid ((congrArg esc (eq_nat hway)).trans esc_tab)
          clear hway
          go_wp2_with (first
            | (with_reducible show wpList _ _ _ (⟨some 47, _, _, _, _, _⟩ :: _) _ _
               refine wpList_appL rfl (.tmp 45) (.tmp 46) rfl w.heap.size _ _ [92, 116] _ _ _ _ rfl (HO.out.below (box_b _ _)) rfl (heap_alloc_new _ _) (by first | (simp; done) | (simp; omega)) (by have := HB.out.size; first | (simp; done) | (simp; omega)) ?_
               intro v2 w2 ho2 hb2
               have HO2 := Lib.hid ho2
               have HB2 := Lib.hid ((HB.out.trans ((box_b _ _).mono HB.out.size)).trans hb2)
               clear HO HB ho2 hb2
               have HO := Lib.hid HO2.out
               have HB := Lib.hid HB2.out
               clear HO2 HB2))
          go_roundw
          case rel => exact ⟨HB.out, k + 1, by omega, by go_num, by rw [HTK.out, HE.out, HL.out]; first | exact HO.out | (rw [← List.append_assoc, ← List.append_assoc]; exact HO.out) | (simp only [List.append_assoc] at *; exact HO.out)⟩
          case measure => simp [intOf]; omega
        · have p39 : ((s[k].toNat : Int) == 39) = false := by simp; omega
          have p92 : ((s[k].toNat : Int) == 92) = false := by simp; omega
          have p10 : ((s[k].toNat : Int) == 10) = false := by simp; omega
          have p9 : ((s[k].toNat : Int) == 9) = false := by simp; omega
          have hx2 : (hexL s[k].toNat).length ≤ 2 := by unfold hexL; split <;> simp
          have l32 : (s[k].toNat : Int) < 32 := by omega
          have HNN := Lib.hid (show (s[k].toNat < 32 ∧ s[k].toNat ≠ 9 ∧ s[k].toNat ≠ 10) ∨ s[k].toNat = 127 from .inl hway)
          have HE := Lib.hid (esc_hex (.inl hway))
          clear hway
          go_wp2_with (first
            | (with_reducible show wpList _ _ _ (⟨some 57, _, _, _, _, _⟩ :: _) _ _
               refine wpList_appL rfl (.tmp 55) (.tmp 56) rfl w.heap.size _ _ [92, 120] _ _ _ _ rfl (HO.out.below (box_b _ _)) rfl (heap_alloc_new _ _) (by first | (simp; done) | (simp; omega)) (by have := HB.out.size; first | (simp; done) | (simp; omega)) ?_
               intro v2 w2 ho2 hb2
               have HO2 := Lib.hid ho2
               have HB2 := Lib.hid ((HB.out.trans ((box_b _ _).mono HB.out.size)).trans hb2)
               clear HO HB ho2 hb2
               have HO := Lib.hid HO2.out
               have HB := Lib.hid HB2.out
               clear HO2 HB2)
            | (go_at_call 24
               refine (ref_hex s[k].toNat hn _).mono ?_
               rintro e1 w1 ⟨rfl, rfl⟩)
            | (with_reducible show wpList _ _ _ (⟨some 62, _, _, _, _, _⟩ :: _) _ _
               refine wpList_appS rfl (.tmp 58) (.tmp 61) rfl w.heap.size _ _ (hexL s[k].toNat) rfl HO.out rfl (by simp; omega) HB.out.size ?_
               intro v2 w2 ho2 hb2
               have HO2 := Lib.hid ho2
               have HB2 := Lib.hid (HB.out.trans hb2)
               clear HO HB ho2 hb2
               have HO := Lib.hid HO2.out
               have HB := Lib.hid HB2.out
               clear HO2 HB2)
            | (with_reducible show wpList _ _ _ (⟨some 65, _, _, _, _, _⟩ :: _) _ _
               refine wpList_appL rfl (.tmp 63) (.tmp 64) rfl w.heap.size _ _ [92] _ _ _ _ rfl (HO.out.below (box_b _ _)) rfl (heap_alloc_new _ _) (by first | (simp; done) | (simp; omega)) (by have := HB.out.size; first | (simp; done) | (simp; omega)) ?_
               intro v2 w2 ho2 hb2
               have HO2 := Lib.hid ho2
               have HB2 := Lib.hid ((HB.out.trans ((box_b _ _).mono HB.out.size)).trans hb2)
               clear HO HB ho2 hb2
               have HO := Lib.hid HO2.out
               have HB := Lib.hid HB2.out
               clear HO2 HB2))
          go_roundw
          case rel => exact ⟨HB.out, k + 1, by omega, by go_num, by rw [HTK.out, HE.out, HL.out]; first | exact HO.out | (rw [← List.append_assoc, ← List.append_assoc]; exact HO.out) | (simp only [List.append_assoc] at *; exact HO.out)⟩
          case measure => simp [intOf]; omega
        · have p39 : ((s[k].toNat : Int) == 39) = false := by simp; omega
          have p92 : ((s[k].toNat : Int) == 92) = false := by simp; omega
          have p10 : ((s[k].toNat : Int) == 10) = false := by simp; omega
          have p9 : ((s[k].toNat : Int) == 9) = false := by simp; omega
          have hx2 : (hexL s[k].toNat).length ≤ 2 := by unfold hexL; split <;> simp
          have l32 : 32 ≤ (s[k].toNat : Int) := by omega
          have p127 : ((s[k].toNat : Int) == 127) = true := by simp; omega
          have HNN := Lib.hid (show (s[k].toNat < 32 ∧ s[k].toNat ≠ 9 ∧ s[k].toNat ≠ 10) ∨ s[k].toNat = 127 from .inr hway)
          have HE := Lib.hid (esc_hex (.inr hway))
          clear hway
          go_wp2_with (first
            | (with_reducible show wpList _ _ _ (⟨some 57, _, _, _, _, _⟩ :: _) _ _
               refine wpList_appL rfl (.tmp 55) (.tmp 56) rfl w.heap.size _ _ [92, 120] _ _ _ _ rfl (HO.out.below (box_b _ _)) rfl (heap_alloc_new _ _) (by first | (simp; done) | (simp; omega)) (by have := HB.out.size; first | (simp; done) | (simp; omega)) ?_
               intro v2 w2 ho2 hb2
               have HO2 := Lib.hid ho2
               have HB2 := Lib.hid ((HB.out.trans ((box_b _ _).mono HB.out.size)).trans hb2)
               clear HO HB ho2 hb2
               have HO := Lib.hid HO2.out
               have HB := Lib.hid HB2.out
               clear HO2 HB2)
            | (go_at_call 24
               refine (ref_hex s[k].toNat hn _).mono ?_
               rintro e1 w1 ⟨rfl, rfl⟩)
            | (with_reducible show wpList _ _ _ (⟨some 62, _, _, _, _, _⟩ :: _) _ _
               refine wpList_appS rfl (.tmp 58) (.tmp 61) rfl w.heap.size _ _ (hexL s[k].toNat) rfl HO.out rfl (by simp; omega) HB.out.size ?_
               intro v2 w2 ho2 hb2
               have HO2 := Lib.hid ho2
               have HB2 := Lib.hid (HB.out.trans hb2)
               clear HO HB ho2 hb2
               have HO := Lib.hid HO2.out
               have HB := Lib.hid HB2.out
               clear HO2 HB2)
            | (with_reducible show wpList _ _ _ (⟨some 65, _, _, _, _, _⟩ :: _) _ _
               refine wpList_appL rfl (.tmp 63) (.tmp 64) rfl w.heap.size _ _ [92] _ _ _ _ rfl (HO.out.below (box_b _ _)) rfl (heap_alloc_new _ _) (by first | (simp; done) | (simp; omega)) (by have := HB.out.size; first | (simp; done) | (simp; omega)) ?_
               intro v2 w2 ho2 hb2
               have HO2 := Lib.hid ho2
               have HB2 := Lib.hid ((HB.out.trans ((box_b _ _).mono HB.out.size)).trans hb2)
               clear HO HB ho2 hb2
               have HO := Lib.hid HO2.out
               have HB := Lib.hid HB2.out
               clear HO2 HB2))
          go_roundw
          case rel => exact ⟨HB.out, k + 1, by omega, by go_num, by rw [HTK.out, HE.out, HL.out]; first | exact HO.out | (rw [← List.append_assoc, ← List.append_assoc]; exact HO.out) | (simp only [List.append_assoc] at *; exact HO.out)⟩
          case measure => simp [intOf]; omega
        · have p39 : ((s[k].toNat : Int) == 39) = false := by simp; omega
          have p92 : ((s[k].toNat : Int) == 92) = false := by simp; omega
          have p10 : ((s[k].toNat : Int) == 10) = false := by simp; omega
          have p9 : ((s[k].toNat : Int) == 9) = false := by simp; omega
          have l32 : 32 ≤ (s[k].toNat : Int) := by omega
          have p127 : ((s[k].toNat : Int) == 127) = false := by simp; omega
          have HE := Lib.hid (esc_plain hway.1 hway.2.1 hway.2.2.1 hway.2.2.2)
          clear hway
          go_wp2_with (first
            | (with_reducible show wpList _ _ _ (⟨some 24, _, _, _, _, _⟩ :: _) _ _
               refine wpList_appL rfl (.tmp 21) (.tmp 23) rfl w.heap.size _ _ [s[k]] _ _ _ _ rfl (HO.out.below (box_b _ _)) rfl (heap_alloc_new _ _) (by first | (simp; done) | (simp; omega)) (by have := HB.out.size; first | (simp; done) | (simp; omega)) ?_
               intro v2 w2 ho2 hb2
               have HO2 := Lib.hid ho2
               have HB2 := Lib.hid ((HB.out.trans ((box_b _ _).mono HB.out.size)).trans hb2)
               clear HO HB ho2 hb2
               have HO := Lib.hid HO2.out
               have HB := Lib.hid HB2.out
               clear HO2 HB2))
          go_roundw
          case rel => exact ⟨HB.out, k + 1, by omega, by go_num, by rw [HTK.out, HE.out, HL.out]; first | exact HO.out | (rw [← List.append_assoc, ← List.append_assoc]; exact HO.out) | (simp only [List.append_assoc] at *; exact HO.out)⟩
          case measure => simp [intOf]; omega
      · obtain rfl : k = s.size := by omega
        have HQ : Hid (39 :: quoteL s.data.toList = L ++ [39]) := Lib.hid (by rw [← HL.out, List.take_of_length_le (by simp)]; rfl)
        clear hlt
        go_wp2_with (first
          | (with_reducible show wpList _ _ _ (⟨some 68, _, _, _, _, _⟩ :: _) _ _
             refine wpList_appL rfl (.tmp 66) (.tmp 67) rfl w.heap.size _ _ [39] _ _ _ _ rfl (HO.out.below (box_b _ _)) rfl (heap_alloc_new _ _) (by first | (simp; done) | (simp; omega)) (by have := HB.out.size; first | (simp; done) | (simp; omega)) ?_
             intro v2 w2 ho2 hb2
             have HO2 := Lib.hid ho2
             have HB2 := Lib.hid ((HB.out.trans ((box_b _ _).mono HB.out.size)).trans hb2)
             clear HO HB ho2 hb2
             have HO := Lib.hid HO2.out
             have HB := Lib.hid HB2.out
             clear HO2 HB2)
          | (with_reducible show wpList _ _ _ (⟨some 69, _, _, _, _, _⟩ :: _) _ _
             refine wpList_strB rfl _ rfl w.heap.size _ _ rfl HO.out ?_))
        go_ret
        exact texts (by rw [HR.out, HQ.out]) HB.out
end Go.Proofs.YtohfgfmekciekaaDoor.Nam
