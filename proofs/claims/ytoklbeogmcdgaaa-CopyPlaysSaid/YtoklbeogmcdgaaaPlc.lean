
/-
  The reference's Place, walked over the program.
-/
import Derived.Test.YtoklbeogmcdgaaaNup
namespace Go.Proofs.Ytoklbeogmcdgaaa.Tms
open Go Go.RowKit Go.Proofs.Ytoklbeogmcdgaaa.Reg
set_option linter.unusedVariables false

def placeI (L : List Int) (n : Int) : Int := match place L n with
  | some p => (p : Int)
  | none => -1
/-- not among the first k -/
def NoPl (L : List Int) (n : Int) (k : Nat) : Prop := ∀ i (h : i < L.length), i < k → L[i] ≠ n
theorem place_at : ∀ {L : List Int} {n : Int} {k : Nat} (h : k < L.length), NoPl L n k → L[k] = n → place L n = some k
  | x :: l, n, 0, h, _, e => by simp at e; simp [place, e]
  | x :: l, n, k + 1, h, hn, e => by
    have h0 : x ≠ n := hn 0 (by simp) (by omega)
    have := place_at (L := l) (n := n) (k := k) (by simpa using h) (fun i hi hk => by have := hn (i + 1) (by simpa using hi) (by omega); simpa using this) (by simpa using e)
    simp [place, Ne.symm h0, this]
theorem place_no : ∀ {L : List Int} {n : Int}, NoPl L n L.length → place L n = none
  | [], n, _ => by simp [place]
  | x :: l, n, hn => by
    have h0 : x ≠ n := hn 0 (by simp) (by simp)
    have := place_no (L := l) (n := n) fun i hi hk => by have := hn (i + 1) (by simpa using hi) (by simpa using hk); simpa using this
    simp [place, Ne.symm h0, this]
def PlRel (L : List Int) (n : Int) (w : World) (vi : Value) (wr : World) : Prop := ∃ k : Nat, k ≤ L.length ∧ vi = .int .i64 k ∧ NoPl L n k ∧ w = wr

set_option maxHeartbeats 1600000 in
theorem ref_place (L : List Int) (n : Int) (v : Value) (P : Nat → Prop) (w : World) (h : IntSl w P v L) : Calls Try.prog 103 #[v, .int .i64 n] w fun e w' => e = .returned (.int .i64 (placeI L n)) ∧ w = w' := by
  obtain ⟨a, cap, rfl, hc, hm, hat⟩ := h
  have HAT := Lib.hid hat
  have hlen : L.length ≤ maxLen := by omega
  unfold maxLen at hlen
  clear hat
  have hst : PlRel L n w (.int .i64 ((0 : Nat) : Int)) w := ⟨0, by omega, rfl, fun i _ h => absurd h (by omega), rfl⟩
  have HST := Lib.hid hst
  clear hst
  go_enter Try.func103, Try.ntmps103
  go_wp2
  go_loopw [9] (fun vi wr => PlRel L n w vi wr) (fun vi _ => L.length - (intOf vi).toNat)
  case atStart => exact HST.out
  case round =>
    obtain ⟨k, hk, rfl, hno, rfl⟩ := hrel
    have HNO := Lib.hid hno
    clear hno HST
    by_cases hkl : k < L.length
    · obtain ⟨b, off, rfl, -, -, hcell⟩ := HAT.out k hkl
      have hin : (k : Int) < (L.length : Int) := by omega
      have hin0 : (0 : Int) ≤ (k : Int) := by omega
      by_cases he : L[k] = n
      · have hp : placeI L n = k := by unfold placeI; rw [place_at hkl HNO.out he]
        have hb : (L[k] == n) = true := by simpa using he
        have HP := Lib.hid hp
        generalize L[k] = x at *
        clear hp he
        go_wp2
        go_ret
        exact ⟨by rw [HP.out]; rfl, rfl⟩
      · have hb : (L[k] == n) = false := by simpa using he
        have hnx : NoPl L n (k + 1) := fun i hi hik => by
          by_cases hik2 : i = k
          · subst hik2; exact he
          · exact HNO.out i hi (by omega)
        have HNX := Lib.hid hnx
        generalize L[k] = x at *
        clear hnx he
        go_wp2
        go_roundw
        case rel => exact ⟨k + 1, by omega, by go_num, HNX.out, rfl⟩
        case measure => simp [intOf]; omega
    · have hin : decide ((k : Int) < (L.length : Int)) = false := by simp; omega
      obtain rfl : k = L.length := by omega
      have hp : placeI L n = -1 := by unfold placeI; rw [place_no HNO.out]
      have HP := Lib.hid hp
      clear hp
      go_wp2
      go_ret
      exact ⟨by rw [HP.out]; rfl, rfl⟩
end Go.Proofs.Ytoklbeogmcdgaaa.Tms
