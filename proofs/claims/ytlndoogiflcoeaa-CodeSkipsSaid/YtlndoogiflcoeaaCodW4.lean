/-
  What the check of the slots comes to, walked over the program.
-/
import Derived.Test.YtlndoogiflcoeaaCodW3
namespace Go.Proofs.Ytlndoogiflcoeaa.Cod
open Go Go.RowKit Go.Proofs.Ytlndoogiflcoeaa.Reg

/-- how many slots were met first, where each stands as it may -/
def slotsN : List Ins → Nat → Option Nat
  | [], n => some n
  | i :: l, n => if i.op = 2 then (if i.a = n then slotsN l (n + 1) else none) else if i.op = 3 ∧ (i.a < 0 ∨ (n : Int) ≤ i.a) then none else slotsN l n
def slotsA (L : List Ins) (k n : Nat) : Option Nat := slotsN (L.drop k) n
def slotsOk (L : List Ins) (s : Int) : Bool := match slotsN L 0 with
  | some n => (n : Int) == s
  | none => false

theorem slotsA_end (L : List Ins) (k n : Nat) (h : L.length ≤ k) : slotsA L k n = some n := by simp [slotsA, List.drop_eq_nil_of_le h, slotsN]
theorem slotsA_cons (L : List Ins) (k n : Nat) (h : k < L.length) : slotsA L k n = if L[k].op = 2 then (if L[k].a = n then slotsA L (k + 1) (n + 1) else none) else if L[k].op = 3 ∧ (L[k].a < 0 ∨ (n : Int) ≤ L[k].a) then none else slotsA L (k + 1) n := by
  unfold slotsA; rw [List.drop_eq_getElem_cons h]; rfl

abbrev codVal (c : Cod) (lv : Value) : Value := .agg #[.string c.name, .int .i64 c.args, .int .i64 c.slots, .int .i64 c.body, lv]

def SlRel (L : List Ins) (W : World) (n c : Value) (wr : World) : Prop :=
  ∃ k m : Nat, k ≤ L.length ∧ m ≤ k ∧ c = .int .i64 k ∧ n = .int .i64 m ∧ slotsA L k m = slotsN L 0 ∧ Below W.heap.size W wr

theorem sl_none {L : List Ins} {s : Int} {x : Option Nat} (h : x = slotsN L 0) (hx : x = none) : slotsOk L s = false := by
  unfold slotsOk; rw [← h, hx]
theorem sl_some {L : List Ins} {s : Int} {x : Option Nat} {m : Nat} (h : x = slotsN L 0) (hx : x = some m) : slotsOk L s = ((m : Int) == s) := by
  unfold slotsOk; rw [← h, hx]

set_option maxHeartbeats 800000 in
theorem go_slots (c : Cod) (v : Value) (w : World) (hv : InsSl w v c.l) (hl : c.l.length ≤ 1000000) :
    Calls Try.prog 43 #[codVal c v] w (Says (slotsOk c.l c.slots) w) := by
  obtain ⟨a, cap, rfl, hc⟩ := hv
  obtain ⟨nm, ar, sl, bo, L⟩ := c
  dsimp only at *
  have hW0 : Below w.heap.size w (w.alloc (.cells #[.string nm, .int .i64 ar, .int .i64 sl, .int .i64 bo, .slice a L.length cap] 44)) := (Below.refl _ _).alloc (Nat.le_refl _) _
  have hf : (w.alloc (.cells #[.string nm, .int .i64 ar, .int .i64 sl, .int .i64 bo, .slice a L.length cap] 44)).cell? ⟨w.heap.size, 2, none⟩ = some (.int .i64 sl) := World.cell?_alloc_at _ _ _ _ rfl
  have hlt : w.heap.size < (w.alloc (.cells #[.string nm, .int .i64 ar, .int .i64 sl, .int .i64 bo, .slice a L.length cap] 44)).heap.size := by simp
  go_enter Try.func43, Try.ntmps43
  go_wp2
  generalize (w.alloc (.cells #[.string nm, .int .i64 ar, .int .i64 sl, .int .i64 bo, .slice a L.length cap] 44)) = W at *
  have hst : SlRel L W (.int .i64 ((0 : Nat) : Int)) (.int .i64 ((0 : Nat) : Int)) W := ⟨0, 0, by omega, by omega, rfl, rfl, rfl, Below.refl _ _⟩
  have H := Lib.hid hst
  clear hst
  go_loopw [3, 9] (fun n c wr => SlRel L W n c wr) (fun _ c _ => L.length - (intOf c).toNat)
  case atStart => exact H.out
  case round =>
    obtain ⟨k, m, hk, hm, rfl, rfl, hs, hbl⟩ := hrel
    have HS := Lib.hid hs
    have hbl0 : Below w.heap.size w wr := hW0.trans (hbl.mono (by omega))
    have hf' := (hbl.cell (p := ⟨w.heap.size, 2, none⟩) hlt).trans hf
    clear hs H hf
    by_cases hkl : k < L.length
    · obtain ⟨b2, off, rfl, hi⟩ := hc k hkl
      have hi' := hi.below hbl0 hi.lt
      obtain ⟨g0, g1, g2, g3⟩ := hi'
      have hbr2 : b2 < wr.heap.size := by have := hi.lt; have := hbl0.size; omega
      have hcons := slotsA_cons L k m hkl
      have HC := Lib.hid hcons
      clear hc hi hcons
      generalize L[k] = i at *
      obtain ⟨iop, ia, in_, is⟩ := i
      dsimp only at *
      by_cases h2 : iop = 2
      · by_cases ha : ia = m
        · subst h2 ha
          go_wp2
          go_roundw
          case rel => exact ⟨k + 1, m + 1, by omega, by omega, by go_num, by go_num, by rw [← HS.out, HC.out]; simp, hbl.alloc hbl.size _⟩
          case measure => simp [intOf]; omega
        · have h3 : (ia != (m : Int)) = true := by simpa using ha
          subst h2
          go_wp2
          go_ret
          exact says (sl_none HS.out (by rw [HC.out]; simp [ha])).symm (hbl0.alloc hbl0.size _)
      · have h3 : (iop == 2) = false := by simpa using h2
        by_cases hb : iop = 3 ∧ (ia < 0 ∨ (m : Int) ≤ ia)
        · obtain ⟨rfl, hb⟩ := hb
          go_wp2
          all_goals go_ret
          all_goals exact says (sl_none HS.out (by rw [HC.out]; simp [hb])).symm (hbl0.alloc hbl0.size _)
        · by_cases h4 : iop = 3
          · have h5 : ¬ ia < 0 := by omega
            have h6 : ¬ (m : Int) ≤ ia := by omega
            subst h4
            go_wp2
            go_roundw
            case rel => exact ⟨k + 1, m, by omega, by omega, by go_num, by go_num, by rw [← HS.out, HC.out]; simp [h5, h6], hbl.alloc hbl.size _⟩
            case measure => simp [intOf]; omega
          · have h7 : (iop == 3) = false := by simpa using h4
            go_wp2
            go_roundw
            case rel => exact ⟨k + 1, m, by omega, by omega, by go_num, by go_num, by rw [← HS.out, HC.out]; simp [h2, h4], hbl.alloc hbl.size _⟩
            case measure => simp [intOf]; omega
    · have he := slotsA_end L k m (by omega)
      have HE := Lib.hid he
      clear he
      go_wp2
      go_ret
      exact says (sl_some HS.out HE.out).symm hbl0
end Go.Proofs.Ytlndoogiflcoeaa.Cod
